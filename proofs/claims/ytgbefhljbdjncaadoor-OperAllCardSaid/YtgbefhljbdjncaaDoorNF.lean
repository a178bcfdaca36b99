/-
  The program's quoted atoms, comments, layout: as the plain lexer says.
-/
import Derived.Test.YtgbefhljbdjncaaDoorNE
namespace Go.Am
open Go
theorem ev_from {cl : Call} {e : Env} {h : Hp} {x lo : Opd} {sz i : Nat} {s : List UInt8} {v : Int} (hx : ev e x = .c (.d (.list sz (encB s)))) (hs : sz = 1 ∨ s = []) (hy : ev e lo = .c (.d (.int .i64 v))) (hv : v = (i : Int)) (hi : i ≤ s.length) :
    eval cl e h (.slice 1 x (some lo) none none) = some (.c (.d (.list 1 (encB (s.drop i)))), h) := by
  subst hv
  rw [ev_slb hx hs (show loOf e (some lo) = some (i : Int) by show asInt (ev e lo) = _; rw [hy]; rfl) (show hiOf e s.length none = some (s.length : Int) from rfl) (by omega) (by omega) (by omega)]
  simp
set_option maxRecDepth 8000 in
set_option maxHeartbeats 8000000 in
theorem we113 (sz : Nat) (s : List UInt8) (hz : sz = 1 ∨ s = []) (hroom : s.length ≤ room) : awp (tbl [(111, onB FTake)]) c113 (PureQ [.t 2, .t 3, .t 4] (FQuote 1 s)) ⟨argE 0 (dvArgs [.c (.list sz (encB s))]), ⟨0, []⟩⟩ := by
  have hl : (encB s).length = s.length := encB_length s
  unfold room at hroom
  unfold c113
  repeat' first | (with_reducible first|refine Za ?_|refine Zb ?_|refine Zc ?_|refine Zd ?_|refine Ze ?_|refine Zf ?_|refine Zg ?_|refine Zh ?_|refine Zi ?_|refine Zj ?_|refine Zk ?_|refine Zl ?_|refine Zm ?_|refine Zn ?_|refine Zo ?_|refine Zp ?_|refine Zq ?_|refine Zr ?_|refine Zs ?_|refine Zt ?_|refine Zu ?_)|(with_reducible refine Zv (by decide) ?_)|((with_reducible apply Zw);rfl)|((with_reducible apply Zx);rfl;decide)|((with_reducible apply Zy);rfl)|((with_reducible apply Zz);rfl)|((with_reducible apply ZA);rfl) | ((with_reducible first|apply ZD|apply ZE|apply ZF|apply ZG|apply ZH|apply ZI);rfl;rfl;all_goals (intro hc;first|(exfalso;omega)|skip))|((with_reducible first|apply ZJ|apply ZK);rfl;rfl;all_goals (intro hc;first|contradiction|skip))|((with_reducible first|apply ZL|apply ZM);rfl;rfl;omega;omega)|((with_reducible first|apply ZN|apply ZO);rfl;rfl;omega;omega;intro c hget hc)|((with_reducible apply ZP);rfl;(first|exact .inl rfl|assumption);rfl;rfl;omega;omega;omega;intro s' hs' hl')|((with_reducible apply ZQ);rfl;rfl;rfl;omega;omega;omega;intro s' hs' hl')|((with_reducible apply ZR);rfl) | (with_reducible first|refine Za ?_|refine Zb ?_|refine Zc ?_|refine Zd ?_|refine Ze ?_|refine Zf ?_|refine Zg ?_|refine Zh ?_|refine Zi ?_|refine Zj ?_|refine Zk ?_|refine Zl ?_|refine Zm ?_|refine Zn ?_|refine Zo ?_|refine Zp ?_|refine Zq ?_|refine Zr ?_|refine Zs ?_|refine Zt ?_|refine Zu ?_)|(with_reducible refine Zv (by decide) ?_)|((with_reducible apply Zw);rfl)|((with_reducible apply Zx);rfl;decide)|((with_reducible apply Zy);rfl)|((with_reducible apply Zz);rfl)|((with_reducible apply ZA);rfl)|refine ZB rfl ?_|refine ZC rfl ?_
  refine awp_jump (fun _ _ => False) (fun _ h => h) ?_ (fun _ _ _ _ h => h.elim)
  intro K hK
  by_cases h39 : nxt s 0 ≠ 39
  · rw [fq_none h39]
    by_cases h0 : s.length = 0
    · repeat' first | (with_reducible first|refine Za ?_|refine Zb ?_|refine Zc ?_|refine Zd ?_|refine Ze ?_|refine Zf ?_|refine Zg ?_|refine Zh ?_|refine Zi ?_|refine Zj ?_|refine Zk ?_|refine Zl ?_|refine Zm ?_|refine Zn ?_|refine Zo ?_|refine Zp ?_|refine Zq ?_|refine Zr ?_|refine Zs ?_|refine Zt ?_|refine Zu ?_)|(with_reducible refine Zv (by decide) ?_)|((with_reducible apply Zw);rfl)|((with_reducible apply Zx);rfl;decide)|((with_reducible apply Zy);rfl)|((with_reducible apply Zz);rfl)|((with_reducible apply ZA);rfl) | ((with_reducible first|apply ZD|apply ZE|apply ZF|apply ZG|apply ZH|apply ZI);rfl;rfl;all_goals (intro hc;first|(exfalso;omega)|skip))|((with_reducible first|apply ZJ|apply ZK);rfl;rfl;all_goals (intro hc;first|contradiction|skip))|((with_reducible first|apply ZL|apply ZM);rfl;rfl;omega;omega)|((with_reducible first|apply ZN|apply ZO);rfl;rfl;omega;omega;intro c hget hc)|((with_reducible apply ZP);rfl;(first|exact .inl rfl|assumption);rfl;rfl;omega;omega;omega;intro s' hs' hl')|((with_reducible apply ZQ);rfl;rfl;rfl;omega;omega;omega;intro s' hs' hl')|((with_reducible apply ZR);rfl) | (with_reducible first|refine Za ?_|refine Zb ?_|refine Zc ?_|refine Zd ?_|refine Ze ?_|refine Zf ?_|refine Zg ?_|refine Zh ?_|refine Zi ?_|refine Zj ?_|refine Zk ?_|refine Zl ?_|refine Zm ?_|refine Zn ?_|refine Zo ?_|refine Zp ?_|refine Zq ?_|refine Zr ?_|refine Zs ?_|refine Zt ?_|refine Zu ?_)|(with_reducible refine Zv (by decide) ?_)|((with_reducible apply Zw);rfl)|((with_reducible apply Zx);rfl;decide)|((with_reducible apply Zy);rfl)|((with_reducible apply Zz);rfl)|((with_reducible apply ZA);rfl)|refine ZB rfl ?_|refine ZC rfl ?_
      exact ⟨_, rfl, rfl⟩
    · obtain ⟨c, hg, -, -⟩ := at_of (show 0 < s.length by omega)
      rw [nxt_some hg] at h39
      repeat' first | (with_reducible first|refine Za ?_|refine Zb ?_|refine Zc ?_|refine Zd ?_|refine Ze ?_|refine Zf ?_|refine Zg ?_|refine Zh ?_|refine Zi ?_|refine Zj ?_|refine Zk ?_|refine Zl ?_|refine Zm ?_|refine Zn ?_|refine Zo ?_|refine Zp ?_|refine Zq ?_|refine Zr ?_|refine Zs ?_|refine Zt ?_|refine Zu ?_)|(with_reducible refine Zv (by decide) ?_)|((with_reducible apply Zw);rfl)|((with_reducible apply Zx);rfl;decide)|((with_reducible apply Zy);rfl)|((with_reducible apply Zz);rfl)|((with_reducible apply ZA);rfl) | ((with_reducible apply step_byteN (i := 0)); rfl; rfl; exact hg) | ((with_reducible first|apply ZD|apply ZE|apply ZF|apply ZG|apply ZH|apply ZI);rfl;rfl;all_goals (intro hc;first|(exfalso;omega)|skip))|((with_reducible first|apply ZJ|apply ZK);rfl;rfl;all_goals (intro hc;first|contradiction|skip))|((with_reducible first|apply ZL|apply ZM);rfl;rfl;omega;omega)|((with_reducible first|apply ZN|apply ZO);rfl;rfl;omega;omega;intro c hget hc)|((with_reducible apply ZP);rfl;(first|exact .inl rfl|assumption);rfl;rfl;omega;omega;omega;intro s' hs' hl')|((with_reducible apply ZQ);rfl;rfl;rfl;omega;omega;omega;intro s' hs' hl')|((with_reducible apply ZR);rfl) | (with_reducible first|refine Za ?_|refine Zb ?_|refine Zc ?_|refine Zd ?_|refine Ze ?_|refine Zf ?_|refine Zg ?_|refine Zh ?_|refine Zi ?_|refine Zj ?_|refine Zk ?_|refine Zl ?_|refine Zm ?_|refine Zn ?_|refine Zo ?_|refine Zp ?_|refine Zq ?_|refine Zr ?_|refine Zs ?_|refine Zt ?_|refine Zu ?_)|(with_reducible refine Zv (by decide) ?_)|((with_reducible apply Zw);rfl)|((with_reducible apply Zx);rfl;decide)|((with_reducible apply Zy);rfl)|((with_reducible apply Zz);rfl)|((with_reducible apply ZA);rfl)|refine ZB rfl ?_|refine ZC rfl ?_
      exact ⟨_, rfl, rfl⟩
  · have h39 : nxt s 0 = 39 := by omega
    have h0 : 0 < s.length := nxt_in (by omega)
    obtain ⟨c0, hg0, -, -⟩ := at_of h0
    have hc0 : c0.toNat = 39 := by rw [← nxt_some hg0]; exact h39
    repeat' first | (with_reducible first|refine Za ?_|refine Zb ?_|refine Zc ?_|refine Zd ?_|refine Ze ?_|refine Zf ?_|refine Zg ?_|refine Zh ?_|refine Zi ?_|refine Zj ?_|refine Zk ?_|refine Zl ?_|refine Zm ?_|refine Zn ?_|refine Zo ?_|refine Zp ?_|refine Zq ?_|refine Zr ?_|refine Zs ?_|refine Zt ?_|refine Zu ?_)|(with_reducible refine Zv (by decide) ?_)|((with_reducible apply Zw);rfl)|((with_reducible apply Zx);rfl;decide)|((with_reducible apply Zy);rfl)|((with_reducible apply Zz);rfl)|((with_reducible apply ZA);rfl) | ((with_reducible apply step_byteN (i := 0)); rfl; rfl; exact hg0) | ((with_reducible first|apply ZD|apply ZE|apply ZF|apply ZG|apply ZH|apply ZI);rfl;rfl;all_goals (intro hc;first|(exfalso;omega)|skip))|((with_reducible first|apply ZJ|apply ZK);rfl;rfl;all_goals (intro hc;first|contradiction|skip))|((with_reducible first|apply ZL|apply ZM);rfl;rfl;omega;omega)|((with_reducible first|apply ZN|apply ZO);rfl;rfl;omega;omega;intro c hget hc)|((with_reducible apply ZP);rfl;(first|exact .inl rfl|assumption);rfl;rfl;omega;omega;omega;intro s' hs' hl')|((with_reducible apply ZQ);rfl;rfl;rfl;omega;omega;omega;intro s' hs' hl')|((with_reducible apply ZR);rfl) | (with_reducible first|refine Za ?_|refine Zb ?_|refine Zc ?_|refine Zd ?_|refine Ze ?_|refine Zf ?_|refine Zg ?_|refine Zh ?_|refine Zi ?_|refine Zj ?_|refine Zk ?_|refine Zl ?_|refine Zm ?_|refine Zn ?_|refine Zo ?_|refine Zp ?_|refine Zq ?_|refine Zr ?_|refine Zs ?_|refine Zt ?_|refine Zu ?_)|(with_reducible refine Zv (by decide) ?_)|((with_reducible apply Zw);rfl)|((with_reducible apply Zx);rfl;decide)|((with_reducible apply Zy);rfl)|((with_reducible apply Zz);rfl)|((with_reducible apply ZA);rfl)|refine ZB rfl ?_|refine ZC rfl ?_
    refine awp_loop (fun n st => ∃ (i : Nat) (text : List UInt8), 1 ≤ i ∧ i ≤ s.length ∧ text.length ≤ i ∧ s.length - i < n ∧ quoteR (s.drop 1) = addQ text (i - 1) (quoteR (s.drop i)) ∧ st = ⟨[(0, .c (.d (.list sz (encB s)))), (2, .c (.own 0 (encB text).length)), (5, .c (.d (.int .i64 (i : Nat))))], ⟨1, [(0, .row 1 (encB text))]⟩⟩)
      (s.length + 1) ?_ (by rintro st ⟨i, text, h1, h2, h3, h4, _⟩; omega) ?_
    · exact weak_keep [0, 2, 5] rfl ⟨1, [], by omega, by omega, by simp, by omega, by simp [addQ], rfl⟩
    · rintro n K' hK' st ⟨i, text, h1, h2, h3, h4, hq, rfl⟩
      by_cases hend : i = s.length
      · rw [fq_err h39 hq h1 (qend (by omega)) (by decide)]
        repeat' first | (with_reducible first|refine Za ?_|refine Zb ?_|refine Zc ?_|refine Zd ?_|refine Ze ?_|refine Zf ?_|refine Zg ?_|refine Zh ?_|refine Zi ?_|refine Zj ?_|refine Zk ?_|refine Zl ?_|refine Zm ?_|refine Zn ?_|refine Zo ?_|refine Zp ?_|refine Zq ?_|refine Zr ?_|refine Zs ?_|refine Zt ?_|refine Zu ?_)|(with_reducible refine Zv (by decide) ?_)|((with_reducible apply Zw);rfl)|((with_reducible apply Zx);rfl;decide)|((with_reducible apply Zy);rfl)|((with_reducible apply Zz);rfl)|((with_reducible apply ZA);rfl) | ((with_reducible first|apply ZD|apply ZE|apply ZF|apply ZG|apply ZH|apply ZI);rfl;rfl;all_goals (intro hc;first|(exfalso;omega)|skip))|((with_reducible first|apply ZJ|apply ZK);rfl;rfl;all_goals (intro hc;first|contradiction|skip))|((with_reducible first|apply ZL|apply ZM);rfl;rfl;omega;omega)|((with_reducible first|apply ZN|apply ZO);rfl;rfl;omega;omega;intro c hget hc)|((with_reducible apply ZP);rfl;(first|exact .inl rfl|assumption);rfl;rfl;omega;omega;omega;intro s' hs' hl')|((with_reducible apply ZQ);rfl;rfl;rfl;omega;omega;omega;intro s' hs' hl')|((with_reducible apply ZR);rfl) | (with_reducible first|refine Za ?_|refine Zb ?_|refine Zc ?_|refine Zd ?_|refine Ze ?_|refine Zf ?_|refine Zg ?_|refine Zh ?_|refine Zi ?_|refine Zj ?_|refine Zk ?_|refine Zl ?_|refine Zm ?_|refine Zn ?_|refine Zo ?_|refine Zp ?_|refine Zq ?_|refine Zr ?_|refine Zs ?_|refine Zt ?_|refine Zu ?_)|(with_reducible refine Zv (by decide) ?_)|((with_reducible apply Zw);rfl)|((with_reducible apply Zx);rfl;decide)|((with_reducible apply Zy);rfl)|((with_reducible apply Zz);rfl)|((with_reducible apply ZA);rfl)|refine ZB rfl ?_|refine ZC rfl ?_
        exact ⟨_, rfl, rfl⟩
      · obtain ⟨c, hg, hdr, hg1⟩ := at_of (show i < s.length by omega)
        have hcb := UInt8.toNat_lt c
        obtain ⟨k, ok, hT⟩ : ∃ k ok, takeOf (s.drop i) = (k, ok) := ⟨_, _, rfl⟩
        have hk := take_le (s.drop i)
        have hk1 := take_pos (s := s.drop i) (by rw [hdr]; simp)
        rw [hT] at hk hk1
        simp only [List.length_drop] at hk hk1
        have hcall : onB FTake [.c (.list 1 (encB (s.drop i)))] = some (.tup [.c (.int .i64 (k : Nat)), .c (.bool ok)]) := take_call (.inl rfl) (by rw [List.length_drop]; unfold room; omega) hT
        by_cases hlast : i + 1 < s.length
        · obtain ⟨d, hgd, -, -⟩ := at_of hlast
          have hdb := UInt8.toNat_lt d
          have hnx := nxt_some hgd
          have hidx : ∀ (cl : Call) e h x y v, ev e x = .c (.d (.list sz (encB s))) → ev e y = .c (.d (.int .i64 v)) → v = (i : Int) + 1 → eval cl e h (.idxAddr 1 x y) = some (.c (.lptr [.int .u8 d.toNat] 0), h) := fun cl e h x y v hx hy hv => by
            subst hv
            exact ev_idx hx hy (by omega) (by rw [show ((i : Int) + 1).toNat = i + 1 by omega]; exact encB_at hgd) rfl
          cases ok <;>
          repeat' first
            | (with_reducible first|refine Za ?_|refine Zb ?_|refine Zc ?_|refine Zd ?_|refine Ze ?_|refine Zf ?_|refine Zg ?_|refine Zh ?_|refine Zi ?_|refine Zj ?_|refine Zk ?_|refine Zl ?_|refine Zm ?_|refine Zn ?_|refine Zo ?_|refine Zp ?_|refine Zq ?_|refine Zr ?_|refine Zs ?_|refine Zt ?_|refine Zu ?_)|(with_reducible refine Zv (by decide) ?_)|((with_reducible apply Zw);rfl)|((with_reducible apply Zx);rfl;decide)|((with_reducible apply Zy);rfl)|((with_reducible apply Zz);rfl)|((with_reducible apply ZA);rfl)
            | ((with_reducible apply step_byteN (i := i)); rfl; rfl; exact hg)
            | refine ZB (hidx _ _ _ _ _ _ rfl rfl rfl) ?_
            | refine ZB (ev_from (i := i) rfl hz rfl rfl (by omega)) ?_
            | ((with_reducible first|apply ZD|apply ZE|apply ZF|apply ZG|apply ZH|apply ZI);rfl;rfl;all_goals (intro hc;first|(exfalso;omega)|skip))|((with_reducible first|apply ZJ|apply ZK);rfl;rfl;all_goals (intro hc;first|contradiction|skip))|((with_reducible first|apply ZL|apply ZM);rfl;rfl;omega;omega)|((with_reducible first|apply ZN|apply ZO);rfl;rfl;omega;omega;intro c hget hc)|((with_reducible apply ZP);rfl;(first|exact .inl rfl|assumption);rfl;rfl;omega;omega;omega;intro s' hs' hl')|((with_reducible apply ZQ);rfl;rfl;rfl;omega;omega;omega;intro s' hs' hl')|((with_reducible apply ZR);rfl)
            | ((with_reducible apply step_lit1); rfl; omega; omega; intro c2 hc2)
            | ((with_reducible apply step_app_b); rfl; rfl; rfl; rfl; exact .inl rfl; (first | omega | (simp only [List.length_cons, List.length_nil]; omega)); (intro l; rfl); (intro u hu hul; (try simp only [List.length_cons, List.length_nil] at hul)))
            | ((with_reducible apply Z1 (f := 111));rfl;rfl;rfl;exact hcall;rfl)
            | (with_reducible first|refine Za ?_|refine Zb ?_|refine Zc ?_|refine Zd ?_|refine Ze ?_|refine Zf ?_|refine Zg ?_|refine Zh ?_|refine Zi ?_|refine Zj ?_|refine Zk ?_|refine Zl ?_|refine Zm ?_|refine Zn ?_|refine Zo ?_|refine Zp ?_|refine Zq ?_|refine Zr ?_|refine Zs ?_|refine Zt ?_|refine Zu ?_)|(with_reducible refine Zv (by decide) ?_)|((with_reducible apply Zw);rfl)|((with_reducible apply Zx);rfl;decide)|((with_reducible apply Zy);rfl)|((with_reducible apply Zz);rfl)|((with_reducible apply ZA);rfl)|refine ZB rfl ?_|refine ZC rfl ?_
            | (rw [fq_err h39 hq h1 (q10 hdr (by omega)) (by decide)]; exact ⟨_, rfl, rfl⟩)
            | (rw [fq_done h39 hq h1 (q39e hdr (by omega) (by omega))]; exact ⟨_, rfl, toDVt_own3 rfl⟩)
            | (rw [fq_err h39 hq h1 (q92e hdr (by omega) (by omega) (by omega) (by omega)) (by decide)]; exact ⟨_, rfl, rfl⟩)
            | (rw [fq_err h39 hq h1 (qlow hdr (by omega) (by omega)) (by decide)]; exact ⟨_, rfl, rfl⟩)
            | (rw [fq_err h39 hq h1 (qbad hdr (by omega) (by omega) (by omega) (by omega) hT) (by decide)]; exact ⟨_, rfl, rfl⟩)
            | exact hK' _ (weak_keep [0, 2, 5] rfl ⟨i + 2, u, by omega, by omega, by omega, by omega, q_step hq h1 (q39 hdr (by omega) (by omega) (by omega)) hu, rfl⟩)
            | exact hK' _ (weak_keep [0, 2, 5] rfl ⟨i + 2, u, by omega, by omega, by omega, by omega, q_step hq h1 (q92n hdr (by omega) (by omega) (by omega)) hu, rfl⟩)
            | exact hK' _ (weak_keep [0, 2, 5] rfl ⟨i + 2, u, by omega, by omega, by omega, by omega, q_step hq h1 (q92 hdr (by omega) (by omega) (by omega)) hu, rfl⟩)
            | exact hK' _ (weak_keep [0, 2, 5] rfl ⟨i + k, u, by omega, by omega, by omega, by omega, q_step hq h1 (qtake hdr (by omega) (by omega) (by omega) (by omega) hT) (by rw [hu, slice_take hs' rfl]), rfl⟩)
        · have hnx : nxt s (i + 1) = 0 := nxt_none (by omega)
          cases ok <;>
          repeat' first
            | (with_reducible first|refine Za ?_|refine Zb ?_|refine Zc ?_|refine Zd ?_|refine Ze ?_|refine Zf ?_|refine Zg ?_|refine Zh ?_|refine Zi ?_|refine Zj ?_|refine Zk ?_|refine Zl ?_|refine Zm ?_|refine Zn ?_|refine Zo ?_|refine Zp ?_|refine Zq ?_|refine Zr ?_|refine Zs ?_|refine Zt ?_|refine Zu ?_)|(with_reducible refine Zv (by decide) ?_)|((with_reducible apply Zw);rfl)|((with_reducible apply Zx);rfl;decide)|((with_reducible apply Zy);rfl)|((with_reducible apply Zz);rfl)|((with_reducible apply ZA);rfl)
            | ((with_reducible apply step_byteN (i := i)); rfl; rfl; exact hg)
            | refine ZB (ev_from (i := i) rfl hz rfl rfl (by omega)) ?_
            | ((with_reducible first|apply ZD|apply ZE|apply ZF|apply ZG|apply ZH|apply ZI);rfl;rfl;all_goals (intro hc;first|(exfalso;omega)|skip))|((with_reducible first|apply ZJ|apply ZK);rfl;rfl;all_goals (intro hc;first|contradiction|skip))|((with_reducible first|apply ZL|apply ZM);rfl;rfl;omega;omega)|((with_reducible first|apply ZN|apply ZO);rfl;rfl;omega;omega;intro c hget hc)|((with_reducible apply ZP);rfl;(first|exact .inl rfl|assumption);rfl;rfl;omega;omega;omega;intro s' hs' hl')|((with_reducible apply ZQ);rfl;rfl;rfl;omega;omega;omega;intro s' hs' hl')|((with_reducible apply ZR);rfl)
            | ((with_reducible apply step_lit1); rfl; omega; omega; intro c2 hc2)
            | ((with_reducible apply step_app_b); rfl; rfl; rfl; rfl; exact .inl rfl; (first | omega | (simp only [List.length_cons, List.length_nil]; omega)); (intro l; rfl); (intro u hu hul; (try simp only [List.length_cons, List.length_nil] at hul)))
            | ((with_reducible apply Z1 (f := 111));rfl;rfl;rfl;exact hcall;rfl)
            | (with_reducible first|refine Za ?_|refine Zb ?_|refine Zc ?_|refine Zd ?_|refine Ze ?_|refine Zf ?_|refine Zg ?_|refine Zh ?_|refine Zi ?_|refine Zj ?_|refine Zk ?_|refine Zl ?_|refine Zm ?_|refine Zn ?_|refine Zo ?_|refine Zp ?_|refine Zq ?_|refine Zr ?_|refine Zs ?_|refine Zt ?_|refine Zu ?_)|(with_reducible refine Zv (by decide) ?_)|((with_reducible apply Zw);rfl)|((with_reducible apply Zx);rfl;decide)|((with_reducible apply Zy);rfl)|((with_reducible apply Zz);rfl)|((with_reducible apply ZA);rfl)|refine ZB rfl ?_|refine ZC rfl ?_
            | (rw [fq_err h39 hq h1 (q10 hdr (by omega)) (by decide)]; exact ⟨_, rfl, rfl⟩)
            | (rw [fq_done h39 hq h1 (q39e hdr (by omega) (by omega))]; exact ⟨_, rfl, toDVt_own3 rfl⟩)
            | (rw [fq_err h39 hq h1 (q92e hdr (by omega) (by omega) (by omega) (by omega)) (by decide)]; exact ⟨_, rfl, rfl⟩)
            | (rw [fq_err h39 hq h1 (qlow hdr (by omega) (by omega)) (by decide)]; exact ⟨_, rfl, rfl⟩)
            | (rw [fq_err h39 hq h1 (qbad hdr (by omega) (by omega) (by omega) (by omega) hT) (by decide)]; exact ⟨_, rfl, rfl⟩)
            | exact hK' _ (weak_keep [0, 2, 5] rfl ⟨i + k, u, by omega, by omega, by omega, by omega, q_step hq h1 (qtake hdr (by omega) (by omega) (by omega) (by omega) hT) (by rw [hu, slice_take hs' rfl]), rfl⟩)
theorem pe113 {m : Int} : PureOk Go.Proofs.Tryd.prog (glb m) 113 (onB (FQuote 1)) := onB_ok (fn113 m) (callOk_cons (pe111 m) (callOk_nil _ _)) we113

end Go.Am
