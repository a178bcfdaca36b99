/-
  fits.Part, fits.Leaf of the reference; its Entry.
-/
import Derived.Test.YtnhalnblbfgbkaaDoorAQA
import Derived.Test.YtnhalnblbfgbkaaDoorAMT
namespace Go.Am
open Go
theorem mem126 (k : Int) : memI [1, 2, 6] k = true ↔ k = 1 ∨ k = 2 ∨ k = 6 := by
  unfold memI idxI idxI idxI idxI
  split
  · simp_all
  · split
    · simp_all
    · split
      · simp_all
      · simp_all
set_option maxRecDepth 8000 in
set_option maxHeartbeats 2000000 in
theorem w28 (x : Tk5 × List UInt8) (_ : True) : awp (tbl []) c28 (PureQ [.t 4] (.c (.bool (partK x.1 x.2)))) ⟨argE 0 (dvArgs [.agg (tkD x.1), .c (.str x.2)]), ⟨0, []⟩⟩ := by
  obtain ⟨⟨k, a, b, s, e⟩, n⟩ := x
  simp only [partK, tkD]
  by_cases hs : s = n
  · have e1 : (s == n) = true := by simpa using hs
    rw [e1, Bool.true_and]
    by_cases hk : k = 1 ∨ k = 2 ∨ k = 6
    · rw [(mem126 k).2 hk]
      unfold c28
      rcases hk with rfl | rfl | rfl <;> (repeat' first | refine GoH ?_ | refine ZB (ev_eqs_t rfl rfl hs) ?_ | ((with_reducible first|apply ZD|apply ZE|apply ZF|apply ZG|apply ZH|apply ZI);rfl;rfl;all_goals (intro hc;first|(exfalso;omega)|skip))|((with_reducible first|apply ZJ|apply ZK);rfl;rfl;all_goals (intro hc;first|contradiction|skip))|((with_reducible first|apply ZL|apply ZM);rfl;rfl;omega;omega)|((with_reducible first|apply ZN|apply ZO);rfl;rfl;omega;omega;intro c hget hc)|((with_reducible apply ZP);rfl;(first|exact .inl rfl|assumption);rfl;rfl;omega;omega;omega;intro s' hs' hl')|((with_reducible apply ZQ);rfl;rfl;rfl;omega;omega;omega;intro s' hs' hl')|((with_reducible apply ZR);rfl) | refine GoH ?_|refine ZB rfl ?_|refine ZC rfl ?_) <;> exact ⟨_, rfl, rfl⟩
    · rw [Bool.eq_false_iff.2 (fun h => hk ((mem126 k).1 h))]
      unfold c28
      repeat' first | refine GoH ?_ | ((with_reducible first|apply ZD|apply ZE|apply ZF|apply ZG|apply ZH|apply ZI);rfl;rfl;all_goals (intro hc;first|(exfalso;omega)|skip))|((with_reducible first|apply ZJ|apply ZK);rfl;rfl;all_goals (intro hc;first|contradiction|skip))|((with_reducible first|apply ZL|apply ZM);rfl;rfl;omega;omega)|((with_reducible first|apply ZN|apply ZO);rfl;rfl;omega;omega;intro c hget hc)|((with_reducible apply ZP);rfl;(first|exact .inl rfl|assumption);rfl;rfl;omega;omega;omega;intro s' hs' hl')|((with_reducible apply ZQ);rfl;rfl;rfl;omega;omega;omega;intro s' hs' hl')|((with_reducible apply ZR);rfl) | refine GoH ?_|refine ZB rfl ?_|refine ZC rfl ?_
      exact ⟨_, rfl, rfl⟩
  · have e1 : (s == n) = false := by simpa using hs
    rw [e1, Bool.false_and]
    by_cases hk : k = 1 ∨ k = 2 ∨ k = 6
    · unfold c28
      rcases hk with rfl | rfl | rfl <;> (repeat' first | refine GoH ?_ | refine ZB (ev_eqs_f rfl rfl hs) ?_ | ((with_reducible first|apply ZD|apply ZE|apply ZF|apply ZG|apply ZH|apply ZI);rfl;rfl;all_goals (intro hc;first|(exfalso;omega)|skip))|((with_reducible first|apply ZJ|apply ZK);rfl;rfl;all_goals (intro hc;first|contradiction|skip))|((with_reducible first|apply ZL|apply ZM);rfl;rfl;omega;omega)|((with_reducible first|apply ZN|apply ZO);rfl;rfl;omega;omega;intro c hget hc)|((with_reducible apply ZP);rfl;(first|exact .inl rfl|assumption);rfl;rfl;omega;omega;omega;intro s' hs' hl')|((with_reducible apply ZQ);rfl;rfl;rfl;omega;omega;omega;intro s' hs' hl')|((with_reducible apply ZR);rfl) | refine GoH ?_|refine ZB rfl ?_|refine ZC rfl ?_) <;> exact ⟨_, rfl, rfl⟩
    · unfold c28
      repeat' first | refine GoH ?_ | ((with_reducible first|apply ZD|apply ZE|apply ZF|apply ZG|apply ZH|apply ZI);rfl;rfl;all_goals (intro hc;first|(exfalso;omega)|skip))|((with_reducible first|apply ZJ|apply ZK);rfl;rfl;all_goals (intro hc;first|contradiction|skip))|((with_reducible first|apply ZL|apply ZM);rfl;rfl;omega;omega)|((with_reducible first|apply ZN|apply ZO);rfl;rfl;omega;omega;intro c hget hc)|((with_reducible apply ZP);rfl;(first|exact .inl rfl|assumption);rfl;rfl;omega;omega;omega;intro s' hs' hl')|((with_reducible apply ZQ);rfl;rfl;rfl;omega;omega;omega;intro s' hs' hl')|((with_reducible apply ZR);rfl) | refine GoH ?_|refine ZB rfl ?_|refine ZC rfl ?_
      exact ⟨_, rfl, rfl⟩
theorem pok28 (m : Int) : PureOk Go.Proofs.Tryd.prog (glb m) 15 T27 := .inl (fam_ok (fn28 m) (callOk_nil _ _) w28)
noncomputable def T71 : List DV → Option DV := fam (fun x : Op3 × List UInt8 => [.agg (opD x.1), .c (.str x.2)]) (fun x => x.1.pat.length ≤ 60) (fun x => .c (.bool (hasOp partE x.2 x.1)))
theorem T71_eq {o : Op3} {n : List UInt8} (h : o.pat.length ≤ 60) : T71 [.agg (opD o), .c (.str n)] = some (.c (.bool (hasOp partE n o))) := by
  refine fam_eq (ι := Op3 × List UInt8) (o, n) h ?_
  rintro ⟨o', n'⟩ _ e
  simp only [List.cons.injEq, DV.agg.injEq, DV.c.injEq, D.str.injEq, and_true] at e
  rw [opD_inj e.1, e.2]
set_option maxRecDepth 8000 in
set_option maxHeartbeats 4000000 in
theorem w71 (x : Op3 × List UInt8) (h : x.1.pat.length ≤ 60) : awp (tbl [(32, G32)]) c71 (PureQ [.t 4] (.c (.bool (hasOp partE x.2 x.1)))) ⟨argE 0 (dvArgs [.agg (opD x.1), .c (.str x.2)]), ⟨0, []⟩⟩ := by
  obtain ⟨⟨pat, g, a⟩, n⟩ := x
  simp only at h ⊢
  unfold hasOp
  simp only
  cases hS : shapeOf partE pat with
  | none =>
    have h32 : G32 [.c (.str pat)] = some (.tup [.agg [.list 0 [], .bool false, .bool false], .c (.int .i64 23)]) := by simp only [G32, hS, if_pos (show pat.length < room by unfold room; omega)]; rfl
    unfold c71
    repeat' first | refine GoH ?_ | ((with_reducible apply Z1 (f := 32));rfl;rfl;rfl;exact h32;rfl) | refine GoH ?_|refine ZB rfl ?_|refine ZC rfl ?_
    exact ⟨_, rfl, rfl⟩
  | some v =>
    obtain ⟨ps, l, r⟩ := v
    have h32 : G32 [.c (.str pat)] = some (.tup [.agg [.list 1 (ofStrs ps), .bool l, .bool r], .c (.int .i64 0)]) := by simp only [G32, hS, if_pos (show pat.length < room by unfold room; omega)]; rfl
    have hp4 : ps.length ≤ 4 := (mayS_inv (shapeOf_some hS).2.2).2.1
    have hlen := ofStrs_len ps
    dsimp only [hasS]
    unfold c71
    repeat' first | refine GoH ?_ | ((with_reducible apply Z1 (f := 32));rfl;rfl;rfl;exact h32;rfl) | refine GoH ?_|refine ZB rfl ?_|refine ZC rfl ?_
    refine awp_loop (fun m st => ∃ i : Nat, i ≤ ps.length ∧ ps.length - i < m ∧ idxOf (fun e => n == e) ps 0 = idxOf (fun e => n == e) (ps.drop i) i ∧
      st = ⟨[(1, .c (.d (.str n))), (5, .c (.ptr 1 0)), (7, .c (.d (.int .i64 (i : Nat))))], ⟨2, [(1, .cells [.d (.list 1 (ofStrs ps)), .d (.bool l), .d (.bool r)]), (0, .cells [.d (.str pat), .d (.int .i64 g), .d (.int .i64 a)])]⟩⟩) (ps.length + 1) ?_ (by rintro st ⟨i, h1, h2, _⟩; omega) ?_
    · exact weak_keep [1, 5, 7] rfl ⟨0, by omega, by omega, rfl, rfl⟩
    · rintro m K hK st ⟨i, hi, hm, hidx, rfl⟩
      by_cases hend : i = ps.length
      · have hm : idxOf (fun e => n == e) ps 0 = -1 := by rw [hidx, hend, List.drop_length]; rfl
        rw [hm]
        repeat' first | refine GoH ?_ | ((with_reducible first|apply ZD|apply ZE|apply ZF|apply ZG|apply ZH|apply ZI);rfl;rfl;all_goals (intro hc;first|(exfalso;omega)|skip))|((with_reducible first|apply ZJ|apply ZK);rfl;rfl;all_goals (intro hc;first|contradiction|skip))|((with_reducible first|apply ZL|apply ZM);rfl;rfl;omega;omega)|((with_reducible first|apply ZN|apply ZO);rfl;rfl;omega;omega;intro c hget hc)|((with_reducible apply ZP);rfl;(first|exact .inl rfl|assumption);rfl;rfl;omega;omega;omega;intro s' hs' hl')|((with_reducible apply ZQ);rfl;rfl;rfl;omega;omega;omega;intro s' hs' hl')|((with_reducible apply ZR);rfl) | refine GoH ?_|refine ZB rfl ?_|refine ZC rfl ?_
        exact ⟨_, rfl, rfl⟩
      · have hx : ps[i]? = some ps[i] := List.getElem?_eq_getElem (by omega)
        have hx' : (ofStrs ps)[(i : Int).toNat]? = some [.str ps[i]] := by simp [ofStrs_get, hx]
        rw [idxOf_drop hx] at hidx
        generalize ps[i] = p at hx hx' hidx
        by_cases hpn : p = n
        · have e : (n == p) = true := by simpa using hpn.symm
          rw [if_pos e] at hidx
          rw [hidx, decide_eq_true (by omega)]
          repeat' first
            | refine GoH ?_
            | refine ZB (ev_idx rfl rfl (by omega) hx' rfl) ?_
            | refine ZB (ev_eqs_t rfl rfl hpn) ?_
            | ((with_reducible first|apply ZD|apply ZE|apply ZF|apply ZG|apply ZH|apply ZI);rfl;rfl;all_goals (intro hc;first|(exfalso;omega)|skip))|((with_reducible first|apply ZJ|apply ZK);rfl;rfl;all_goals (intro hc;first|contradiction|skip))|((with_reducible first|apply ZL|apply ZM);rfl;rfl;omega;omega)|((with_reducible first|apply ZN|apply ZO);rfl;rfl;omega;omega;intro c hget hc)|((with_reducible apply ZP);rfl;(first|exact .inl rfl|assumption);rfl;rfl;omega;omega;omega;intro s' hs' hl')|((with_reducible apply ZQ);rfl;rfl;rfl;omega;omega;omega;intro s' hs' hl')|((with_reducible apply ZR);rfl)
            | refine GoH ?_|refine ZB rfl ?_|refine ZC rfl ?_
          exact ⟨_, rfl, rfl⟩
        · have e : ¬ (n == p) = true := by simpa using fun h => hpn h.symm
          rw [if_neg e] at hidx
          repeat' first
            | refine GoH ?_
            | refine ZB (ev_idx rfl rfl (by omega) hx' rfl) ?_
            | refine ZB (ev_eqs_f rfl rfl hpn) ?_
            | ((with_reducible first|apply ZD|apply ZE|apply ZF|apply ZG|apply ZH|apply ZI);rfl;rfl;all_goals (intro hc;first|(exfalso;omega)|skip))|((with_reducible first|apply ZJ|apply ZK);rfl;rfl;all_goals (intro hc;first|contradiction|skip))|((with_reducible first|apply ZL|apply ZM);rfl;rfl;omega;omega)|((with_reducible first|apply ZN|apply ZO);rfl;rfl;omega;omega;intro c hget hc)|((with_reducible apply ZP);rfl;(first|exact .inl rfl|assumption);rfl;rfl;omega;omega;omega;intro s' hs' hl')|((with_reducible apply ZQ);rfl;rfl;rfl;omega;omega;omega;intro s' hs' hl')|((with_reducible apply ZR);rfl)
            | refine GoH ?_|refine ZB rfl ?_|refine ZC rfl ?_
          exact hK _ (weak_keep [1, 5, 7] rfl ⟨i + 1, by omega, by omega, hidx, rfl⟩)
theorem pok71 (m : Int) : PureOk Go.Proofs.Tryd.prog (glb m) 63 T71 := .inl (fam_ok (fn71 m) (callOk_cons (pok32 m) (callOk_nil _ _)) w71)
noncomputable def T72 : List DV → Option DV := fam (fun x : (Nat × List Op3 × (Nat → Int)) × Int => [.agg (envD x.1.1 x.1.2.1 x.1.2.2), .c (.int .i64 x.2)]) (fun _ => True) (fun x => .c (.int .i64 (rowAt x.1.2.2 x.2)))
theorem T72_eq (sz : Nat) (l : List Op3) (f : Nat → Int) (g : Int) : T72 [.agg (envD sz l f), .c (.int .i64 g)] = some (.c (.int .i64 (rowAt f g))) := by
  refine fam_eq (ι := (Nat × List Op3 × (Nat → Int)) × Int) ((sz, l, f), g) True.intro ?_
  rintro ⟨⟨sz', l', f'⟩, g'⟩ _ e
  simp only [List.cons.injEq, DV.agg.injEq, DV.c.injEq, D.int.injEq, true_and, and_true] at e
  obtain ⟨h1, rfl⟩ := e
  obtain ⟨rfl, h2⟩ := envD_inj h1
  simp only [rowAt]
  split
  · rw [h2 _ (by omega)]
  · rfl
set_option maxRecDepth 8000 in
set_option maxHeartbeats 2000000 in
theorem w72 (x : (Nat × List Op3 × (Nat → Int)) × Int) (_ : True) : awp (tbl []) c72 (PureQ [.t 4] (.c (.int .i64 (rowAt x.1.2.2 x.2)))) ⟨argE 0 (dvArgs [.agg (envD x.1.1 x.1.2.1 x.1.2.2), .c (.int .i64 x.2)]), ⟨0, []⟩⟩ := by
  obtain ⟨⟨sz, l, f⟩, g⟩ := x
  simp only
  unfold rowAt
  by_cases hg : 0 ≤ g ∧ g < 10
  · rw [if_pos hg]
    obtain ⟨gn, rfl⟩ := Int.eq_ofNat_of_zero_le hg.1
    have hgn : gn < 10 := by omega
    rw [Int.toNat_natCast]
    unfold c72
    repeat' first
      | refine GoH ?_
      | refine ZB (ev_arrn rfl rfl hgn) ?_
      | refine ZB (ev_load rfl rfl (env_ld f _ hgn)) ?_
      | ((with_reducible first|apply ZD|apply ZE|apply ZF|apply ZG|apply ZH|apply ZI);rfl;rfl;all_goals (intro hc;first|(exfalso;omega)|skip))|((with_reducible first|apply ZJ|apply ZK);rfl;rfl;all_goals (intro hc;first|contradiction|skip))|((with_reducible first|apply ZL|apply ZM);rfl;rfl;omega;omega)|((with_reducible first|apply ZN|apply ZO);rfl;rfl;omega;omega;intro c hget hc)|((with_reducible apply ZP);rfl;(first|exact .inl rfl|assumption);rfl;rfl;omega;omega;omega;intro s' hs' hl')|((with_reducible apply ZQ);rfl;rfl;rfl;omega;omega;omega;intro s' hs' hl')|((with_reducible apply ZR);rfl)
      | refine GoH ?_|refine ZB rfl ?_|refine ZC rfl ?_
    exact ⟨_, rfl, rfl⟩
  · rw [if_neg hg]
    unfold c72
    repeat' first | refine GoH ?_ | ((with_reducible first|apply ZD|apply ZE|apply ZF|apply ZG|apply ZH|apply ZI);rfl;rfl;all_goals (intro hc;first|(exfalso;omega)|skip))|((with_reducible first|apply ZJ|apply ZK);rfl;rfl;all_goals (intro hc;first|contradiction|skip))|((with_reducible first|apply ZL|apply ZM);rfl;rfl;omega;omega)|((with_reducible first|apply ZN|apply ZO);rfl;rfl;omega;omega;intro c hget hc)|((with_reducible apply ZP);rfl;(first|exact .inl rfl|assumption);rfl;rfl;omega;omega;omega;intro s' hs' hl')|((with_reducible apply ZQ);rfl;rfl;rfl;omega;omega;omega;intro s' hs' hl')|((with_reducible apply ZR);rfl) | refine GoH ?_|refine ZB rfl ?_|refine ZC rfl ?_
    all_goals exact ⟨_, rfl, rfl⟩
theorem pok72 (m : Int) : PureOk Go.Proofs.Tryd.prog (glb m) 64 T72 := .inl (fam_ok (fn72 m) (callOk_nil _ _) w72)
end Go.Am
