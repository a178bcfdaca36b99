/-
  The program's comments, layout: as the plain lexer says.
-/
import Derived.Test.YtgbefhljbdjncaaDoorNF
namespace Go.Am
open Go
/-! ### comments -/
def FComP (s : List UInt8) : DV := .c (.int .i64 (match comR 0 s with | some k => ((k : Nat) : Int) | none => 0))
def preC (s : List UInt8) : Bool := hasPre s [47, 42]
theorem fcomp_none {s : List UInt8} (h : comR 0 s = none) : FComP s = .c (.int .i64 0) := by unfold FComP; rw [h]
theorem fcomp_some {s : List UInt8} {k : Nat} (h : comR 0 s = some k) : FComP s = .c (.int .i64 (k : Nat)) := by unfold FComP; rw [h]
theorem G92_at {s t : List UInt8} : G92 [.c (.list 1 (encB s)), .c (.list 1 (encB t))] = some (.c (.bool (hasPre s t))) := by simp [G92, bytesV, bytesOf_back]
theorem step_preK {cl : Call} {d : Nat} {r : List AOper} {K : St → Prop} {env : Env} {nx : Nat} {rest : List (Nat × Ob)} {x y : Opd} {sz z : Nat} {s t : List UInt8} {l : List (List D)} {b : Bool} (hf : cl.pure 92 = some G92) (hx : ev env x = .c (.d (.list sz (encB s)))) (hs : sz = 1 ∨ s = []) (hy : ev env y = .c (.own z 2)) (hl : l = encB t) (ht : t.length = 2) (hb : hasPre s t = b)
    (hk : opsWp cl r K ⟨(d, .c (.d (.bool b))) :: env, ⟨nx, (z, .row 1 l) :: rest⟩⟩) : opsWp cl (⟨some d, .pcall 92 [x, y], none⟩ :: r) K ⟨env, ⟨nx, (z, .row 1 l) :: rest⟩⟩ :=
  step_pre hf hx hs hy hl ht (fun h _ => by rw [hb] at h; subst h; exact hk) (fun h => by rw [hb] at h; subst h; exact hk)
def I93e (sz : Nat) (s : List UInt8) (n : Nat) (st : St) : Prop := ∃ (i : Nat) (d : Int) (nx : Nat), i ≤ s.length ∧ 1 ≤ d ∧ d ≤ i ∧ s.length - i < n ∧ comR 0 s = (comR d (s.drop i)).map (i + ·) ∧ st = ⟨[(0, .c (.d (.list sz (encB s)))), (3, .c (.d (.int .i64 d))), (4, .c (.d (.int .i64 (i : Nat))))], ⟨nx, []⟩⟩
set_option maxRecDepth 8000 in
set_option maxHeartbeats 4000000 in
theorem we93 (sz : Nat) (s : List UInt8) (hz : sz = 1 ∨ s = []) (hroom : s.length ≤ room) (hp : preC s = true) : awp (tbl [(92, G92)]) c93 (PureQ [.t 2] (FComP s)) ⟨argE 0 (dvArgs [.c (.list sz (encB s))]), ⟨0, []⟩⟩ := by
  have hl : (encB s).length = s.length := encB_length s
  unfold room at hroom
  have hpl : 2 ≤ s.length := hasPre_le hp
  unfold c93
  repeat' first | (with_reducible first|refine Za ?_|refine Zb ?_|refine Zc ?_|refine Zd ?_|refine Ze ?_|refine Zf ?_|refine Zg ?_|refine Zh ?_|refine Zi ?_|refine Zj ?_|refine Zk ?_|refine Zl ?_|refine Zm ?_|refine Zn ?_|refine Zo ?_|refine Zp ?_|refine Zq ?_|refine Zr ?_|refine Zs ?_|refine Zt ?_|refine Zu ?_)|(with_reducible refine Zv (by decide) ?_)|((with_reducible apply Zw);rfl)|((with_reducible apply Zx);rfl;decide)|((with_reducible apply Zy);rfl)|((with_reducible apply Zz);rfl)|((with_reducible apply ZA);rfl) | ((with_reducible first|apply ZD|apply ZE|apply ZF|apply ZG|apply ZH|apply ZI);rfl;rfl;all_goals (intro hc;first|(exfalso;omega)|skip))|((with_reducible first|apply ZJ|apply ZK);rfl;rfl;all_goals (intro hc;first|contradiction|skip))|((with_reducible first|apply ZL|apply ZM);rfl;rfl;omega;omega)|((with_reducible first|apply ZN|apply ZO);rfl;rfl;omega;omega;intro c hget hc)|((with_reducible apply ZP);rfl;(first|exact .inl rfl|assumption);rfl;rfl;omega;omega;omega;intro s' hs' hl')|((with_reducible apply ZQ);rfl;rfl;rfl;omega;omega;omega;intro s' hs' hl')|((with_reducible apply ZR);rfl) | (with_reducible first|refine Za ?_|refine Zb ?_|refine Zc ?_|refine Zd ?_|refine Ze ?_|refine Zf ?_|refine Zg ?_|refine Zh ?_|refine Zi ?_|refine Zj ?_|refine Zk ?_|refine Zl ?_|refine Zm ?_|refine Zn ?_|refine Zo ?_|refine Zp ?_|refine Zq ?_|refine Zr ?_|refine Zs ?_|refine Zt ?_|refine Zu ?_)|(with_reducible refine Zv (by decide) ?_)|((with_reducible apply Zw);rfl)|((with_reducible apply Zx);rfl;decide)|((with_reducible apply Zy);rfl)|((with_reducible apply Zz);rfl)|((with_reducible apply ZA);rfl)|refine ZB rfl ?_|refine ZC rfl ?_
  refine awp_jump (I93e sz s) (by rintro st ⟨i, d, nx, h1, h2, h3, h4, _⟩; omega) ?_ ?_
  · intro K hK
    obtain ⟨c, hg, hdr, _⟩ := at_of (show 0 < s.length by omega)
    have hat := comR_at (d := 0) hdr
    have h92 := G92_at (s := s.drop 0) (t := [47, 42])
    rw [List.drop_zero] at hat h92
    rw [show hasPre s [47, 42] = true from hp] at h92
    rw [if_pos (show hasPre s [47, 42] = true from hp)] at hat
    repeat' first
      | (with_reducible first|refine Za ?_|refine Zb ?_|refine Zc ?_|refine Zd ?_|refine Ze ?_|refine Zf ?_|refine Zg ?_|refine Zh ?_|refine Zi ?_|refine Zj ?_|refine Zk ?_|refine Zl ?_|refine Zm ?_|refine Zn ?_|refine Zo ?_|refine Zp ?_|refine Zq ?_|refine Zr ?_|refine Zs ?_|refine Zt ?_|refine Zu ?_)|(with_reducible refine Zv (by decide) ?_)|((with_reducible apply Zw);rfl)|((with_reducible apply Zx);rfl;decide)|((with_reducible apply Zy);rfl)|((with_reducible apply Zz);rfl)|((with_reducible apply ZA);rfl)
      | refine ZB (ev_from (i := 0) rfl hz rfl rfl (by omega)) ?_
      | ((with_reducible first|apply ZD|apply ZE|apply ZF|apply ZG|apply ZH|apply ZI);rfl;rfl;all_goals (intro hc;first|(exfalso;omega)|skip))|((with_reducible first|apply ZJ|apply ZK);rfl;rfl;all_goals (intro hc;first|contradiction|skip))|((with_reducible first|apply ZL|apply ZM);rfl;rfl;omega;omega)|((with_reducible first|apply ZN|apply ZO);rfl;rfl;omega;omega;intro c hget hc)|((with_reducible apply ZP);rfl;(first|exact .inl rfl|assumption);rfl;rfl;omega;omega;omega;intro s' hs' hl')|((with_reducible apply ZQ);rfl;rfl;rfl;omega;omega;omega;intro s' hs' hl')|((with_reducible apply ZR);rfl)
      | (refine step_b2bh rfl rfl rfl (by decide) ?_)
      | ((with_reducible apply step_preK (t := [47, 42])); rfl; rfl; exact .inl rfl; rfl; rfl; rfl; exact hp)
      | (with_reducible first|refine Za ?_|refine Zb ?_|refine Zc ?_|refine Zd ?_|refine Ze ?_|refine Zf ?_|refine Zg ?_|refine Zh ?_|refine Zi ?_|refine Zj ?_|refine Zk ?_|refine Zl ?_|refine Zm ?_|refine Zn ?_|refine Zo ?_|refine Zp ?_|refine Zq ?_|refine Zr ?_|refine Zs ?_|refine Zt ?_|refine Zu ?_)|(with_reducible refine Zv (by decide) ?_)|((with_reducible apply Zw);rfl)|((with_reducible apply Zx);rfl;decide)|((with_reducible apply Zy);rfl)|((with_reducible apply Zz);rfl)|((with_reducible apply ZA);rfl)|refine ZB rfl ?_|refine ZC rfl ?_
      | exact hK (s.length + 1) _ (weak_drop [0, 3, 4] rfl (fun y o h => by cases h) (Nat.le_refl _) ⟨2, 1, _, by omega, by omega, by omega, by omega, hat, rfl⟩)
  · rintro n K hK st ⟨i, d, nx, h1, h2, h3, h4, hq, rfl⟩
    by_cases hend : i = s.length
    · rw [fcomp_none (by rw [hq, com_end (by omega)]; rfl)]
      repeat' first | (with_reducible first|refine Za ?_|refine Zb ?_|refine Zc ?_|refine Zd ?_|refine Ze ?_|refine Zf ?_|refine Zg ?_|refine Zh ?_|refine Zi ?_|refine Zj ?_|refine Zk ?_|refine Zl ?_|refine Zm ?_|refine Zn ?_|refine Zo ?_|refine Zp ?_|refine Zq ?_|refine Zr ?_|refine Zs ?_|refine Zt ?_|refine Zu ?_)|(with_reducible refine Zv (by decide) ?_)|((with_reducible apply Zw);rfl)|((with_reducible apply Zx);rfl;decide)|((with_reducible apply Zy);rfl)|((with_reducible apply Zz);rfl)|((with_reducible apply ZA);rfl) | ((with_reducible first|apply ZD|apply ZE|apply ZF|apply ZG|apply ZH|apply ZI);rfl;rfl;all_goals (intro hc;first|(exfalso;omega)|skip))|((with_reducible first|apply ZJ|apply ZK);rfl;rfl;all_goals (intro hc;first|contradiction|skip))|((with_reducible first|apply ZL|apply ZM);rfl;rfl;omega;omega)|((with_reducible first|apply ZN|apply ZO);rfl;rfl;omega;omega;intro c hget hc)|((with_reducible apply ZP);rfl;(first|exact .inl rfl|assumption);rfl;rfl;omega;omega;omega;intro s' hs' hl')|((with_reducible apply ZQ);rfl;rfl;rfl;omega;omega;omega;intro s' hs' hl')|((with_reducible apply ZR);rfl) | (with_reducible first|refine Za ?_|refine Zb ?_|refine Zc ?_|refine Zd ?_|refine Ze ?_|refine Zf ?_|refine Zg ?_|refine Zh ?_|refine Zi ?_|refine Zj ?_|refine Zk ?_|refine Zl ?_|refine Zm ?_|refine Zn ?_|refine Zo ?_|refine Zp ?_|refine Zq ?_|refine Zr ?_|refine Zs ?_|refine Zt ?_|refine Zu ?_)|(with_reducible refine Zv (by decide) ?_)|((with_reducible apply Zw);rfl)|((with_reducible apply Zx);rfl;decide)|((with_reducible apply Zy);rfl)|((with_reducible apply Zz);rfl)|((with_reducible apply ZA);rfl)|refine ZB rfl ?_|refine ZC rfl ?_
      exact ⟨_, rfl, rfl⟩
    · obtain ⟨c, hg, hdr, _⟩ := at_of (show i < s.length by omega)
      have hat := comR_at (d := d) hdr
      have h92a := G92_at (s := s.drop i) (t := [47, 42])
      have h92b := G92_at (s := s.drop i) (t := [42, 47])
      have hd2 := @hasPre_drop s i
      have hstep : ∀ (d' : Int) (k : Nat), comR d (s.drop i) = (comR d' (s.drop (i + k))).map (k + ·) → comR 0 s = (comR d' (s.drop (i + k))).map (i + k + ·) := fun d' k e => by
        rw [hq, e, Option.map_map]
        congr 1
        funext j
        simp only [Function.comp]
        omega
      cases hA : hasPre (s.drop i) [47, 42] with
      | true =>
        have := hd2 (.inl hA)
        rw [hA] at h92a
        rw [if_pos hA] at hat
        repeat' first
          | (with_reducible first|refine Za ?_|refine Zb ?_|refine Zc ?_|refine Zd ?_|refine Ze ?_|refine Zf ?_|refine Zg ?_|refine Zh ?_|refine Zi ?_|refine Zj ?_|refine Zk ?_|refine Zl ?_|refine Zm ?_|refine Zn ?_|refine Zo ?_|refine Zp ?_|refine Zq ?_|refine Zr ?_|refine Zs ?_|refine Zt ?_|refine Zu ?_)|(with_reducible refine Zv (by decide) ?_)|((with_reducible apply Zw);rfl)|((with_reducible apply Zx);rfl;decide)|((with_reducible apply Zy);rfl)|((with_reducible apply Zz);rfl)|((with_reducible apply ZA);rfl)
          | refine ZB (ev_from (i := i) rfl hz rfl rfl (by omega)) ?_
          | ((with_reducible first|apply ZD|apply ZE|apply ZF|apply ZG|apply ZH|apply ZI);rfl;rfl;all_goals (intro hc;first|(exfalso;omega)|skip))|((with_reducible first|apply ZJ|apply ZK);rfl;rfl;all_goals (intro hc;first|contradiction|skip))|((with_reducible first|apply ZL|apply ZM);rfl;rfl;omega;omega)|((with_reducible first|apply ZN|apply ZO);rfl;rfl;omega;omega;intro c hget hc)|((with_reducible apply ZP);rfl;(first|exact .inl rfl|assumption);rfl;rfl;omega;omega;omega;intro s' hs' hl')|((with_reducible apply ZQ);rfl;rfl;rfl;omega;omega;omega;intro s' hs' hl')|((with_reducible apply ZR);rfl)
          | (refine step_b2bh rfl rfl rfl (by decide) ?_)
          | ((with_reducible apply step_preK (t := [47, 42])); rfl; rfl; exact .inl rfl; rfl; rfl; rfl; exact hA)
          | (with_reducible first|refine Za ?_|refine Zb ?_|refine Zc ?_|refine Zd ?_|refine Ze ?_|refine Zf ?_|refine Zg ?_|refine Zh ?_|refine Zi ?_|refine Zj ?_|refine Zk ?_|refine Zl ?_|refine Zm ?_|refine Zn ?_|refine Zo ?_|refine Zp ?_|refine Zq ?_|refine Zr ?_|refine Zs ?_|refine Zt ?_|refine Zu ?_)|(with_reducible refine Zv (by decide) ?_)|((with_reducible apply Zw);rfl)|((with_reducible apply Zx);rfl;decide)|((with_reducible apply Zy);rfl)|((with_reducible apply Zz);rfl)|((with_reducible apply ZA);rfl)|refine ZB rfl ?_|refine ZC rfl ?_
          | exact hK _ (weak_drop [0, 3, 4] rfl (fun y o h => by cases h) (Nat.le_refl _) ⟨i + 2, d + 1, _, by omega, by omega, by omega, by omega, hstep _ _ hat, rfl⟩)
      | false =>
        rw [hA] at h92a
        rw [if_neg (by rw [hA]; simp)] at hat
        cases hB : hasPre (s.drop i) [42, 47] with
        | true =>
          have := hd2 (.inr hB)
          rw [hB] at h92b
          rw [if_pos hB] at hat
          by_cases hd1 : d = 1
          · subst hd1
            rw [if_pos (by decide)] at hat
            rw [fcomp_some (k := i + 2) (by rw [hq, hat]; rfl)]
            repeat' first
              | (with_reducible first|refine Za ?_|refine Zb ?_|refine Zc ?_|refine Zd ?_|refine Ze ?_|refine Zf ?_|refine Zg ?_|refine Zh ?_|refine Zi ?_|refine Zj ?_|refine Zk ?_|refine Zl ?_|refine Zm ?_|refine Zn ?_|refine Zo ?_|refine Zp ?_|refine Zq ?_|refine Zr ?_|refine Zs ?_|refine Zt ?_|refine Zu ?_)|(with_reducible refine Zv (by decide) ?_)|((with_reducible apply Zw);rfl)|((with_reducible apply Zx);rfl;decide)|((with_reducible apply Zy);rfl)|((with_reducible apply Zz);rfl)|((with_reducible apply ZA);rfl)
              | refine ZB (ev_from (i := i) rfl hz rfl rfl (by omega)) ?_
              | ((with_reducible first|apply ZD|apply ZE|apply ZF|apply ZG|apply ZH|apply ZI);rfl;rfl;all_goals (intro hc;first|(exfalso;omega)|skip))|((with_reducible first|apply ZJ|apply ZK);rfl;rfl;all_goals (intro hc;first|contradiction|skip))|((with_reducible first|apply ZL|apply ZM);rfl;rfl;omega;omega)|((with_reducible first|apply ZN|apply ZO);rfl;rfl;omega;omega;intro c hget hc)|((with_reducible apply ZP);rfl;(first|exact .inl rfl|assumption);rfl;rfl;omega;omega;omega;intro s' hs' hl')|((with_reducible apply ZQ);rfl;rfl;rfl;omega;omega;omega;intro s' hs' hl')|((with_reducible apply ZR);rfl)
              | (refine step_b2bh rfl rfl rfl (by decide) ?_)
              | ((with_reducible apply step_preK (t := [47, 42])); rfl; rfl; exact .inl rfl; rfl; rfl; rfl; exact hA)
              | ((with_reducible apply step_preK (t := [42, 47])); rfl; rfl; exact .inl rfl; rfl; rfl; rfl; exact hB)
              | (with_reducible first|refine Za ?_|refine Zb ?_|refine Zc ?_|refine Zd ?_|refine Ze ?_|refine Zf ?_|refine Zg ?_|refine Zh ?_|refine Zi ?_|refine Zj ?_|refine Zk ?_|refine Zl ?_|refine Zm ?_|refine Zn ?_|refine Zo ?_|refine Zp ?_|refine Zq ?_|refine Zr ?_|refine Zs ?_|refine Zt ?_|refine Zu ?_)|(with_reducible refine Zv (by decide) ?_)|((with_reducible apply Zw);rfl)|((with_reducible apply Zx);rfl;decide)|((with_reducible apply Zy);rfl)|((with_reducible apply Zz);rfl)|((with_reducible apply ZA);rfl)|refine ZB rfl ?_|refine ZC rfl ?_
            exact ⟨_, rfl, rfl⟩
          · rw [if_neg (by omega)] at hat
            repeat' first
              | (with_reducible first|refine Za ?_|refine Zb ?_|refine Zc ?_|refine Zd ?_|refine Ze ?_|refine Zf ?_|refine Zg ?_|refine Zh ?_|refine Zi ?_|refine Zj ?_|refine Zk ?_|refine Zl ?_|refine Zm ?_|refine Zn ?_|refine Zo ?_|refine Zp ?_|refine Zq ?_|refine Zr ?_|refine Zs ?_|refine Zt ?_|refine Zu ?_)|(with_reducible refine Zv (by decide) ?_)|((with_reducible apply Zw);rfl)|((with_reducible apply Zx);rfl;decide)|((with_reducible apply Zy);rfl)|((with_reducible apply Zz);rfl)|((with_reducible apply ZA);rfl)
              | refine ZB (ev_from (i := i) rfl hz rfl rfl (by omega)) ?_
              | ((with_reducible first|apply ZD|apply ZE|apply ZF|apply ZG|apply ZH|apply ZI);rfl;rfl;all_goals (intro hc;first|(exfalso;omega)|skip))|((with_reducible first|apply ZJ|apply ZK);rfl;rfl;all_goals (intro hc;first|contradiction|skip))|((with_reducible first|apply ZL|apply ZM);rfl;rfl;omega;omega)|((with_reducible first|apply ZN|apply ZO);rfl;rfl;omega;omega;intro c hget hc)|((with_reducible apply ZP);rfl;(first|exact .inl rfl|assumption);rfl;rfl;omega;omega;omega;intro s' hs' hl')|((with_reducible apply ZQ);rfl;rfl;rfl;omega;omega;omega;intro s' hs' hl')|((with_reducible apply ZR);rfl)
              | (refine step_b2bh rfl rfl rfl (by decide) ?_)
              | ((with_reducible apply step_preK (t := [47, 42])); rfl; rfl; exact .inl rfl; rfl; rfl; rfl; exact hA)
              | ((with_reducible apply step_preK (t := [42, 47])); rfl; rfl; exact .inl rfl; rfl; rfl; rfl; exact hB)
              | (with_reducible first|refine Za ?_|refine Zb ?_|refine Zc ?_|refine Zd ?_|refine Ze ?_|refine Zf ?_|refine Zg ?_|refine Zh ?_|refine Zi ?_|refine Zj ?_|refine Zk ?_|refine Zl ?_|refine Zm ?_|refine Zn ?_|refine Zo ?_|refine Zp ?_|refine Zq ?_|refine Zr ?_|refine Zs ?_|refine Zt ?_|refine Zu ?_)|(with_reducible refine Zv (by decide) ?_)|((with_reducible apply Zw);rfl)|((with_reducible apply Zx);rfl;decide)|((with_reducible apply Zy);rfl)|((with_reducible apply Zz);rfl)|((with_reducible apply ZA);rfl)|refine ZB rfl ?_|refine ZC rfl ?_
              | exact hK _ (weak_drop [0, 3, 4] rfl (fun y o h => by cases h) (Nat.le_refl _) ⟨i + 2, d - 1, _, by omega, by omega, by omega, by omega, hstep _ _ hat, rfl⟩)
        | false =>
          rw [hB] at h92b
          rw [if_neg (by rw [hB]; simp)] at hat
          repeat' first
            | (with_reducible first|refine Za ?_|refine Zb ?_|refine Zc ?_|refine Zd ?_|refine Ze ?_|refine Zf ?_|refine Zg ?_|refine Zh ?_|refine Zi ?_|refine Zj ?_|refine Zk ?_|refine Zl ?_|refine Zm ?_|refine Zn ?_|refine Zo ?_|refine Zp ?_|refine Zq ?_|refine Zr ?_|refine Zs ?_|refine Zt ?_|refine Zu ?_)|(with_reducible refine Zv (by decide) ?_)|((with_reducible apply Zw);rfl)|((with_reducible apply Zx);rfl;decide)|((with_reducible apply Zy);rfl)|((with_reducible apply Zz);rfl)|((with_reducible apply ZA);rfl)
            | refine ZB (ev_from (i := i) rfl hz rfl rfl (by omega)) ?_
            | ((with_reducible first|apply ZD|apply ZE|apply ZF|apply ZG|apply ZH|apply ZI);rfl;rfl;all_goals (intro hc;first|(exfalso;omega)|skip))|((with_reducible first|apply ZJ|apply ZK);rfl;rfl;all_goals (intro hc;first|contradiction|skip))|((with_reducible first|apply ZL|apply ZM);rfl;rfl;omega;omega)|((with_reducible first|apply ZN|apply ZO);rfl;rfl;omega;omega;intro c hget hc)|((with_reducible apply ZP);rfl;(first|exact .inl rfl|assumption);rfl;rfl;omega;omega;omega;intro s' hs' hl')|((with_reducible apply ZQ);rfl;rfl;rfl;omega;omega;omega;intro s' hs' hl')|((with_reducible apply ZR);rfl)
            | (refine step_b2bh rfl rfl rfl (by decide) ?_)
            | ((with_reducible apply step_preK (t := [47, 42])); rfl; rfl; exact .inl rfl; rfl; rfl; rfl; exact hA)
            | ((with_reducible apply step_preK (t := [42, 47])); rfl; rfl; exact .inl rfl; rfl; rfl; rfl; exact hB)
            | (with_reducible first|refine Za ?_|refine Zb ?_|refine Zc ?_|refine Zd ?_|refine Ze ?_|refine Zf ?_|refine Zg ?_|refine Zh ?_|refine Zi ?_|refine Zj ?_|refine Zk ?_|refine Zl ?_|refine Zm ?_|refine Zn ?_|refine Zo ?_|refine Zp ?_|refine Zq ?_|refine Zr ?_|refine Zs ?_|refine Zt ?_|refine Zu ?_)|(with_reducible refine Zv (by decide) ?_)|((with_reducible apply Zw);rfl)|((with_reducible apply Zx);rfl;decide)|((with_reducible apply Zy);rfl)|((with_reducible apply Zz);rfl)|((with_reducible apply ZA);rfl)|refine ZB rfl ?_|refine ZC rfl ?_
            | exact hK _ (weak_drop [0, 3, 4] rfl (fun y o h => by cases h) (Nat.le_refl _) ⟨i + 1, d, _, by omega, by omega, by omega, by omega, hstep _ _ hat, rfl⟩)
theorem pe93 (m : Int) : PureOk Go.Proofs.Tryd.prog (glb m) 93 (onBp preC FComP) := onBp_ok (fn93 m) (callOk_cons (pok92 m) (callOk_nil _ _)) we93

/-! ### layout -/
theorem class8 : ∀ c : UInt8, classOf c = 8 ↔ c.toNat = 37 := by
  have h : ∀ n : Nat, n < 256 → (classOf (UInt8.ofNat n) = 8 ↔ n = 37) := by decide +kernel
  intro c
  have := h c.toNat (UInt8.toNat_lt c)
  rw [UInt8.ofNat_toNat] at this
  exact this
theorem lineOf_ln : ∀ s : List UInt8, lineOf s = lnOf s
  | [] => rfl
  | b :: r => by
    have ih := lineOf_ln r
    have hge := Lib.indexByte_ge r 10
    unfold lineOf at ih ⊢
    simp only [Lib.indexByte, lnOf]
    by_cases hb : b.toNat = 10
    · have : b = 10 := UInt8.toNat_inj.1 hb
      subst this
      simp
    · have hne : (b == 10) = false := by
        rw [beq_eq_false_iff_ne]
        intro e
        subst e
        exact hb rfl
      rw [if_neg hb, ← ih]
      simp only [hne, Bool.false_eq_true, if_false, List.length_cons]
      by_cases h1 : Lib.indexByte r 10 = -1
      · simp [h1]; omega
      · have h2 : (Lib.indexByte r 10 == -1) = false := by simpa using h1
        simp only [h2, Bool.false_eq_true, if_false]
        rw [if_pos (by omega), if_pos (by omega)]
        omega
set_option maxRecDepth 8000 in
set_option maxHeartbeats 4000000 in
theorem we78 (sz : Nat) (s : List UInt8) (hz : sz = 1 ∨ s = []) (hroom : s.length ≤ room) : awp (tbl [(80, G80), (90, G90), (91, G91), (92, G92), (93, onBp preC FComP)]) c78 (PureQ [.t 2, .t 3] (FSkip s)) ⟨argE 0 (dvArgs [.c (.list sz (encB s))]), ⟨0, []⟩⟩ := by
  have hl : (encB s).length = s.length := encB_length s
  have hroom' := hroom
  unfold room at hroom
  unfold c78
  repeat' first | (with_reducible first|refine Za ?_|refine Zb ?_|refine Zc ?_|refine Zd ?_|refine Ze ?_|refine Zf ?_|refine Zg ?_|refine Zh ?_|refine Zi ?_|refine Zj ?_|refine Zk ?_|refine Zl ?_|refine Zm ?_|refine Zn ?_|refine Zo ?_|refine Zp ?_|refine Zq ?_|refine Zr ?_|refine Zs ?_|refine Zt ?_|refine Zu ?_)|(with_reducible refine Zv (by decide) ?_)|((with_reducible apply Zw);rfl)|((with_reducible apply Zx);rfl;decide)|((with_reducible apply Zy);rfl)|((with_reducible apply Zz);rfl)|((with_reducible apply ZA);rfl) | ((with_reducible first|apply ZD|apply ZE|apply ZF|apply ZG|apply ZH|apply ZI);rfl;rfl;all_goals (intro hc;first|(exfalso;omega)|skip))|((with_reducible first|apply ZJ|apply ZK);rfl;rfl;all_goals (intro hc;first|contradiction|skip))|((with_reducible first|apply ZL|apply ZM);rfl;rfl;omega;omega)|((with_reducible first|apply ZN|apply ZO);rfl;rfl;omega;omega;intro c hget hc)|((with_reducible apply ZP);rfl;(first|exact .inl rfl|assumption);rfl;rfl;omega;omega;omega;intro s' hs' hl')|((with_reducible apply ZQ);rfl;rfl;rfl;omega;omega;omega;intro s' hs' hl')|((with_reducible apply ZR);rfl) | (with_reducible first|refine Za ?_|refine Zb ?_|refine Zc ?_|refine Zd ?_|refine Ze ?_|refine Zf ?_|refine Zg ?_|refine Zh ?_|refine Zi ?_|refine Zj ?_|refine Zk ?_|refine Zl ?_|refine Zm ?_|refine Zn ?_|refine Zo ?_|refine Zp ?_|refine Zq ?_|refine Zr ?_|refine Zs ?_|refine Zt ?_|refine Zu ?_)|(with_reducible refine Zv (by decide) ?_)|((with_reducible apply Zw);rfl)|((with_reducible apply Zx);rfl;decide)|((with_reducible apply Zy);rfl)|((with_reducible apply Zz);rfl)|((with_reducible apply ZA);rfl)|refine ZB rfl ?_|refine ZC rfl ?_
  refine awp_loop (fun m st => ∃ (i nx : Nat), i ≤ s.length ∧ s.length - i < m ∧ skipR s = addS i (skipR (s.drop i)) ∧
    st = ⟨[(0, .c (.d (.list sz (encB s)))), (4, .c (.d (.int .i64 (i : Nat))))], ⟨nx, []⟩⟩)
    (s.length + 1) ?_ (by rintro st ⟨i, nx, h1, h2, _⟩; omega) ?_
  · exact weak_keep [0, 4] rfl ⟨0, 0, by omega, by omega, by simp [addS], rfl⟩
  · rintro m K hK st ⟨i, nx, h1, h2, hq, rfl⟩
    have hdl : (encB (s.drop i)).length = s.length - i := by rw [encB_length, List.length_drop]
    have hrd : (s.drop i).length ≤ room := by rw [List.length_drop]; unfold room; omega
    have h90 := k90 1 (s.drop i) 1 (.inl rfl) hrd
    have hrun := skipR_run (s.drop i)
    have hrle := runOf_le 1 (s.drop i)
    rw [List.length_drop] at hrle
    rw [List.drop_drop] at hrun
    generalize hn : runOf 1 (s.drop i) = n at h90 hrun hrle
    by_cases hn0 : 0 < n
    · repeat' first
        | (with_reducible first|refine Za ?_|refine Zb ?_|refine Zc ?_|refine Zd ?_|refine Ze ?_|refine Zf ?_|refine Zg ?_|refine Zh ?_|refine Zi ?_|refine Zj ?_|refine Zk ?_|refine Zl ?_|refine Zm ?_|refine Zn ?_|refine Zo ?_|refine Zp ?_|refine Zq ?_|refine Zr ?_|refine Zs ?_|refine Zt ?_|refine Zu ?_)|(with_reducible refine Zv (by decide) ?_)|((with_reducible apply Zw);rfl)|((with_reducible apply Zx);rfl;decide)|((with_reducible apply Zy);rfl)|((with_reducible apply Zz);rfl)|((with_reducible apply ZA);rfl)
        | refine ZB (ev_from (i := i) rfl hz rfl rfl (by omega)) ?_
        | ((with_reducible first|apply ZD|apply ZE|apply ZF|apply ZG|apply ZH|apply ZI);rfl;rfl;all_goals (intro hc;first|(exfalso;omega)|skip))|((with_reducible first|apply ZJ|apply ZK);rfl;rfl;all_goals (intro hc;first|contradiction|skip))|((with_reducible first|apply ZL|apply ZM);rfl;rfl;omega;omega)|((with_reducible first|apply ZN|apply ZO);rfl;rfl;omega;omega;intro c hget hc)|((with_reducible apply ZP);rfl;(first|exact .inl rfl|assumption);rfl;rfl;omega;omega;omega;intro s' hs' hl')|((with_reducible apply ZQ);rfl;rfl;rfl;omega;omega;omega;intro s' hs' hl')|((with_reducible apply ZR);rfl)
        | ((with_reducible apply Z1 (f := 90));rfl;rfl;rfl;exact h90;rfl)
        | (with_reducible first|refine Za ?_|refine Zb ?_|refine Zc ?_|refine Zd ?_|refine Ze ?_|refine Zf ?_|refine Zg ?_|refine Zh ?_|refine Zi ?_|refine Zj ?_|refine Zk ?_|refine Zl ?_|refine Zm ?_|refine Zn ?_|refine Zo ?_|refine Zp ?_|refine Zq ?_|refine Zr ?_|refine Zs ?_|refine Zt ?_|refine Zu ?_)|(with_reducible refine Zv (by decide) ?_)|((with_reducible apply Zw);rfl)|((with_reducible apply Zx);rfl;decide)|((with_reducible apply Zy);rfl)|((with_reducible apply Zz);rfl)|((with_reducible apply ZA);rfl)|refine ZB rfl ?_|refine ZC rfl ?_
        | exact hK _ (weak_drop [0, 4] rfl (fun y o h => by cases h) (Nat.le_refl _) ⟨i + n, _, by omega, by omega, by rw [hq, hrun, addS_addS], rfl⟩)
    · obtain rfl : n = 0 := by omega
      by_cases hend : i = s.length
      · have hpre : hasPre (s.drop i) [47, 42] = false := by rw [List.drop_eq_nil_of_le (by omega)]; rfl
        have h92 := G92_at (s := s.drop i) (t := [47, 42])
        rw [hpre] at h92
        rw [fskip hq (skip_end (by omega))]
        repeat' first
          | (with_reducible first|refine Za ?_|refine Zb ?_|refine Zc ?_|refine Zd ?_|refine Ze ?_|refine Zf ?_|refine Zg ?_|refine Zh ?_|refine Zi ?_|refine Zj ?_|refine Zk ?_|refine Zl ?_|refine Zm ?_|refine Zn ?_|refine Zo ?_|refine Zp ?_|refine Zq ?_|refine Zr ?_|refine Zs ?_|refine Zt ?_|refine Zu ?_)|(with_reducible refine Zv (by decide) ?_)|((with_reducible apply Zw);rfl)|((with_reducible apply Zx);rfl;decide)|((with_reducible apply Zy);rfl)|((with_reducible apply Zz);rfl)|((with_reducible apply ZA);rfl)
          | refine ZB (ev_from (i := i) rfl hz rfl rfl (by omega)) ?_
          | ((with_reducible first|apply ZD|apply ZE|apply ZF|apply ZG|apply ZH|apply ZI);rfl;rfl;all_goals (intro hc;first|(exfalso;omega)|skip))|((with_reducible first|apply ZJ|apply ZK);rfl;rfl;all_goals (intro hc;first|contradiction|skip))|((with_reducible first|apply ZL|apply ZM);rfl;rfl;omega;omega)|((with_reducible first|apply ZN|apply ZO);rfl;rfl;omega;omega;intro c hget hc)|((with_reducible apply ZP);rfl;(first|exact .inl rfl|assumption);rfl;rfl;omega;omega;omega;intro s' hs' hl')|((with_reducible apply ZQ);rfl;rfl;rfl;omega;omega;omega;intro s' hs' hl')|((with_reducible apply ZR);rfl)
          | (refine step_b2bh rfl rfl rfl (by decide) ?_)
          | ((with_reducible apply Z1 (f := 90));rfl;rfl;rfl;exact h90;rfl)
          | ((with_reducible apply step_preK (t := [47, 42])); rfl; rfl; exact .inl rfl; rfl; rfl; rfl; exact hpre)
          | (with_reducible first|refine Za ?_|refine Zb ?_|refine Zc ?_|refine Zd ?_|refine Ze ?_|refine Zf ?_|refine Zg ?_|refine Zh ?_|refine Zi ?_|refine Zj ?_|refine Zk ?_|refine Zl ?_|refine Zm ?_|refine Zn ?_|refine Zo ?_|refine Zp ?_|refine Zq ?_|refine Zr ?_|refine Zs ?_|refine Zt ?_|refine Zu ?_)|(with_reducible refine Zv (by decide) ?_)|((with_reducible apply Zw);rfl)|((with_reducible apply Zx);rfl;decide)|((with_reducible apply Zy);rfl)|((with_reducible apply Zz);rfl)|((with_reducible apply ZA);rfl)|refine ZB rfl ?_|refine ZC rfl ?_
        exact ⟨_, rfl, rfl⟩
      · obtain ⟨c, hg, hdr, hg0⟩ := at_of (show i < s.length by omega)
        have hat := skipR_at hdr
        have hc1 : classOf c ≠ 1 := by
          intro e
          rw [hdr] at hn
          simp only [runOf] at hn
          rw [if_pos (by omega)] at hn
          omega
        rw [if_neg hc1] at hat
        have h8 := class8 c
        by_cases hc8 : classOf c = 8
        · have h37 := h8.1 hc8
          rw [if_pos h37] at hat
          have hln := ln_at hdr
          rw [if_neg (by omega)] at hln
          have h91 := k91 1 (s.drop i) (.inl rfl)
          have hle := lnOf_le (s.drop i)
          rw [List.length_drop] at hle
          rw [lineOf_ln] at h91
          rw [← hln] at hat
          generalize lnOf (s.drop i) = k at h91 hat hle hln
          repeat' first
            | (with_reducible first|refine Za ?_|refine Zb ?_|refine Zc ?_|refine Zd ?_|refine Ze ?_|refine Zf ?_|refine Zg ?_|refine Zh ?_|refine Zi ?_|refine Zj ?_|refine Zk ?_|refine Zl ?_|refine Zm ?_|refine Zn ?_|refine Zo ?_|refine Zp ?_|refine Zq ?_|refine Zr ?_|refine Zs ?_|refine Zt ?_|refine Zu ?_)|(with_reducible refine Zv (by decide) ?_)|((with_reducible apply Zw);rfl)|((with_reducible apply Zx);rfl;decide)|((with_reducible apply Zy);rfl)|((with_reducible apply Zz);rfl)|((with_reducible apply ZA);rfl)
            | refine ZB (ev_from (i := i) rfl hz rfl rfl (by omega)) ?_
            | ((with_reducible apply step_byteN (i := 0)); rfl; rfl; exact hg0)
            | ((with_reducible first|apply ZD|apply ZE|apply ZF|apply ZG|apply ZH|apply ZI);rfl;rfl;all_goals (intro hc;first|(exfalso;omega)|skip))|((with_reducible first|apply ZJ|apply ZK);rfl;rfl;all_goals (intro hc;first|contradiction|skip))|((with_reducible first|apply ZL|apply ZM);rfl;rfl;omega;omega)|((with_reducible first|apply ZN|apply ZO);rfl;rfl;omega;omega;intro c hget hc)|((with_reducible apply ZP);rfl;(first|exact .inl rfl|assumption);rfl;rfl;omega;omega;omega;intro s' hs' hl')|((with_reducible apply ZQ);rfl;rfl;rfl;omega;omega;omega;intro s' hs' hl')|((with_reducible apply ZR);rfl)
            | ((with_reducible apply Z1 (f := 80));rfl;rfl;rfl;exact (G80_eq _);rfl)
            | ((with_reducible apply Z1 (f := 90));rfl;rfl;rfl;exact h90;rfl)
            | ((with_reducible apply Z1 (f := 91));rfl;rfl;rfl;exact h91;rfl)
            | (with_reducible first|refine Za ?_|refine Zb ?_|refine Zc ?_|refine Zd ?_|refine Ze ?_|refine Zf ?_|refine Zg ?_|refine Zh ?_|refine Zi ?_|refine Zj ?_|refine Zk ?_|refine Zl ?_|refine Zm ?_|refine Zn ?_|refine Zo ?_|refine Zp ?_|refine Zq ?_|refine Zr ?_|refine Zs ?_|refine Zt ?_|refine Zu ?_)|(with_reducible refine Zv (by decide) ?_)|((with_reducible apply Zw);rfl)|((with_reducible apply Zx);rfl;decide)|((with_reducible apply Zy);rfl)|((with_reducible apply Zz);rfl)|((with_reducible apply ZA);rfl)|refine ZB rfl ?_|refine ZC rfl ?_
            | exact hK _ (weak_drop [0, 4] rfl (fun y o h => by cases h) (Nat.le_refl _) ⟨i + k, _, by omega, by omega, by rw [hq, hat, addS_addS], rfl⟩)
        · rw [if_neg (fun e => hc8 (h8.2 e))] at hat
          have h92 := G92_at (s := s.drop i) (t := [47, 42])
          cases hP : hasPre (s.drop i) [47, 42] with
          | false =>
            rw [hP] at h92
            rw [if_neg (by rw [hP]; simp)] at hat
            rw [fskip hq hat]
            repeat' first
              | (with_reducible first|refine Za ?_|refine Zb ?_|refine Zc ?_|refine Zd ?_|refine Ze ?_|refine Zf ?_|refine Zg ?_|refine Zh ?_|refine Zi ?_|refine Zj ?_|refine Zk ?_|refine Zl ?_|refine Zm ?_|refine Zn ?_|refine Zo ?_|refine Zp ?_|refine Zq ?_|refine Zr ?_|refine Zs ?_|refine Zt ?_|refine Zu ?_)|(with_reducible refine Zv (by decide) ?_)|((with_reducible apply Zw);rfl)|((with_reducible apply Zx);rfl;decide)|((with_reducible apply Zy);rfl)|((with_reducible apply Zz);rfl)|((with_reducible apply ZA);rfl)
              | refine ZB (ev_from (i := i) rfl hz rfl rfl (by omega)) ?_
              | ((with_reducible apply step_byteN (i := 0)); rfl; rfl; exact hg0)
              | ((with_reducible first|apply ZD|apply ZE|apply ZF|apply ZG|apply ZH|apply ZI);rfl;rfl;all_goals (intro hc;first|(exfalso;omega)|skip))|((with_reducible first|apply ZJ|apply ZK);rfl;rfl;all_goals (intro hc;first|contradiction|skip))|((with_reducible first|apply ZL|apply ZM);rfl;rfl;omega;omega)|((with_reducible first|apply ZN|apply ZO);rfl;rfl;omega;omega;intro c hget hc)|((with_reducible apply ZP);rfl;(first|exact .inl rfl|assumption);rfl;rfl;omega;omega;omega;intro s' hs' hl')|((with_reducible apply ZQ);rfl;rfl;rfl;omega;omega;omega;intro s' hs' hl')|((with_reducible apply ZR);rfl)
              | (refine step_b2bh rfl rfl rfl (by decide) ?_)
              | ((with_reducible apply Z1 (f := 80));rfl;rfl;rfl;exact (G80_eq _);rfl)
              | ((with_reducible apply Z1 (f := 90));rfl;rfl;rfl;exact h90;rfl)
              | ((with_reducible apply step_preK (t := [47, 42])); rfl; rfl; exact .inl rfl; rfl; rfl; rfl; exact hP)
              | (with_reducible first|refine Za ?_|refine Zb ?_|refine Zc ?_|refine Zd ?_|refine Ze ?_|refine Zf ?_|refine Zg ?_|refine Zh ?_|refine Zi ?_|refine Zj ?_|refine Zk ?_|refine Zl ?_|refine Zm ?_|refine Zn ?_|refine Zo ?_|refine Zp ?_|refine Zq ?_|refine Zr ?_|refine Zs ?_|refine Zt ?_|refine Zu ?_)|(with_reducible refine Zv (by decide) ?_)|((with_reducible apply Zw);rfl)|((with_reducible apply Zx);rfl;decide)|((with_reducible apply Zy);rfl)|((with_reducible apply Zz);rfl)|((with_reducible apply ZA);rfl)|refine ZB rfl ?_|refine ZC rfl ?_
            exact ⟨_, rfl, rfl⟩
          | true =>
            have h93 : onBp preC FComP [.c (.list 1 (encB (s.drop i)))] = some (FComP (s.drop i)) := onBp_eq (.inl rfl) hrd hP
            rw [hP] at h92
            rw [if_pos hP] at hat
            cases hC : comR 0 (s.drop i) with
            | none =>
              rw [hC] at hat
              rw [fcomp_none hC] at h93
              simp only at hat
              rw [fskip hq hat]
              repeat' first
                | (with_reducible first|refine Za ?_|refine Zb ?_|refine Zc ?_|refine Zd ?_|refine Ze ?_|refine Zf ?_|refine Zg ?_|refine Zh ?_|refine Zi ?_|refine Zj ?_|refine Zk ?_|refine Zl ?_|refine Zm ?_|refine Zn ?_|refine Zo ?_|refine Zp ?_|refine Zq ?_|refine Zr ?_|refine Zs ?_|refine Zt ?_|refine Zu ?_)|(with_reducible refine Zv (by decide) ?_)|((with_reducible apply Zw);rfl)|((with_reducible apply Zx);rfl;decide)|((with_reducible apply Zy);rfl)|((with_reducible apply Zz);rfl)|((with_reducible apply ZA);rfl)
                | refine ZB (ev_from (i := i) rfl hz rfl rfl (by omega)) ?_
                | ((with_reducible apply step_byteN (i := 0)); rfl; rfl; exact hg0)
                | ((with_reducible first|apply ZD|apply ZE|apply ZF|apply ZG|apply ZH|apply ZI);rfl;rfl;all_goals (intro hc;first|(exfalso;omega)|skip))|((with_reducible first|apply ZJ|apply ZK);rfl;rfl;all_goals (intro hc;first|contradiction|skip))|((with_reducible first|apply ZL|apply ZM);rfl;rfl;omega;omega)|((with_reducible first|apply ZN|apply ZO);rfl;rfl;omega;omega;intro c hget hc)|((with_reducible apply ZP);rfl;(first|exact .inl rfl|assumption);rfl;rfl;omega;omega;omega;intro s' hs' hl')|((with_reducible apply ZQ);rfl;rfl;rfl;omega;omega;omega;intro s' hs' hl')|((with_reducible apply ZR);rfl)
                | (refine step_b2bh rfl rfl rfl (by decide) ?_)
                | ((with_reducible apply Z1 (f := 80));rfl;rfl;rfl;exact (G80_eq _);rfl)
                | ((with_reducible apply Z1 (f := 90));rfl;rfl;rfl;exact h90;rfl)
                | ((with_reducible apply step_preK (t := [47, 42])); rfl; rfl; exact .inl rfl; rfl; rfl; rfl; exact hP)
                | ((with_reducible apply Z1 (f := 93));rfl;rfl;rfl;exact h93;rfl)
                | (with_reducible first|refine Za ?_|refine Zb ?_|refine Zc ?_|refine Zd ?_|refine Ze ?_|refine Zf ?_|refine Zg ?_|refine Zh ?_|refine Zi ?_|refine Zj ?_|refine Zk ?_|refine Zl ?_|refine Zm ?_|refine Zn ?_|refine Zo ?_|refine Zp ?_|refine Zq ?_|refine Zr ?_|refine Zs ?_|refine Zt ?_|refine Zu ?_)|(with_reducible refine Zv (by decide) ?_)|((with_reducible apply Zw);rfl)|((with_reducible apply Zx);rfl;decide)|((with_reducible apply Zy);rfl)|((with_reducible apply Zz);rfl)|((with_reducible apply ZA);rfl)|refine ZB rfl ?_|refine ZC rfl ?_
              exact ⟨_, rfl, rfl⟩
            | some k =>
              have hbd := comR_bd hC
              rw [List.length_drop] at hbd
              rw [hC] at hat
              rw [fcomp_some hC] at h93
              simp only at hat
              repeat' first
                | (with_reducible first|refine Za ?_|refine Zb ?_|refine Zc ?_|refine Zd ?_|refine Ze ?_|refine Zf ?_|refine Zg ?_|refine Zh ?_|refine Zi ?_|refine Zj ?_|refine Zk ?_|refine Zl ?_|refine Zm ?_|refine Zn ?_|refine Zo ?_|refine Zp ?_|refine Zq ?_|refine Zr ?_|refine Zs ?_|refine Zt ?_|refine Zu ?_)|(with_reducible refine Zv (by decide) ?_)|((with_reducible apply Zw);rfl)|((with_reducible apply Zx);rfl;decide)|((with_reducible apply Zy);rfl)|((with_reducible apply Zz);rfl)|((with_reducible apply ZA);rfl)
                | refine ZB (ev_from (i := i) rfl hz rfl rfl (by omega)) ?_
                | ((with_reducible apply step_byteN (i := 0)); rfl; rfl; exact hg0)
                | ((with_reducible first|apply ZD|apply ZE|apply ZF|apply ZG|apply ZH|apply ZI);rfl;rfl;all_goals (intro hc;first|(exfalso;omega)|skip))|((with_reducible first|apply ZJ|apply ZK);rfl;rfl;all_goals (intro hc;first|contradiction|skip))|((with_reducible first|apply ZL|apply ZM);rfl;rfl;omega;omega)|((with_reducible first|apply ZN|apply ZO);rfl;rfl;omega;omega;intro c hget hc)|((with_reducible apply ZP);rfl;(first|exact .inl rfl|assumption);rfl;rfl;omega;omega;omega;intro s' hs' hl')|((with_reducible apply ZQ);rfl;rfl;rfl;omega;omega;omega;intro s' hs' hl')|((with_reducible apply ZR);rfl)
                | (refine step_b2bh rfl rfl rfl (by decide) ?_)
                | ((with_reducible apply Z1 (f := 80));rfl;rfl;rfl;exact (G80_eq _);rfl)
                | ((with_reducible apply Z1 (f := 90));rfl;rfl;rfl;exact h90;rfl)
                | ((with_reducible apply step_preK (t := [47, 42])); rfl; rfl; exact .inl rfl; rfl; rfl; rfl; exact hP)
                | ((with_reducible apply Z1 (f := 93));rfl;rfl;rfl;exact h93;rfl)
                | (with_reducible first|refine Za ?_|refine Zb ?_|refine Zc ?_|refine Zd ?_|refine Ze ?_|refine Zf ?_|refine Zg ?_|refine Zh ?_|refine Zi ?_|refine Zj ?_|refine Zk ?_|refine Zl ?_|refine Zm ?_|refine Zn ?_|refine Zo ?_|refine Zp ?_|refine Zq ?_|refine Zr ?_|refine Zs ?_|refine Zt ?_|refine Zu ?_)|(with_reducible refine Zv (by decide) ?_)|((with_reducible apply Zw);rfl)|((with_reducible apply Zx);rfl;decide)|((with_reducible apply Zy);rfl)|((with_reducible apply Zz);rfl)|((with_reducible apply ZA);rfl)|refine ZB rfl ?_|refine ZC rfl ?_
                | exact hK _ (weak_drop [0, 4] rfl (fun y o h => by cases h) (Nat.le_refl _) ⟨i + k, _, by omega, by omega, by rw [hq, hat, addS_addS], rfl⟩)
theorem pe78 (m : Int) : PureOk Go.Proofs.Tryd.prog (glb m) 78 (onB FSkip) := onB_ok (fn78 m) (callOk_cons (pok80 m) (callOk_cons (pok90 m) (callOk_cons (pok91 m) (callOk_cons (pok92 m) (callOk_cons (pe93 m) (callOk_nil _ _)))))) we78
end Go.Am
