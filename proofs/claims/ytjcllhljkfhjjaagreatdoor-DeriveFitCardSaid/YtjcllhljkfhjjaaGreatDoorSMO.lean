/-
  The reference's May of an operator, Fit.
-/
import Derived.Test.YtjcllhljkfhjjaaGreatDoorSMT
namespace Go.Am
open Go
def G43 : List DV → Option DV
  | [.agg [.str pat, .int .i64 g, .int .i64 a]] => if pat.length < room then some (.c (.int .i64 (mayOf partE pat g a))) else none
  | _ => none
set_option maxRecDepth 8000 in
set_option maxHeartbeats 8000000 in
theorem w43 (ds : List DV) (r : DV) (h : G43 ds = some r) : awp (tbl [(23, G32)]) c43 (PureQ [.t 2] r) ⟨argE 0 (dvArgs ds), ⟨0, []⟩⟩ := by
  unfold G43 at h
  split at h
  · rename_i pat g a
    split at h
    · rename_i hroom
      cases h
      unfold mayOf
      cases hS : shapeOf partE pat with
      | none =>
        have h32 : G32 [.c (.str pat)] = some (.tup [.agg [.list 0 [], .bool false, .bool false], .c (.int .i64 23)]) := by simp only [G32, if_pos hroom, hS]; rfl
        unfold c43
        repeat' first | ((with_reducible first|apply ZD|apply ZE|apply ZF|apply ZG|apply ZH|apply ZI);rfl;rfl;all_goals (intro hc;first|(exfalso;omega)|skip))|((with_reducible first|apply ZJ|apply ZK);rfl;rfl;all_goals (intro hc;first|contradiction|skip))|((with_reducible first|apply ZL|apply ZM);rfl;rfl;omega;omega)|((with_reducible first|apply ZN|apply ZO);rfl;rfl;omega;omega;intro c hget hc)|((with_reducible apply ZP);rfl;(first|exact .inl rfl|assumption);rfl;rfl;omega;omega;omega;intro s' hs' hl')|((with_reducible apply ZQ);rfl;rfl;rfl;omega;omega;omega;intro s' hs' hl')|((with_reducible apply ZR);rfl) | ((with_reducible apply Z1 (f := 23));rfl;rfl;rfl;exact h32;rfl) | refine GoH ?_|refine ZB rfl ?_|refine ZC rfl ?_
        exact ⟨_, rfl, rfl⟩
      | some v =>
        obtain ⟨ps, l, rr⟩ := v
        have h32 : G32 [.c (.str pat)] = some (.tup [.agg [.list 1 (ofStrs ps), .bool l, .bool rr], .c (.int .i64 0)]) := by simp only [G32, if_pos hroom, hS]; rfl
        unfold c43
        cases l <;> cases rr <;> (try simp only [Bool.false_eq_true, and_false, and_true, or_false, false_or]) <;>
        (repeat' first | ((with_reducible first|apply ZD|apply ZE|apply ZF|apply ZG|apply ZH|apply ZI);rfl;rfl;all_goals (intro hc;first|(exfalso;omega)|skip))|((with_reducible first|apply ZJ|apply ZK);rfl;rfl;all_goals (intro hc;first|contradiction|skip))|((with_reducible first|apply ZL|apply ZM);rfl;rfl;omega;omega)|((with_reducible first|apply ZN|apply ZO);rfl;rfl;omega;omega;intro c hget hc)|((with_reducible apply ZP);rfl;(first|exact .inl rfl|assumption);rfl;rfl;omega;omega;omega;intro s' hs' hl')|((with_reducible apply ZQ);rfl;rfl;rfl;omega;omega;omega;intro s' hs' hl')|((with_reducible apply ZR);rfl) | ((with_reducible apply Z1 (f := 23));rfl;rfl;rfl;exact h32;rfl) | refine GoH ?_|refine ZB rfl ?_|refine ZC rfl ?_)
        all_goals first
          | (rw [if_pos (by omega)]; exact ⟨_, rfl, rfl⟩)
          | (rw [if_neg (by omega), if_pos (by omega)]; exact ⟨_, rfl, rfl⟩)
          | (rw [if_neg (by omega), if_neg (by omega)]; exact ⟨_, rfl, rfl⟩)
    · cases h
  · cases h
theorem pok43 (m : Int) : PureOk Go.Proofs.Tryz.prog (glb m) 14 G43 := pure_ok (fn43 m) (callOk_cons (pok32 m) (callOk_nil _ _)) w43
def fitPats : List (List UInt8) := [[95, 43, 95], [95, 42, 95], [95, 45, 95], [45, 95], [95, 33], [105, 102, 95, 116, 104, 101, 110, 95], [105, 102, 95, 116, 104, 101, 110, 95, 101, 108, 115, 101, 95], [91, 95, 93], [123, 95, 124, 95, 125], [95, 63, 95, 58, 95], [110, 111, 116, 95], [95, 105, 115, 95], [108, 101, 116, 95, 61, 95, 105, 110, 95], [95, 61, 62, 95], [95, 59, 95], [60, 60, 95, 62, 62]]
def sumB : List UInt8 → Nat
  | [] => 0
  | b :: r => b.toNat + sumB r
theorem sumB_app : ∀ a b : List UInt8, sumB (a ++ b) = sumB a + sumB b
  | [], b => by simp [sumB]
  | x :: r, b => by simp only [List.cons_append, sumB, sumB_app r b]; omega
theorem sumB_le : ∀ s : List UInt8, sumB s ≤ 255 * s.length
  | [] => Nat.le_refl _
  | b :: r => by
    have := sumB_le r
    have := UInt8.toNat_lt b
    simp only [sumB, List.length_cons]
    omega
theorem sumB_take {s : List UInt8} {i : Nat} {c : UInt8} (h : s[i]? = some c) : sumB (s.take (i + 1)) = sumB (s.take i) + c.toNat := by
  rw [List.take_add_one, h, sumB_app]
  rfl
def fitPat (s : List UInt8) : List UInt8 := fitPats.getD (sumB s % 16) []
theorem fitPats_len : ∀ i < 16, (fitPats.getD i []).length ≤ 20 := by decide
def fitOf (o : Op3) : Op3 := if mayOf partE (fitPat o.pat) (1 + o.g % 9) (o.a % 3) = 0 then ⟨fitPat o.pat, 1 + o.g % 9, o.a % 3⟩ else ⟨fitPat o.pat, 1 + o.g % 9, 0⟩
def fitC : List C := fitPats.map fun p => .d (.str p)
theorem fit_ld {i : Nat} (h : i < 16) : mkV false (sub fitC (0 + i * 1) 1) = some (.c (.d (.str (fitPats.getD i [])))) := by
  have : i = 0 ∨ i = 1 ∨ i = 2 ∨ i = 3 ∨ i = 4 ∨ i = 5 ∨ i = 6 ∨ i = 7 ∨ i = 8 ∨ i = 9 ∨ i = 10 ∨ i = 11 ∨ i = 12 ∨ i = 13 ∨ i = 14 ∨ i = 15 := by omega
  rcases this with rfl | rfl | rfl | rfl | rfl | rfl | rfl | rfl | rfl | rfl | rfl | rfl | rfl | rfl | rfl | rfl <;> rfl
def big : Nat := 140737488351232
def G22 : List DV → Option DV
  | [.agg [.str pat, .int .i64 g, .int .i64 a]] => if pat.length ≤ big then some (.agg (opD (fitOf ⟨pat, g, a⟩))) else none
  | _ => none
theorem G22_eq {o : Op3} (h : o.pat.length ≤ big) : G22 [.agg (opD o)] = some (.agg (opD (fitOf o))) := by simp only [opD, G22, if_pos h]
set_option maxRecDepth 8000 in
set_option maxHeartbeats 8000000 in
theorem w22 (ds : List DV) (r : DV) (h : G22 ds = some r) : awp (tbl [(14, G43)]) c22 (PureQ [.cell 2 3 true] r) ⟨argE 0 (dvArgs ds), ⟨0, []⟩⟩ := by
  unfold G22 at h
  split at h
  · rename_i s g a
    split at h
    · rename_i hroom
      cases h
      unfold big at hroom
      have hg := tmod_bd g (b := 9) (by decide)
      have ha := tmod_bd a (b := 3) (by decide)
      have hsum := sumB_le s
      have hld := fit_ld (i := sumB s % 16) (by omega)
      have hpl := fitPats_len (sumB s % 16) (by omega)
      have h43 : G43 [.agg [.str (fitPats.getD (sumB s % 16) []), .int .i64 (1 + (g.tmod 9 + 9) % 9), .int .i64 ((a.tmod 3 + 3) % 3)]] = some (.c (.int .i64 (mayOf partE (fitPat s) (1 + g % 9) (a % 3)))) := by
        rw [tmod9, tmod3]
        simp only [G43]
        rw [if_pos (by unfold room; omega)]
        rfl
      unfold c22
      repeat' first | ((with_reducible first|apply ZD|apply ZE|apply ZF|apply ZG|apply ZH|apply ZI);rfl;rfl;all_goals (intro hc;first|(exfalso;omega)|skip))|((with_reducible first|apply ZJ|apply ZK);rfl;rfl;all_goals (intro hc;first|contradiction|skip))|((with_reducible first|apply ZL|apply ZM);rfl;rfl;omega;omega)|((with_reducible first|apply ZN|apply ZO);rfl;rfl;omega;omega;intro c hget hc)|((with_reducible apply ZP);rfl;(first|exact .inl rfl|assumption);rfl;rfl;omega;omega;omega;intro s' hs' hl')|((with_reducible apply ZQ);rfl;rfl;rfl;omega;omega;omega;intro s' hs' hl')|((with_reducible apply ZR);rfl) | refine GoH ?_|refine ZB rfl ?_|refine ZC rfl ?_
      refine awp_loop (fun m st => ∃ i : Nat, i ≤ s.length ∧ s.length - i < m ∧
        st = ⟨[(1, .c (.ptr 0 0)), (2, .c (.ptr 1 0)), (3, .c (.ptr 2 0)), (4, .c (.d (.int .i64 (sumB (s.take i) : Nat)))), (5, .c (.d (.int .i64 (i : Nat))))], ⟨3, [(2, .cells fitC), (1, .cells [.d (.str []), .d (.int .i64 0), .d (.int .i64 0)]), (0, .cells [.d (.str s), .d (.int .i64 g), .d (.int .i64 a)])]⟩⟩) (s.length + 1) ?_ (by rintro st ⟨i, h1, h2, _⟩; omega) ?_
      · exact weak_keep [1, 2, 3, 4, 5] rfl ⟨0, by omega, by omega, rfl⟩
      · rintro m K hK st ⟨i, hi, hm, rfl⟩
        by_cases hend : i = s.length
        · subst hend
          rw [List.take_length]
          by_cases hm : mayOf partE (fitPat s) (1 + g % 9) (a % 3) = 0
          · have hfit : fitOf ⟨s, g, a⟩ = ⟨fitPats.getD (sumB s % 16) [], 1 + (g.tmod 9 + 9) % 9, (a.tmod 3 + 3) % 3⟩ := by
              unfold fitOf
              rw [if_pos hm, tmod9, tmod3]
              rfl
            rw [hm] at h43
            rw [hfit]
            repeat' first
              | ((with_reducible apply Z1 (f := 14));rfl;rfl;rfl;exact h43;rfl)
              | ((with_reducible first|apply ZD|apply ZE|apply ZF|apply ZG|apply ZH|apply ZI);rfl;rfl;all_goals (intro hc;first|(exfalso;omega)|skip))|((with_reducible first|apply ZJ|apply ZK);rfl;rfl;all_goals (intro hc;first|contradiction|skip))|((with_reducible first|apply ZL|apply ZM);rfl;rfl;omega;omega)|((with_reducible first|apply ZN|apply ZO);rfl;rfl;omega;omega;intro c hget hc)|((with_reducible apply ZP);rfl;(first|exact .inl rfl|assumption);rfl;rfl;omega;omega;omega;intro s' hs' hl')|((with_reducible apply ZQ);rfl;rfl;rfl;omega;omega;omega;intro s' hs' hl')|((with_reducible apply ZR);rfl)
              | refine GoH ?_|refine ZB rfl ?_|refine ZC rfl ?_
              | with_reducible apply ZS
              | refine ZX rfl (ev_remN rfl rfl (by omega) (by decide)) ?_
              | refine ZX rfl (ev_remT rfl rfl (by decide)) ?_
              | refine ZX rfl (ev_add rfl rfl (by omega) (by omega)) ?_
              | refine ZX rfl (ev_arrv (sumB s % 16) rfl rfl (by omega) (by omega)) ?_
              | refine ZY (ev_load rfl (by rfl) hld) (by (repeat' first|exact True.intro|refine ⟨?_, ?_⟩|exact .inl rfl|exact .inr (.inl rfl)|exact .inr (.inr rfl)|rfl)) ?_
              | (with_reducible first|apply ZS|apply ZT)|((with_reducible apply ZU);rfl)|((with_reducible apply ZV);rfl;decide)|((with_reducible apply ZW);rfl)|refine ZX rfl rfl ?_|refine ZY rfl (by (repeat' first|exact True.intro|refine ⟨?_, ?_⟩|exact .inl rfl|exact .inr (.inl rfl)|exact .inr (.inr rfl)|rfl)) ?_
              | refine ZZ (Z0 rfl ⟨rfl, rfl⟩) (by (repeat' first | exact True.intro | refine ⟨?_, ?_⟩ | exact .inl rfl | exact .inr (.inl rfl) | exact .inr (.inr (ev_load rfl (by rfl) hld)) | exact .inr (.inr rfl) | rfl)) ?_
            exact ⟨_, rfl, rfl⟩
          · have hfit : fitOf ⟨s, g, a⟩ = ⟨fitPats.getD (sumB s % 16) [], 1 + (g.tmod 9 + 9) % 9, 0⟩ := by
              unfold fitOf
              rw [if_neg hm, tmod9]
              rfl
            rw [hfit]
            repeat' first
              | ((with_reducible apply Z1 (f := 14));rfl;rfl;rfl;exact h43;rfl)
              | ((with_reducible first|apply ZD|apply ZE|apply ZF|apply ZG|apply ZH|apply ZI);rfl;rfl;all_goals (intro hc;first|(exfalso;omega)|skip))|((with_reducible first|apply ZJ|apply ZK);rfl;rfl;all_goals (intro hc;first|contradiction|skip))|((with_reducible first|apply ZL|apply ZM);rfl;rfl;omega;omega)|((with_reducible first|apply ZN|apply ZO);rfl;rfl;omega;omega;intro c hget hc)|((with_reducible apply ZP);rfl;(first|exact .inl rfl|assumption);rfl;rfl;omega;omega;omega;intro s' hs' hl')|((with_reducible apply ZQ);rfl;rfl;rfl;omega;omega;omega;intro s' hs' hl')|((with_reducible apply ZR);rfl)
              | refine GoH ?_|refine ZB rfl ?_|refine ZC rfl ?_
              | with_reducible apply ZS
              | refine ZX rfl (ev_remN rfl rfl (by omega) (by decide)) ?_
              | refine ZX rfl (ev_remT rfl rfl (by decide)) ?_
              | refine ZX rfl (ev_add rfl rfl (by omega) (by omega)) ?_
              | refine ZX rfl (ev_arrv (sumB s % 16) rfl rfl (by omega) (by omega)) ?_
              | refine ZY (ev_load rfl (by rfl) hld) (by (repeat' first|exact True.intro|refine ⟨?_, ?_⟩|exact .inl rfl|exact .inr (.inl rfl)|exact .inr (.inr rfl)|rfl)) ?_
              | (with_reducible first|apply ZS|apply ZT)|((with_reducible apply ZU);rfl)|((with_reducible apply ZV);rfl;decide)|((with_reducible apply ZW);rfl)|refine ZX rfl rfl ?_|refine ZY rfl (by (repeat' first|exact True.intro|refine ⟨?_, ?_⟩|exact .inl rfl|exact .inr (.inl rfl)|exact .inr (.inr rfl)|rfl)) ?_
              | refine ZZ (Z0 rfl ⟨rfl, rfl⟩) (by (repeat' first | exact True.intro | refine ⟨?_, ?_⟩ | exact .inl rfl | exact .inr (.inl rfl) | exact .inr (.inr (ev_load rfl (by rfl) hld)) | exact .inr (.inr rfl) | rfl)) ?_
            exact ⟨_, rfl, rfl⟩
        · obtain ⟨c, hg0, _, _⟩ := at_of (show i < s.length by omega)
          have hcb := UInt8.toNat_lt c
          have hst := sumB_take hg0
          have hsl := sumB_le (s.take i)
          rw [List.length_take] at hsl
          have hch : ∀ (cl : Call) e h x y, ev e x = .c (.d (.str s)) → ev e y = .c (.d (.int .i64 (i : Nat))) → eval cl e h (.strAt x y) = some (.c (.d (.int .u8 c.toNat)), h) := fun cl e h x y hx hy => strAt_ev hx hy (by omega) (by simpa using hg0)
          repeat' first
            | refine ZB (hch _ _ _ _ _ rfl rfl) ?_
            | ((with_reducible apply step_toI); rfl; omega; omega)
            | ((with_reducible first|apply ZD|apply ZE|apply ZF|apply ZG|apply ZH|apply ZI);rfl;rfl;all_goals (intro hc;first|(exfalso;omega)|skip))|((with_reducible first|apply ZJ|apply ZK);rfl;rfl;all_goals (intro hc;first|contradiction|skip))|((with_reducible first|apply ZL|apply ZM);rfl;rfl;omega;omega)|((with_reducible first|apply ZN|apply ZO);rfl;rfl;omega;omega;intro c hget hc)|((with_reducible apply ZP);rfl;(first|exact .inl rfl|assumption);rfl;rfl;omega;omega;omega;intro s' hs' hl')|((with_reducible apply ZQ);rfl;rfl;rfl;omega;omega;omega;intro s' hs' hl')|((with_reducible apply ZR);rfl)
            | refine GoH ?_|refine ZB rfl ?_|refine ZC rfl ?_
          refine hK _ (weak_keep [1, 2, 3, 4, 5] rfl ⟨i + 1, by omega, by omega, ?_⟩)
          rw [hst]
          rfl
    · cases h
  · cases h
theorem pok22 (m : Int) : PureOk Go.Proofs.Tryz.prog (glb m) 6 G22 := pure_ok (fn22 m) (callOk_cons (pok43 m) (callOk_nil _ _)) w22
end Go.Am
