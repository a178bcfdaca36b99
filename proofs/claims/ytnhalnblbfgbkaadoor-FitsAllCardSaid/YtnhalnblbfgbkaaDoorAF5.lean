/-
  The reference's Fits, Entry, Leaf; few.
-/
import Derived.Test.YtnhalnblbfgbkaaDoorAF4
namespace Go.Am
open Go
set_option maxRecDepth 8000 in
set_option maxHeartbeats 4000000 in
theorem w26t (f : Nat → Int) (o k : Op3) (s : List C) (tc : C) (l r right : Bool) : awp (tbl [(32, G32), (33, T51)]) (c26.tail 4) (PureQ [.t 8] (.c (.bool ((!l && !r) || tightI f o.g k.g || (decide (o.g = k.g) && decide (o.a = if right then 2 else 1) && decide (k.a = if right then 2 else 1)))))) ⟨[(3, .c (.d (.bool right))), (4, .c (.ptr 0 0)), (5, .c (.ptr 1 0)), (6, .c (.ptr 2 0)), (11, .c (.ptr 4 0))], ⟨5, c23s f o k s [tc, .d (.bool l), .d (.bool r)]⟩⟩ := by
  obtain ⟨p, g, a⟩ := o
  obtain ⟨p', g', a'⟩ := k
  have h51 := T51_eq f g g'
  simp only
  generalize tightI f g g' = tt at h51
  unfold c23s c26
  dsimp only [ACode.tail]
  by_cases hc1 : l = false ∧ r = false
  · obtain ⟨rfl, rfl⟩ := hc1
    repeat' first | refine GoH ?_ | ((with_reducible first|apply ZD|apply ZE|apply ZF|apply ZG|apply ZH|apply ZI);rfl;rfl;all_goals (intro hc;first|(exfalso;omega)|skip))|((with_reducible first|apply ZJ|apply ZK);rfl;rfl;all_goals (intro hc;first|contradiction|skip))|((with_reducible first|apply ZL|apply ZM);rfl;rfl;omega;omega)|((with_reducible first|apply ZN|apply ZO);rfl;rfl;omega;omega;intro c hget hc)|((with_reducible apply ZP);rfl;(first|exact .inl rfl|assumption);rfl;rfl;omega;omega;omega;intro s' hs' hl')|((with_reducible apply ZQ);rfl;rfl;rfl;omega;omega;omega;intro s' hs' hl')|((with_reducible apply ZR);rfl) | refine GoH ?_|refine ZB rfl ?_|refine ZC rfl ?_
    exact ⟨_, rfl, rfl⟩
  · have e : ((!l && !r) = false) := by cases l <;> cases r <;> simp_all
    rw [e]
    cases tt with
    | true =>
      cases l <;> cases r <;> first | (exfalso; exact hc1 ⟨rfl, rfl⟩) | skip
      all_goals
        repeat' first | refine GoH ?_ | ((with_reducible first|apply ZD|apply ZE|apply ZF|apply ZG|apply ZH|apply ZI);rfl;rfl;all_goals (intro hc;first|(exfalso;omega)|skip))|((with_reducible first|apply ZJ|apply ZK);rfl;rfl;all_goals (intro hc;first|contradiction|skip))|((with_reducible first|apply ZL|apply ZM);rfl;rfl;omega;omega)|((with_reducible first|apply ZN|apply ZO);rfl;rfl;omega;omega;intro c hget hc)|((with_reducible apply ZP);rfl;(first|exact .inl rfl|assumption);rfl;rfl;omega;omega;omega;intro s' hs' hl')|((with_reducible apply ZQ);rfl;rfl;rfl;omega;omega;omega;intro s' hs' hl')|((with_reducible apply ZR);rfl) | ((with_reducible apply Z1 (f := 33));rfl;rfl;rfl;exact h51;rfl) | refine GoH ?_|refine ZB rfl ?_|refine ZC rfl ?_
        exact ⟨_, rfl, rfl⟩
    | false =>
      simp only [Bool.or_false, Bool.false_or]
      cases right <;> simp only [if_true, Bool.false_eq_true, if_false] <;> (cases l <;> cases r <;> first | (exfalso; exact hc1 ⟨rfl, rfl⟩) | skip)
      all_goals
        repeat' first | refine GoH ?_ | ((with_reducible first|apply ZD|apply ZE|apply ZF|apply ZG|apply ZH|apply ZI);rfl;rfl;all_goals (intro hc;first|(exfalso;omega)|skip))|((with_reducible first|apply ZJ|apply ZK);rfl;rfl;all_goals (intro hc;first|contradiction|skip))|((with_reducible first|apply ZL|apply ZM);rfl;rfl;omega;omega)|((with_reducible first|apply ZN|apply ZO);rfl;rfl;omega;omega;intro c hget hc)|((with_reducible apply ZP);rfl;(first|exact .inl rfl|assumption);rfl;rfl;omega;omega;omega;intro s' hs' hl')|((with_reducible apply ZQ);rfl;rfl;rfl;omega;omega;omega;intro s' hs' hl')|((with_reducible apply ZR);rfl) | ((with_reducible apply Z1 (f := 33));rfl;rfl;rfl;exact h51;rfl) | refine GoH ?_|refine ZB rfl ?_|refine ZC rfl ?_
        all_goals first
          | (rw [decide_eq_false (p := g = g') (by assumption)]; exact ⟨_, rfl, rfl⟩)
          | (rw [decide_eq_true (p := g = g') (by assumption), decide_eq_false (p := a = 1) (by assumption)]; exact ⟨_, rfl, rfl⟩)
          | (rw [decide_eq_true (p := g = g') (by assumption), decide_eq_true (p := a = 1) (by assumption), decide_eq_false (p := a' = 1) (by assumption)]; exact ⟨_, rfl, rfl⟩)
          | (rw [decide_eq_true (p := g = g') (by assumption), decide_eq_true (p := a = 1) (by assumption), decide_eq_true (p := a' = 1) (by assumption)]; exact ⟨_, rfl, rfl⟩)
          | (rw [decide_eq_true (p := g = g') (by assumption), decide_eq_false (p := a = 2) (by assumption)]; exact ⟨_, rfl, rfl⟩)
          | (rw [decide_eq_true (p := g = g') (by assumption), decide_eq_true (p := a = 2) (by assumption), decide_eq_false (p := a' = 2) (by assumption)]; exact ⟨_, rfl, rfl⟩)
          | (rw [decide_eq_true (p := g = g') (by assumption), decide_eq_true (p := a = 2) (by assumption), decide_eq_true (p := a' = 2) (by assumption)]; exact ⟨_, rfl, rfl⟩)
noncomputable def T26 : List DV → Option DV := fam (fun x : (Nat → Int) × Op3 × Op3 × Bool => [.agg (rowsD x.1), .agg (opD x.2.1), .agg (opD x.2.2.1), .c (.bool x.2.2.2)]) (fun x => x.2.1.pat.length ≤ 60 ∧ x.2.2.1.pat.length ≤ 60) (fun x => .c (.bool (fitsOf partE x.1 x.2.1 x.2.2.1 x.2.2.2)))
theorem T26_eq (f : Nat → Int) {o k : Op3} (b : Bool) (ho : o.pat.length ≤ 60) (hk : k.pat.length ≤ 60) : T26 [.agg (rowsD f), .agg (opD o), .agg (opD k), .c (.bool b)] = some (.c (.bool (fitsOf partE f o k b))) := by
  refine fam_eq (ι := (Nat → Int) × Op3 × Op3 × Bool) (f, o, k, b) ⟨ho, hk⟩ ?_
  rintro ⟨f', o', k', b'⟩ _ he
  simp only [List.cons.injEq, DV.agg.injEq, DV.c.injEq, D.bool.injEq, and_true] at he
  obtain ⟨h1, h2, h3, rfl⟩ := he
  obtain rfl := opD_inj h2
  obtain rfl := opD_inj h3
  have h4 := rowsD_inj h1
  simp only [fitsOf, fitsV, tightI_eq h4]
set_option maxRecDepth 8000 in
set_option maxHeartbeats 8000000 in
theorem w26 (x : (Nat → Int) × Op3 × Op3 × Bool) (h : x.2.1.pat.length ≤ 60 ∧ x.2.2.1.pat.length ≤ 60) : awp (tbl [(32, G32), (33, T51)]) c26 (PureQ [.t 8] (.c (.bool (fitsOf partE x.1 x.2.1 x.2.2.1 x.2.2.2)))) ⟨argE 0 (dvArgs [.agg (rowsD x.1), .agg (opD x.2.1), .agg (opD x.2.2.1), .c (.bool x.2.2.2)]), ⟨0, []⟩⟩ := by
  obtain ⟨f, o, k, right⟩ := x
  obtain ⟨ho, hk⟩ := h
  simp only at ho hk ⊢
  have hno : ∀ q, q.length ≤ 60 → shapeOf partE q = none → G32 [.c (.str q)] = some (.tup [.agg [.list 0 [], .bool false, .bool false], .c (.int .i64 23)]) := fun q hl hq => by simp only [G32, hq, if_pos (show q.length < room by unfold room; omega)]; rfl
  have hyes : ∀ q ps l r, q.length ≤ 60 → shapeOf partE q = some ⟨ps, l, r⟩ → G32 [.c (.str q)] = some (.tup [.agg [.list 1 (ofStrs ps), .bool l, .bool r], .c (.int .i64 0)]) := fun q ps l r hl hq => by simp only [G32, hq, if_pos (show q.length < room by unfold room; omega)]; rfl
  have hT := fun s tc l r => w26t f o k s tc l r right
  unfold fitsOf
  cases hS : shapeOf partE o.pat with
  | none =>
    have h1 := hno _ ho hS
    cases hU : shapeOf partE k.pat with
    | none =>
      have h2 := hno _ hk hU
      clear hT
      obtain ⟨p, g, a⟩ := o
      obtain ⟨p', g', a'⟩ := k
      unfold c26
      cases right <;> (repeat' first | refine GoH ?_ | ((with_reducible apply Z1 (f := 32));rfl;rfl;rfl;exact h1;rfl) | ((with_reducible apply Z1 (f := 32));rfl;rfl;rfl;exact h2;rfl) | refine GoH ?_|refine ZB rfl ?_|refine ZC rfl ?_) <;> exact ⟨_, rfl, rfl⟩
    | some t =>
      obtain ⟨ps', l', r'⟩ := t
      have h2 := hyes _ ps' l' r' hk hU
      clear hT
      obtain ⟨p, g, a⟩ := o
      obtain ⟨p', g', a'⟩ := k
      unfold c26
      cases right <;> (repeat' first | refine GoH ?_ | ((with_reducible apply Z1 (f := 32));rfl;rfl;rfl;exact h1;rfl) | ((with_reducible apply Z1 (f := 32));rfl;rfl;rfl;exact h2;rfl) | refine GoH ?_|refine ZB rfl ?_|refine ZC rfl ?_) <;> exact ⟨_, rfl, rfl⟩
  | some s =>
    obtain ⟨ps, l, r⟩ := s
    have h1 := hyes _ ps l r ho hS
    cases hU : shapeOf partE k.pat with
    | none =>
      have h2 := hno _ hk hU
      clear hT
      obtain ⟨p, g, a⟩ := o
      obtain ⟨p', g', a'⟩ := k
      unfold c26
      cases right <;> (repeat' first | refine GoH ?_ | ((with_reducible apply Z1 (f := 32));rfl;rfl;rfl;exact h1;rfl) | ((with_reducible apply Z1 (f := 32));rfl;rfl;rfl;exact h2;rfl) | refine GoH ?_|refine ZB rfl ?_|refine ZC rfl ?_) <;> exact ⟨_, rfl, rfl⟩
    | some t =>
      obtain ⟨ps', l', r'⟩ := t
      have h2 := hyes _ ps' l' r' hk hU
      have hh := hT [.d (.list 1 (ofStrs ps)), .d (.bool l), .d (.bool r)] (.d (.list 1 (ofStrs ps'))) l' r'
      clear hT
      obtain ⟨p, g, a⟩ := o
      obtain ⟨p', g', a'⟩ := k
      simp only [fitsV] at hh ⊢
      unfold c23s at hh
      cases right
      · cases l
        · clear hh
          unfold c26
          repeat' first | refine GoH ?_ | ((with_reducible apply Z1 (f := 32));rfl;rfl;rfl;exact h1;rfl) | ((with_reducible apply Z1 (f := 32));rfl;rfl;rfl;exact h2;rfl) | refine GoH ?_|refine ZB rfl ?_|refine ZC rfl ?_
          exact ⟨_, rfl, rfl⟩
        · unfold c26
          repeat' first | ((with_reducible apply weak_keep [3, 4, 5, 6, 11]); rfl; exact hh) | refine GoH ?_ | ((with_reducible apply Z1 (f := 32));rfl;rfl;rfl;exact h1;rfl) | ((with_reducible apply Z1 (f := 32));rfl;rfl;rfl;exact h2;rfl) | refine GoH ?_|refine ZB rfl ?_|refine ZC rfl ?_
      · cases r
        · clear hh
          unfold c26
          repeat' first | refine GoH ?_ | ((with_reducible apply Z1 (f := 32));rfl;rfl;rfl;exact h1;rfl) | ((with_reducible apply Z1 (f := 32));rfl;rfl;rfl;exact h2;rfl) | refine GoH ?_|refine ZB rfl ?_|refine ZC rfl ?_
          exact ⟨_, rfl, rfl⟩
        · unfold c26
          repeat' first | ((with_reducible apply weak_keep [3, 4, 5, 6, 11]); rfl; exact hh) | refine GoH ?_ | ((with_reducible apply Z1 (f := 32));rfl;rfl;rfl;exact h1;rfl) | ((with_reducible apply Z1 (f := 32));rfl;rfl;rfl;exact h2;rfl) | refine GoH ?_|refine ZB rfl ?_|refine ZC rfl ?_
theorem pok26 (m : Int) : PureOk Go.Proofs.Tryd.prog (glb m) 13 T26 := .inl (fam_ok (fn26 m) (callOk_cons (pok32 m) (callOk_cons (pok52 m) (callOk_nil _ _))) w26)
end Go.Am
