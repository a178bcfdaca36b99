/-
  fits.Fits, and the laws of what fits.
-/
import Derived.Test.YtpidbhbmamjbpaaDoorSMV
import Derived.Test.YtpidbhbmamjbpaaDoorSQU
import Derived.Test.YtpidbhbmamjbpaaDoorSMI
namespace Go.Am
open Go
theorem tightI_eq {f f' : Nat → Int} {g h : Int} (h2 : ∀ x, x < 10 → f' x = f x) : tightI f' g h = tightI f g h := by
  unfold tightI
  by_cases hg : 0 ≤ g ∧ g < 10 ∧ 0 ≤ h ∧ h < 10
  · rw [h2 g.toNat (by omega)]
  · rw [decide_eq_false hg]; rfl
def fitsV (f : Nat → Int) (s t : SV) (o k : Op3) (right : Bool) : Bool :=
  (if right then s.right else s.left) && ((!t.left && !t.right) || tightI f o.g k.g || (decide (o.g = k.g) && decide (o.a = if right then 2 else 1) && decide (k.a = if right then 2 else 1)))
def fitsOf (part : List UInt8 → Bool) (f : Nat → Int) (o k : Op3) (right : Bool) : Bool := match shapeOf part o.pat, shapeOf part k.pat with
  | some s, some t => fitsV f s t o k right
  | _, _ => false
noncomputable def T23 (part : List UInt8 → Bool) : List DV → Option DV := fam (fun x : (Nat → Int) × Op3 × Op3 × Bool => [.agg (rowsD x.1), .agg (opD x.2.1), .agg (opD x.2.2.1), .c (.bool x.2.2.2)]) (fun _ => True) (fun x => .c (.bool (fitsOf part x.1 x.2.1 x.2.2.1 x.2.2.2)))
theorem T23_eq (part : List UInt8 → Bool) (f : Nat → Int) (o k : Op3) (b : Bool) : T23 part [.agg (rowsD f), .agg (opD o), .agg (opD k), .c (.bool b)] = some (.c (.bool (fitsOf part f o k b))) := by
  refine fam_eq (ι := (Nat → Int) × Op3 × Op3 × Bool) (f, o, k, b) trivial ?_
  rintro ⟨f', o', k', b'⟩ _ he
  simp only [List.cons.injEq, DV.agg.injEq, DV.c.injEq, D.bool.injEq, and_true] at he
  obtain ⟨h1, h2, h3, rfl⟩ := he
  obtain rfl := opD_inj h2
  obtain rfl := opD_inj h3
  have h4 := rowsD_inj h1
  simp only [fitsOf, fitsV, tightI_eq h4]
def c23s (f : Nat → Int) (o k : Op3) (s t : List C) : List (Nat × Ob) := [(4, .cells t), (3, .cells s), (2, .cells ((opD k).map .d)), (1, .cells ((opD o).map .d)), (0, .cells (rowsC f))]
set_option maxRecDepth 8000 in
set_option maxHeartbeats 4000000 in
theorem w23h {part : List UInt8 → Bool} (f : Nat → Int) (o k : Op3) (s t : List C) (sd : Int) : awp (tbl [(14, G19 part), (72, T51)]) (c23.tail 5) (PureQ [.t 8] (.c (.bool false))) ⟨[(4, .c (.ptr 0 0)), (5, .c (.ptr 1 0)), (6, .c (.ptr 2 0)), (10, .c (.d (.int .i64 0))), (11, .c (.ptr 4 0)), (12, .c (.d (.int .i64 0))), (13, .c (.d (.bool false))), (14, .c (.d (.int .i64 sd)))], ⟨5, c23s f o k s t⟩⟩ := by
  unfold c23s c23
  dsimp only [ACode.tail]
  repeat' first | refine GoH ?_ | ((with_reducible first|apply ZD|apply ZE|apply ZF|apply ZG|apply ZH|apply ZI);rfl;rfl;all_goals (intro hc;first|(exfalso;omega)|skip))|((with_reducible first|apply ZJ|apply ZK);rfl;rfl;all_goals (intro hc;first|contradiction|skip))|((with_reducible first|apply ZL|apply ZM);rfl;rfl;omega;omega)|((with_reducible first|apply ZN|apply ZO);rfl;rfl;omega;omega;intro c hget hc)|((with_reducible apply ZP);rfl;(first|exact .inl rfl|assumption);rfl;rfl;omega;omega;omega;intro s' hs' hl')|((with_reducible apply ZQ);rfl;rfl;rfl;omega;omega;omega;intro s' hs' hl')|((with_reducible apply ZR);rfl) | refine GoH ?_|refine ZB rfl ?_|refine ZC rfl ?_
  exact ⟨_, rfl, rfl⟩
set_option maxRecDepth 8000 in
set_option maxHeartbeats 4000000 in
theorem w23t {part : List UInt8 → Bool} (f : Nat → Int) (o k : Op3) (s : List C) (tc : C) (l r : Bool) (sd : Int) : awp (tbl [(14, G19 part), (72, T51)]) (c23.tail 5) (PureQ [.t 8] (.c (.bool ((!l && !r) || tightI f o.g k.g || (decide (o.g = k.g) && decide (o.a = sd) && decide (k.a = sd)))))) ⟨[(4, .c (.ptr 0 0)), (5, .c (.ptr 1 0)), (6, .c (.ptr 2 0)), (10, .c (.d (.int .i64 0))), (11, .c (.ptr 4 0)), (12, .c (.d (.int .i64 0))), (13, .c (.d (.bool true))), (14, .c (.d (.int .i64 sd)))], ⟨5, c23s f o k s [tc, .d (.bool l), .d (.bool r)]⟩⟩ := by
  obtain ⟨p, g, a⟩ := o
  obtain ⟨p', g', a'⟩ := k
  have h51 := T51_eq f g g'
  simp only
  generalize tightI f g g' = tt at h51
  unfold c23s c23
  dsimp only [ACode.tail]
  by_cases hc1 : l = false ∧ r = false
  · obtain ⟨rfl, rfl⟩ := hc1
    repeat' first | refine GoH ?_ | ((with_reducible first|apply ZD|apply ZE|apply ZF|apply ZG|apply ZH|apply ZI);rfl;rfl;all_goals (intro hc;first|(exfalso;omega)|skip))|((with_reducible first|apply ZJ|apply ZK);rfl;rfl;all_goals (intro hc;first|contradiction|skip))|((with_reducible first|apply ZL|apply ZM);rfl;rfl;omega;omega)|((with_reducible first|apply ZN|apply ZO);rfl;rfl;omega;omega;intro c hget hc)|((with_reducible apply ZP);rfl;(first|exact .inl rfl|assumption);rfl;rfl;omega;omega;omega;intro s' hs' hl')|((with_reducible apply ZQ);rfl;rfl;rfl;omega;omega;omega;intro s' hs' hl')|((with_reducible apply ZR);rfl) | refine GoH ?_|refine ZB rfl ?_|refine ZC rfl ?_
    exact ⟨_, rfl, rfl⟩
  · have e : ((!l && !r) = false) := by cases l <;> cases r <;> simp_all
    rw [e]
    cases tt with
    | true =>
      cases l <;> cases r <;> first | (exfalso; exact hc1 ⟨rfl, rfl⟩) | skip
      all_goals
        repeat' first | refine GoH ?_ | ((with_reducible first|apply ZD|apply ZE|apply ZF|apply ZG|apply ZH|apply ZI);rfl;rfl;all_goals (intro hc;first|(exfalso;omega)|skip))|((with_reducible first|apply ZJ|apply ZK);rfl;rfl;all_goals (intro hc;first|contradiction|skip))|((with_reducible first|apply ZL|apply ZM);rfl;rfl;omega;omega)|((with_reducible first|apply ZN|apply ZO);rfl;rfl;omega;omega;intro c hget hc)|((with_reducible apply ZP);rfl;(first|exact .inl rfl|assumption);rfl;rfl;omega;omega;omega;intro s' hs' hl')|((with_reducible apply ZQ);rfl;rfl;rfl;omega;omega;omega;intro s' hs' hl')|((with_reducible apply ZR);rfl) | ((with_reducible apply Z1 (f := 72));rfl;rfl;rfl;exact h51;rfl) | refine GoH ?_|refine ZB rfl ?_|refine ZC rfl ?_
        exact ⟨_, rfl, rfl⟩
    | false =>
      simp only [Bool.or_false, Bool.false_or]
      cases l <;> cases r <;> first | (exfalso; exact hc1 ⟨rfl, rfl⟩) | skip
      all_goals
        repeat' first | refine GoH ?_ | ((with_reducible first|apply ZD|apply ZE|apply ZF|apply ZG|apply ZH|apply ZI);rfl;rfl;all_goals (intro hc;first|(exfalso;omega)|skip))|((with_reducible first|apply ZJ|apply ZK);rfl;rfl;all_goals (intro hc;first|contradiction|skip))|((with_reducible first|apply ZL|apply ZM);rfl;rfl;omega;omega)|((with_reducible first|apply ZN|apply ZO);rfl;rfl;omega;omega;intro c hget hc)|((with_reducible apply ZP);rfl;(first|exact .inl rfl|assumption);rfl;rfl;omega;omega;omega;intro s' hs' hl')|((with_reducible apply ZQ);rfl;rfl;rfl;omega;omega;omega;intro s' hs' hl')|((with_reducible apply ZR);rfl) | ((with_reducible apply Z1 (f := 72));rfl;rfl;rfl;exact h51;rfl) | refine GoH ?_|refine ZB rfl ?_|refine ZC rfl ?_
        all_goals first
          | (rw [decide_eq_false (p := g = g') (by assumption)]; exact ⟨_, rfl, rfl⟩)
          | (rw [decide_eq_true (p := g = g') (by assumption), decide_eq_false (p := a = sd) (by assumption)]; exact ⟨_, rfl, rfl⟩)
          | (rw [decide_eq_true (p := g = g') (by assumption), decide_eq_true (p := a = sd) (by assumption), decide_eq_false (p := a' = sd) (by assumption)]; exact ⟨_, rfl, rfl⟩)
          | (rw [decide_eq_true (p := g = g') (by assumption), decide_eq_true (p := a = sd) (by assumption), decide_eq_true (p := a' = sd) (by assumption)]; exact ⟨_, rfl, rfl⟩)
set_option maxRecDepth 8000 in
set_option maxHeartbeats 8000000 in
theorem w23 (part : List UInt8 → Bool) (x : (Nat → Int) × Op3 × Op3 × Bool) (_ : True) : awp (tbl [(14, G19 part), (72, T51)]) c23 (PureQ [.t 8] (.c (.bool (fitsOf part x.1 x.2.1 x.2.2.1 x.2.2.2)))) ⟨argE 0 (dvArgs [.agg (rowsD x.1), .agg (opD x.2.1), .agg (opD x.2.2.1), .c (.bool x.2.2.2)]), ⟨0, []⟩⟩ := by
  obtain ⟨f, o, k, right⟩ := x
  simp only
  have hno : ∀ q, shapeOf part q = none → G19 part [.c (.str q)] = some (.tup [.agg [.list 0 [], .bool false, .bool false], .c (.int .i64 23)]) := fun q hq => by simp only [G19, hq]; rfl
  have hyes : ∀ q ps l r, shapeOf part q = some ⟨ps, l, r⟩ → G19 part [.c (.str q)] = some (.tup [.agg [.list 1 (ofStrs ps), .bool l, .bool r], .c (.int .i64 0)]) := fun q ps l r hq => by simp only [G19, hq]; rfl
  have hH := fun s t sd => w23h (part := part) f o k s t sd
  have hT := fun s tc l r sd => w23t (part := part) f o k s tc l r sd
  unfold fitsOf
  cases hS : shapeOf part o.pat with
  | none =>
    have h1 := hno _ hS
    cases hU : shapeOf part k.pat with
    | none =>
      have h2 := hno _ hU
      clear hH hT
      obtain ⟨p, g, a⟩ := o
      obtain ⟨p', g', a'⟩ := k
      unfold c23
      cases right <;> (repeat' first | refine GoH ?_ | ((with_reducible first|apply ZD|apply ZE|apply ZF|apply ZG|apply ZH|apply ZI);rfl;rfl;all_goals (intro hc;first|(exfalso;omega)|skip))|((with_reducible first|apply ZJ|apply ZK);rfl;rfl;all_goals (intro hc;first|contradiction|skip))|((with_reducible first|apply ZL|apply ZM);rfl;rfl;omega;omega)|((with_reducible first|apply ZN|apply ZO);rfl;rfl;omega;omega;intro c hget hc)|((with_reducible apply ZP);rfl;(first|exact .inl rfl|assumption);rfl;rfl;omega;omega;omega;intro s' hs' hl')|((with_reducible apply ZQ);rfl;rfl;rfl;omega;omega;omega;intro s' hs' hl')|((with_reducible apply ZR);rfl) | ((with_reducible apply Z1 (f := 14));rfl;rfl;rfl;exact h1;rfl) | ((with_reducible apply Z1 (f := 14));rfl;rfl;rfl;exact h2;rfl) | refine GoH ?_|refine ZB rfl ?_|refine ZC rfl ?_) <;> exact ⟨_, rfl, rfl⟩
    | some t =>
      obtain ⟨ps', l', r'⟩ := t
      have h2 := hyes _ ps' l' r' hU
      clear hH hT
      obtain ⟨p, g, a⟩ := o
      obtain ⟨p', g', a'⟩ := k
      unfold c23
      cases right <;> (repeat' first | refine GoH ?_ | ((with_reducible first|apply ZD|apply ZE|apply ZF|apply ZG|apply ZH|apply ZI);rfl;rfl;all_goals (intro hc;first|(exfalso;omega)|skip))|((with_reducible first|apply ZJ|apply ZK);rfl;rfl;all_goals (intro hc;first|contradiction|skip))|((with_reducible first|apply ZL|apply ZM);rfl;rfl;omega;omega)|((with_reducible first|apply ZN|apply ZO);rfl;rfl;omega;omega;intro c hget hc)|((with_reducible apply ZP);rfl;(first|exact .inl rfl|assumption);rfl;rfl;omega;omega;omega;intro s' hs' hl')|((with_reducible apply ZQ);rfl;rfl;rfl;omega;omega;omega;intro s' hs' hl')|((with_reducible apply ZR);rfl) | ((with_reducible apply Z1 (f := 14));rfl;rfl;rfl;exact h1;rfl) | ((with_reducible apply Z1 (f := 14));rfl;rfl;rfl;exact h2;rfl) | refine GoH ?_|refine ZB rfl ?_|refine ZC rfl ?_) <;> exact ⟨_, rfl, rfl⟩
  | some s =>
    obtain ⟨ps, l, r⟩ := s
    have h1 := hyes _ ps l r hS
    cases hU : shapeOf part k.pat with
    | none =>
      have h2 := hno _ hU
      clear hH hT
      obtain ⟨p, g, a⟩ := o
      obtain ⟨p', g', a'⟩ := k
      unfold c23
      cases right <;> (repeat' first | refine GoH ?_ | ((with_reducible first|apply ZD|apply ZE|apply ZF|apply ZG|apply ZH|apply ZI);rfl;rfl;all_goals (intro hc;first|(exfalso;omega)|skip))|((with_reducible first|apply ZJ|apply ZK);rfl;rfl;all_goals (intro hc;first|contradiction|skip))|((with_reducible first|apply ZL|apply ZM);rfl;rfl;omega;omega)|((with_reducible first|apply ZN|apply ZO);rfl;rfl;omega;omega;intro c hget hc)|((with_reducible apply ZP);rfl;(first|exact .inl rfl|assumption);rfl;rfl;omega;omega;omega;intro s' hs' hl')|((with_reducible apply ZQ);rfl;rfl;rfl;omega;omega;omega;intro s' hs' hl')|((with_reducible apply ZR);rfl) | ((with_reducible apply Z1 (f := 14));rfl;rfl;rfl;exact h1;rfl) | ((with_reducible apply Z1 (f := 14));rfl;rfl;rfl;exact h2;rfl) | refine GoH ?_|refine ZB rfl ?_|refine ZC rfl ?_) <;> exact ⟨_, rfl, rfl⟩
    | some t =>
      obtain ⟨ps', l', r'⟩ := t
      have h2 := hyes _ ps' l' r' hU
      obtain ⟨p, g, a⟩ := o
      obtain ⟨p', g', a'⟩ := k
      simp only [fitsV]
      unfold c23s at hH hT
      cases right
      · cases l
        · have hh := hH [.d (.list 1 (ofStrs ps)), .d (.bool false), .d (.bool r)] [.d (.list 1 (ofStrs ps')), .d (.bool l'), .d (.bool r')] 1
          clear hH hT
          unfold c23
          repeat' first | ((with_reducible apply weak_keep [4, 5, 6, 10, 11, 12, 13, 14]); rfl; exact hh) | refine GoH ?_ | ((with_reducible apply Z1 (f := 14));rfl;rfl;rfl;exact h1;rfl) | ((with_reducible apply Z1 (f := 14));rfl;rfl;rfl;exact h2;rfl) | refine GoH ?_|refine ZB rfl ?_|refine ZC rfl ?_
        · have hh := hT [.d (.list 1 (ofStrs ps)), .d (.bool true), .d (.bool r)] (.d (.list 1 (ofStrs ps'))) l' r' 1
          clear hH hT
          unfold c23
          repeat' first | ((with_reducible apply weak_keep [4, 5, 6, 10, 11, 12, 13, 14]); rfl; exact hh) | refine GoH ?_ | ((with_reducible apply Z1 (f := 14));rfl;rfl;rfl;exact h1;rfl) | ((with_reducible apply Z1 (f := 14));rfl;rfl;rfl;exact h2;rfl) | refine GoH ?_|refine ZB rfl ?_|refine ZC rfl ?_
      · cases r
        · have hh := hH [.d (.list 1 (ofStrs ps)), .d (.bool l), .d (.bool false)] [.d (.list 1 (ofStrs ps')), .d (.bool l'), .d (.bool r')] 2
          clear hH hT
          unfold c23
          repeat' first | ((with_reducible apply weak_keep [4, 5, 6, 10, 11, 12, 13, 14]); rfl; exact hh) | refine GoH ?_ | ((with_reducible apply Z1 (f := 14));rfl;rfl;rfl;exact h1;rfl) | ((with_reducible apply Z1 (f := 14));rfl;rfl;rfl;exact h2;rfl) | refine GoH ?_|refine ZB rfl ?_|refine ZC rfl ?_
        · have hh := hT [.d (.list 1 (ofStrs ps)), .d (.bool l), .d (.bool true)] (.d (.list 1 (ofStrs ps'))) l' r' 2
          clear hH hT
          unfold c23
          repeat' first | ((with_reducible apply weak_keep [4, 5, 6, 10, 11, 12, 13, 14]); rfl; exact hh) | refine GoH ?_ | ((with_reducible apply Z1 (f := 14));rfl;rfl;rfl;exact h1;rfl) | ((with_reducible apply Z1 (f := 14));rfl;rfl;rfl;exact h2;rfl) | refine GoH ?_|refine ZB rfl ?_|refine ZC rfl ?_
theorem pok23 {m : Int} {part : List UInt8 → Bool} (h : PureOk Go.Proofs.Tryd.prog (glb m) 14 (G19 part)) : PureOk Go.Proofs.Tryd.prog (glb m) 49 (T23 part) := .inl (fam_ok (fn23 m) (callOk_cons h (callOk_cons (pok51 m) (callOk_nil _ _))) (w23 part))
end Go.Am
