/-
  fits.Leaf; what the law FitsLeaves needs.
-/
import Derived.Test.YtpidbhbmamjbpaaDoorSQA
namespace Go.Am
open Go
def leafB (k : Int) (free : Bool) : Bool := memI [3, 4, 5] k || (memI [1, 2] k && free)
noncomputable def T29 (part : List UInt8 → Bool) : List DV → Option DV := fam (fun x : (Nat × List Op3 × (Nat → Int)) × Tk5 => [.agg (envD x.1.1 x.1.2.1 x.1.2.2), .agg (tkD x.2)]) (fun x => x.1.2.1.length ≤ 1000) (fun x => .c (.bool (leafB x.2.k (entsOf part x.1.2.2 x.2.s x.1.2.1).isEmpty)))
theorem T29_eq {part : List UInt8 → Bool} {sz : Nat} {l : List Op3} {f : Nat → Int} (he : l.length ≤ 1000) (t : Tk5) : T29 part [.agg (envD sz l f), .agg (tkD t)] = some (.c (.bool (leafB t.k (entsOf part f t.s l).isEmpty))) := by
  refine fam_eq (ι := (Nat × List Op3 × (Nat → Int)) × Tk5) ((sz, l, f), t) he ?_
  rintro ⟨⟨sz', l', f'⟩, t'⟩ _ e
  simp only [List.cons.injEq, DV.agg.injEq, and_true] at e
  obtain ⟨h1, h3⟩ := e
  obtain rfl := tkD_inj h3
  obtain ⟨rfl, h2⟩ := envD_inj h1
  simp only [entsOf]
  rw [List.map_congr_left (fun o _ => entD_eq h2 o)]
set_option maxRecDepth 8000 in
set_option maxHeartbeats 4000000 in
theorem w29 (part : List UInt8 → Bool) (x : (Nat × List Op3 × (Nat → Int)) × Tk5) (he : x.1.2.1.length ≤ 1000) : awp (tbl [(46, T31 part), (45, T53)]) c29 (PureQ [.t 4] (.c (.bool (leafB x.2.k (entsOf part x.1.2.2 x.2.s x.1.2.1).isEmpty)))) ⟨argE 0 (dvArgs [.agg (envD x.1.1 x.1.2.1 x.1.2.2), .agg (tkD x.2)]), ⟨0, []⟩⟩ := by
  obtain ⟨⟨sz, l, f⟩, ⟨k, a, b, s, e⟩⟩ := x
  simp only at he ⊢
  have h31 := T31_eq (part := part) (sz := sz) (f := f) he s
  have h53a : T53 [.agg [.int .i64 k, .int .i64 a, .int .i64 b, .str s, .int .i64 e], .c (.list 1 [[.int .i64 3], [.int .i64 4], [.int .i64 5]])] = some (.c (.bool (memI [3, 4, 5] k))) := T53_eq (t := ⟨k, a, b, s, e⟩) (l := [3, 4, 5]) (by decide)
  have h53b : T53 [.agg [.int .i64 k, .int .i64 a, .int .i64 b, .str s, .int .i64 e], .c (.list 1 [[.int .i64 1], [.int .i64 2]])] = some (.c (.bool (memI [1, 2] k))) := T53_eq (t := ⟨k, a, b, s, e⟩) (l := [1, 2]) (by decide)
  unfold leafB
  generalize memI [3, 4, 5] k = b1 at h53a
  generalize memI [1, 2] k = b2 at h53b
  generalize entsOf part f s l = es at h31
  have hl : ∀ (y : List D) q, (((y :: q).length : Nat) : Int) ≠ 0 := fun y q => by simp only [List.length_cons]; omega
  have hz : ((([] : List (List D)).length : Nat) : Int) = 0 := rfl
  unfold c29
  cases b1 <;> cases b2 <;> rcases es with _ | ⟨y, q⟩
  all_goals
    try replace hl := hl y q
    repeat' first | refine GoH ?_ | ((with_reducible apply Z1 (f := 45));rfl;rfl;rfl;exact h53a;rfl) | ((with_reducible apply Z1 (f := 45));rfl;rfl;rfl;exact h53b;rfl) | ((with_reducible apply Z1 (f := 46));rfl;rfl;rfl;exact h31;rfl) | ((with_reducible first|apply ZD|apply ZE|apply ZF|apply ZG|apply ZH|apply ZI);rfl;rfl;all_goals (intro hc;first|(exfalso;omega)|skip))|((with_reducible first|apply ZJ|apply ZK);rfl;rfl;all_goals (intro hc;first|contradiction|skip))|((with_reducible first|apply ZL|apply ZM);rfl;rfl;omega;omega)|((with_reducible first|apply ZN|apply ZO);rfl;rfl;omega;omega;intro c hget hc)|((with_reducible apply ZP);rfl;(first|exact .inl rfl|assumption);rfl;rfl;omega;omega;omega;intro s' hs' hl')|((with_reducible apply ZQ);rfl;rfl;rfl;omega;omega;omega;intro s' hs' hl')|((with_reducible apply ZR);rfl) | refine ZB rfl ?_|refine ZC rfl ?_
    exact ⟨_, rfl, rfl⟩
theorem pok29 {m : Int} {part : List UInt8 → Bool} (h : PureOk Go.Proofs.Tryd.prog (glb m) 14 (G19 part)) : PureOk Go.Proofs.Tryd.prog (glb m) 21 (T29 part) := .inl (fam_ok (fn29 m) (callOk_cons (pok31 h) (callOk_cons (pok53 m) (callOk_nil _ _))) (w29 part))
end Go.Am
