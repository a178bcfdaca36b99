/-
  FitsLeaves: the law's function comes to true, whatever it is given.
-/
import Derived.Test.YtgbefhljbdjncaaDoorQF
import Derived.Test.YtgbefhljbdjncaaDoorQG
namespace Go.Am
open Go
set_option maxRecDepth 8000 in
set_option maxHeartbeats 8000000 in
theorem w9 {part : List UInt8 → Bool} (x : (Nat × List Chg) × List UInt8) (hx : ChgsOk x.1.2) : awp (tbl [(20, G20), (21, T21), (27, T27), (29, T29 part), (31, T31 part)]) c9 (PureQ [.t 4] (.c (.bool true))) ⟨argE 0 (dvArgs [.c (.list x.1.1 (x.1.2.map chgD)), .c (.str x.2)]), ⟨0, []⟩⟩ := by
  obtain ⟨⟨sz, l⟩, s⟩ := x
  simp only at hx ⊢
  obtain ⟨msz, ml, mr, he, h21⟩ := M9 hx sz
  have h20 : G20 [] = some (.c (.bool true)) := rfl
  have hsl : (s.take 60).length ≤ 60 := by rw [List.length_take]; omega
  have h31 := T31_eq (part := part) (sz := msz) (f := liftF mr) he.len (s.take 60)
  have hft := w9t (part := part) he hsl
  have hff := w9f (part := part) he hsl
  unfold W9 at hft hff
  have htk : ∀ cl e h x y, ev e x = .c (.d (.str s)) → ev e y = .c (.d (.int .i64 (if (60 : Int) < s.length then (60 : Int) else s.length))) → eval cl e h (.substr x none (some y)) = some (.c (.d (.str (s.take 60))), h) := fun cl e h x y h1 h2 => ev_take60 h1 h2
  generalize s.take 60 = p at hsl h31 hft hff htk
  generalize hes : entsOf part (liftF mr) p ml = es at h31 hft hff
  have hl : ∀ (y : List D) q, (((y :: q).length : Nat) : Int) ≠ 0 := fun y q => by simp only [List.length_cons]; omega
  have hz : ((([] : List (List D)).length : Nat) : Int) = 0 := rfl
  unfold c9
  rcases es with _ | ⟨y, q⟩
  have hfin := hft rfl
  rotate_left
  have hfin := hff rfl
  replace hl := hl y q
  all_goals
    repeat' first
      | ((with_reducible apply weak_keep [5, 6, 7, 8]); rfl; exact hfin)
      | (with_reducible first|refine Za ?_|refine Zb ?_|refine Zc ?_|refine Zd ?_|refine Ze ?_|refine Zf ?_|refine Zg ?_|refine Zh ?_|refine Zi ?_|refine Zj ?_|refine Zk ?_|refine Zl ?_|refine Zm ?_|refine Zn ?_|refine Zo ?_|refine Zp ?_|refine Zq ?_|refine Zr ?_|refine Zs ?_|refine Zt ?_|refine Zu ?_)|(with_reducible refine Zv (by decide) ?_)|((with_reducible apply Zw);rfl)|((with_reducible apply Zx);rfl;decide)|((with_reducible apply Zy);rfl)|((with_reducible apply Zz);rfl)|((with_reducible apply ZA);rfl)
      | ((with_reducible apply Z1 (f := 20));rfl;rfl;rfl;exact h20;rfl)
      | ((with_reducible apply Z1 (f := 21));rfl;rfl;rfl;exact h21;rfl)
      | ((with_reducible apply Z1 (f := 31));rfl;rfl;rfl;exact h31;rfl)
      | refine ZB (ev_min rfl rfl) ?_
      | refine ZB (htk _ _ _ _ _ rfl rfl) ?_
      | ((with_reducible first|apply ZD|apply ZE|apply ZF|apply ZG|apply ZH|apply ZI);rfl;rfl;all_goals (intro hc;first|(exfalso;omega)|skip))|((with_reducible first|apply ZJ|apply ZK);rfl;rfl;all_goals (intro hc;first|contradiction|skip))|((with_reducible first|apply ZL|apply ZM);rfl;rfl;omega;omega)|((with_reducible first|apply ZN|apply ZO);rfl;rfl;omega;omega;intro c hget hc)|((with_reducible apply ZP);rfl;(first|exact .inl rfl|assumption);rfl;rfl;omega;omega;omega;intro s' hs' hl')|((with_reducible apply ZQ);rfl;rfl;rfl;omega;omega;omega;intro s' hs' hl')|((with_reducible apply ZR);rfl)
      | refine ZB rfl ?_|refine ZC rfl ?_
/-- THE LAW's FUNCTION: true, of any changes and any text. -/
theorem fitsLeaves_ok (m : Int) : PureFn Go.Proofs.Tryd.prog (glb m) 9 T9 := by
  obtain ⟨G, p37, hG⟩ := lexAll m
  have p19 := pok19 (pok47 (pok63 (pok45 (pok46 (.inl p37) hG))))
  exact fam_ok (fn9 m) (callOk_cons (pok20 hG p19) (callOk_cons (pok21 m) (callOk_cons (pok27 m) (callOk_cons (pok29 p19) (callOk_cons (pok31 p19) (callOk_nil _ _)))))) (w9 (part := partV G))
end Go.Am
