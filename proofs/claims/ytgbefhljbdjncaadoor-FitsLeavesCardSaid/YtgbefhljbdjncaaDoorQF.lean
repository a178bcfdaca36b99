/-
  FitsLeaves: the rounds, where no operator has the text as a part.
-/
import Derived.Test.YtgbefhljbdjncaaDoorQD
namespace Go.Am
open Go
set_option maxRecDepth 8000 in
set_option maxHeartbeats 8000000 in
theorem w9t {part : List UInt8 → Bool} {msz : Nat} {ml : List Op3} {mr : Nat → Nat} (he : EnvOk msz ml mr) {s : List UInt8} (hs : s.length ≤ 60) (hf : (entsOf part (liftF mr) s ml).isEmpty = true) : W9 part msz ml mr s true := by
  unfold W9 c9
  dsimp only [ACode.tail]
  repeat' first | (with_reducible first|refine Za ?_|refine Zb ?_|refine Zc ?_|refine Zd ?_|refine Ze ?_|refine Zf ?_|refine Zg ?_|refine Zh ?_|refine Zi ?_|refine Zj ?_|refine Zk ?_|refine Zl ?_|refine Zm ?_|refine Zn ?_|refine Zo ?_|refine Zp ?_|refine Zq ?_|refine Zr ?_|refine Zs ?_|refine Zt ?_|refine Zu ?_)|(with_reducible refine Zv (by decide) ?_)|((with_reducible apply Zw);rfl)|((with_reducible apply Zx);rfl;decide)|((with_reducible apply Zy);rfl)|((with_reducible apply Zz);rfl)|((with_reducible apply ZA);rfl) | refine ZB rfl ?_|refine ZC rfl ?_
  refine awp_loop (fun m st => ∃ (v : Int) (nx : Nat), -1 ≤ v ∧ v ≤ 10 ∧ 10 - v < m ∧ 1 ≤ nx ∧
    st = ⟨[(5, .c (.d (.bool true))), (6, .c (.ptr 0 0)), (7, .c (.d (.str s))), (8, .c (.d (.bool true))), (9, .c (.d (.int .i64 v)))], ⟨nx, [(0, .cells (.d (.list msz (ml.map opD)) :: rowsC (liftF mr)))]⟩⟩) 12 ?_ (by rintro st ⟨v, nx, h0, h1, h2, _⟩; omega) ?_
  · exact weak_keep [5, 6, 7, 8, 9] rfl ⟨-1, 1, by omega, by omega, by omega, by omega, rfl⟩
  · rintro m K hK st ⟨v, nx, hv, hi, hm, hnx, rfl⟩
    have h0 : nx ≠ 0 := by omega
    have h29 : ∀ k : Int, T29 part [.agg (envD msz ml (liftF mr)), .agg [.int .i64 k, .int .i64 0, .int .i64 0, .str s, .int .i64 0]] = some (.c (.bool (leafB k true))) := fun k => by rw [← hf]; exact T29_eq he.len ⟨k, 0, 0, s, 0⟩
    clear hf
    rcases elev hv hi with rfl | rfl | rfl | rfl | rfl | rfl | rfl | rfl | rfl | rfl | rfl | rfl
    all_goals
        repeat' first
          | (with_reducible first|refine Za ?_|refine Zb ?_|refine Zc ?_|refine Zd ?_|refine Ze ?_|refine Zf ?_|refine Zg ?_|refine Zh ?_|refine Zi ?_|refine Zj ?_|refine Zk ?_|refine Zl ?_|refine Zm ?_|refine Zn ?_|refine Zo ?_|refine Zp ?_|refine Zq ?_|refine Zr ?_|refine Zs ?_|refine Zt ?_|refine Zu ?_)|(with_reducible refine Zv (by decide) ?_)|((with_reducible apply Zw);rfl)|((with_reducible apply Zx);rfl;decide)|((with_reducible apply Zy);rfl)|((with_reducible apply Zz);rfl)|((with_reducible apply ZA);rfl)
          | (refine ZC (ev_store rfl rfl rfl look_hd rfl put_hd) ?_)
          | refine ZB (ev_load rfl look_hd rfl) ?_
          | refine ZB (ev_load rfl (look_tl h0 rfl) rfl) ?_
          | ((with_reducible apply Z1 (f := 29));rfl;rfl;rfl;exact h29 _;rfl)
          | ((with_reducible apply Z1 (f := 27));rfl;rfl;rfl;exact t27s _ _;rfl)
          | ((with_reducible apply Z1 (f := 27));rfl;rfl;rfl;exact t27x _ _;rfl)
          | refine ZB (ev_adds rfl rfl (by simp only [List.length_cons, List.length_nil]; omega)) ?_
          | ((with_reducible apply ZL);rfl;rfl;omega;omega)
          | refine ZB rfl ?_|refine ZC rfl ?_
        first
          | exact ⟨_, rfl, rfl⟩
          | (refine hK _ (weak_drop [5, 6, 7, 8, 9] rfl (look_more (look_tl h0.symm rfl)) (Nat.le_refl _) ⟨_, nx + 1, ?_, ?_, ?_, by omega, rfl⟩) <;> omega)
end Go.Am
