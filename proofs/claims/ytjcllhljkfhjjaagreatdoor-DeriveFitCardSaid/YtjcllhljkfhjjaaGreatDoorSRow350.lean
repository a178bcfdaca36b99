/-
  THE ROW OF DeriveFit: of any two operators the law's function comes to true and leaves its arguments as they were. Conditions: class.members, utf8.first and utf8.acceptRanges hold what the program's text lays (the card ties that); of internal/bytealg.MaxLen nothing is asked.
-/
import Derived.Test.YtjcllhljkfhjjaaGreatDoorSRow
import Derived.Test.YtjcllhljkfhjjaaGreatDoorSWL
import Derived.Test.YtjcllhljkfhjjaaGreatDoorSRead8
import Derived.Test.YtjcllhljkfhjjaaGreatDoorTie
import Derived.Test.YtjcllhljkfhjjaaGreatDoorCards
import Derived.JoinedCond
import Derived.MakeChecks
import Derived.SevenTiedAt
namespace Go.Proofs.YtjcllhljkfhjjaaGreatDoor
open Go Go.Am Go.ChangeShapes Go.WideShapes Go.ChangeAt Go.RowKit Go.Lib
theorem laidOut : laidOutB Tryz.prog = true := by kernel_rfl
theorem own : ownKnob Tryz.prog.godebug = none := by kernel_rfl
theorem laidRows_met (os : Os) (args : Array Value) : laidMet Tryz.prog Rows.deriveFitRow.laid ((laidWorld os).forCall (fun _ _ => 0) ⟨#[], args, []⟩).memory :=
  (LaidIn.of_run (l := Rows.deriveFitRow.laid) [0, 3, 2] 8 (by kernel_rfl) (by kernel_rfl) (by kernel_rfl) (by kernel_rfl)).met
theorem glob_row {W : World} (hL : laidMetH Tryz.prog Rows.deriveFitRow.laid W) (hs : W.ShapedOpen Tryz.prog) : ∃ m, GlobOk (glb m) W (fun _ => False) := by
  rw [MakeChecks.laidMetH_plain _ _ _ (by kernel_rfl)] at hL
  obtain ⟨ps, ⟨g, t, cs, fuel, p, q, h1, h2, h3, h4, _, _⟩, _⟩ := hL
  obtain ⟨m, hm⟩ := maxLen_of hs
  refine ⟨m, fun g' ds hg => ?_⟩
  unfold glb at hg
  split at hg
  · rename_i e
    subst e
    cases hg
    exact glob_of_laid (k := 8) (t := 123) gMembers (by kernel_rfl) (by kernel_rfl) ⟨g, t, cs, fuel, p, h1, h2, h3, h4⟩
  · split at hg
    · rename_i e
      subst e
      cases hg
      exact .lptr _ 0 1 0 (fun _ => .int .i64 m) (fun _ h => h) (fun i hi => by
        have : i = 0 := by simpa using hi
        subst this
        exact hm) (fun i d hd => by
        cases i with
        | zero => cases hd; exact .int _ _
        | succ i => simp at hd)
    · cases hg
theorem witness_row_law (os : Os) {H : Type} (enc : TypeId × Value → H) :
    (OpenSpec.ofChange Rows.deriveFitSpec).preRow enc Tryz.prog Tryz.f3 Rows.deriveFitRow.domain false Rows.deriveFitRow.laid ((laidWorld os).forCall (fun _ _ => 0) ⟨#[], #[.agg #[.string ⟨#[]⟩, .int .i64 0, .int .i64 0], .agg #[.string ⟨#[]⟩, .int .i64 0, .int .i64 0]], []⟩).memory #[.agg #[.string ⟨#[]⟩, .int .i64 0, .int .i64 0], .agg #[.string ⟨#[]⟩, .int .i64 0, .int .i64 0]] := by
  have hw : (DataW.whole enc Tryz.prog ((laidWorld os).forCall (fun _ _ => 0) ⟨#[], #[.agg #[.string ⟨#[]⟩, .int .i64 0, .int .i64 0], .agg #[.string ⟨#[]⟩, .int .i64 0, .int .i64 0]], []⟩).memory Tryz.f3.params.toList (OpenSpec.ofChange Rows.deriveFitSpec).vars false (#[.agg #[.string ⟨#[]⟩, .int .i64 0, .int .i64 0], .agg #[.string ⟨#[]⟩, .int .i64 0, .int .i64 0]] : Array Value).toList 8).map (fun x => (x.1, x.2.1)) =
      some ([.agg [.lit (.string []), .lit (.int .i64 0), .lit (.int .i64 0)], .agg [.lit (.string []), .lit (.int .i64 0), .lit (.int .i64 0)]], []) := by kernel_rfl
  obtain ⟨⟨x1, x2, x3⟩, hx, hx1⟩ := Option.map_eq_some_iff.1 hw
  simp only [Prod.mk.injEq] at hx1
  obtain ⟨rfl, rfl⟩ := hx1
  exact OpenSpec.preRow_of_cond 8 hx (by kernel_rfl) (fun k hk => by cases hk) (by kernel_rfl) (laidRows_met os _)
set_option maxRecDepth 100000 in
set_option maxHeartbeats 2000000 in
theorem law_lifted (os : Os) (started : os.Started) (H : Type) (enc : TypeId × Value → H) (F : Stop.Interp) :
    ReturnsInHanded {} Tryz.checked os 3 .any ((OpenSpec.ofChange Rows.deriveFitSpec).preRow enc Tryz.prog Tryz.f3 Rows.deriveFitRow.domain false Rows.deriveFitRow.laid) (((OpenSpec.ofChange Rows.deriveFitSpec).at F).post enc Tryz.prog Tryz.f3 false true false false) := by
  refine returnsInHanded_of_row (C := Tryz.checked) (s := OpenSpec.ofChange Rows.deriveFitSpec) own started (by kernel_rfl) Tryz.func3
    (witness_row_atRef (enc := enc) (C := Tryz.checked) false (laidWorld os) #[.agg #[.string ⟨#[]⟩, .int .i64 0, .int .i64 0], .agg #[.string ⟨#[]⟩, .int .i64 0, .int .i64 0]] rfl (by kernel_rfl) (by kernel_rfl) (by kernel_rfl) (witness_row_law os enc)) ?_
  intro W base args ds gs before hval0 hW _ _ hwt hL hsh _
  have hval : ∀ (j : Nat) t v, Tryz.f3.params[j]? = some t → args[j]? = some v → Value.okWide Tryz.prog W .any base t v := hval0
  have hW' := hW
  obtain ⟨p, q, hA0, hV0, rfl, _, _⟩ := hW
  have hA : DataW.TrodAll enc Tryz.prog W 0 (fun _ => true) true Tryz.f3.params.toList args.toList ds p := hA0
  rw [Tryz.params3] at hA hval
  obtain ⟨v0, v1, d0, d1, p0, p1, rfl, rfl, rfl, h0, h1⟩ := trodAll_two hA
  obtain ⟨rfl, rfl⟩ := trodVars_none hV0
  have hwt2 : (DataW.weightsEach Tryz.prog ([23, 23] : List TypeId) [d0, d1]).all (· ≤ reachBytes) = true := hwt
  simp only [DataW.weightsEach, List.append_nil, List.all_append, Bool.and_eq_true, List.all_eq_true, decide_eq_true_eq] at hwt2
  obtain ⟨g0, g1⟩ := hwt2
  obtain ⟨c0, rfl, _⟩ := okWide_struct Tryz.underlying23 (hval 0 23 v0 rfl rfl)
  have k0 := h0
  obtain ⟨n0, hn0⟩ := h0
  have lt0 : ∀ x ∈ p0, x.block < W.heap.size := DataW.trod_lt n0 _ _ _ hn0
  obtain ⟨e0, o0, r0⟩ := arg_rep 8 hn0 (show tyOf Tryz.prog 8 23 = some (tOp) by kernel_rfl) g0
  obtain ⟨x0', rfl, q0⟩ := op_of o0
  obtain ⟨c1, rfl, _⟩ := okWide_struct Tryz.underlying23 (hval 1 23 v1 rfl rfl)
  have k1 := h1
  obtain ⟨n1, hn1⟩ := h1
  have lt1 : ∀ x ∈ p1, x.block < W.heap.size := DataW.trod_lt n1 _ _ _ hn1
  obtain ⟨e1, o1, r1⟩ := arg_rep 8 hn1 (show tyOf Tryz.prog 8 23 = some (tOp) by kernel_rfl) g1
  obtain ⟨x1', rfl, q1⟩ := op_of o1
  clear hA0 hV0 hval0
  obtain ⟨m, hg⟩ := glob_row hL hsh
  have hds : DsRep W (fun _ => False) [.agg (opD x0'), .agg (opD x1')] [.agg c0, .agg c1] :=
    DsRep.cons (rep_agg r0) (DsRep.cons (rep_agg r1) (⟨rfl, by simp⟩))
  refine ((deriveFit_ok m).run W (fun _ => False) _ _ _ hg (fun _ h => h.elim) hds (T350_eq q0 q1)).mono ?_
  intro e W' hb
  obtain ⟨v, rfl, hk, hv⟩ := back_mono (fun v w h => h) e W' hb
  obtain rfl := back_bool hv
  have bel : Below W.heap.size W W' := ⟨hk.os, hk.tape, hk.output, hk.size, fun b hb => hk.block b hb (fun h => h)⟩
  have e1 : ((OpenSpec.ofChange Rows.deriveFitSpec).at F).fn H ([d0, d1] ++ []) = { results := [.lit (.bool true)], args := [d0, d1] } := rfl
  refine ⟨_, rfl, _, _, _, [], (p0 ++ p1), [], hW', ?_, ?_, ?_, kept_frame hk _, fun h => by cases h⟩
  · rw [e1]; exact trodAll_mk1 (shut_bool Tryz.underlying4 _)
  · rw [e1]; exact trodAll_mk2 (Below.trod laidOut (by kernel_rfl) (of_decide_eq_true (by kernel_rfl)) k0 bel lt0) (Below.trod laidOut (by kernel_rfl) (of_decide_eq_true (by kernel_rfl)) k1 bel lt1)
  · rw [e1]; rfl
theorem deriveFit_row : Rows.DeriveFitSaid :=
  OpenClaim.holds_of_cond 3 Tryz.f3 rfl rfl rfl rfl rfl rfl rfl ⟨rfl, rfl, rfl, rfl, rfl⟩ rfl rfl rfl rfl rfl (by kernel_rfl) Tryz.func3 (by kernel_rfl)
    (of_decide_eq_true (by kernel_rfl)) (by unfold Func.isWrapper; rw [if_neg (of_decide_eq_false (by kernel_rfl))]; exact ⟨rfl, rfl⟩)
    (fun os started H enc _ F0 => by rw [OpenClaim.pre_eq_preRow]; exact law_lifted os started H enc F0)
end Go.Proofs.YtjcllhljkfhjjaaGreatDoor
