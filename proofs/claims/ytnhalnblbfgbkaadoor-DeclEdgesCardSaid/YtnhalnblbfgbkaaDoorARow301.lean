/-
  THE ROW OF DeclEdges: of any two numbers of 32 bits and any byte the law's function comes to true and leaves its arguments as they were. Conditions: class.members, oper.simples, utf8.first and utf8.acceptRanges hold what the program's text lays (the card ties that); of internal/bytealg.MaxLen nothing is asked.
-/
import Derived.Test.YtnhalnblbfgbkaaDoorARow
import Derived.Test.YtnhalnblbfgbkaaDoorADE
import Derived.Test.YtnhalnblbfgbkaaDoorAReadA
import Derived.Test.YtnhalnblbfgbkaaDoorTie
import Derived.Test.YtnhalnblbfgbkaaDoorCards
import Derived.JoinedCond
import Derived.MakeChecks
import Derived.SevenTiedAt
namespace Go.Proofs.YtnhalnblbfgbkaaDoor
open Go Go.Am Go.ChangeShapes Go.WideShapes Go.ChangeAt Go.RowKit Go.Lib
theorem laidOut : laidOutB Tryd.prog = true := by kernel_rfl
theorem own : ownKnob Tryd.prog.godebug = none := by kernel_rfl
theorem laidRows_met (os : Os) (args : Array Value) : laidMet Tryd.prog Rows.declEdgesRow.laid ((laidWorld os).forCall (fun _ _ => 0) ⟨#[], args, []⟩).memory :=
  (LaidIn.of_run (l := Rows.declEdgesRow.laid) [0, 4, 1, 3] 8 (by kernel_rfl) (by kernel_rfl) (by kernel_rfl) (by kernel_rfl)).met
theorem glob_row {W : World} (hL : laidMetH Tryd.prog Rows.declEdgesRow.laid W) (hs : W.ShapedOpen Tryd.prog) : ∃ m, GlobOk (glbS m) W (fun _ => False) := by
  rw [MakeChecks.laidMetH_plain _ _ _ (by kernel_rfl)] at hL
  obtain ⟨ps, ⟨g, t, cs, fuel, p, q, h1, h2, h3, h4, ⟨_, _, _, _, _, _, _, _, _, _, ⟨g2, t2, cs2, fuel2, p2, q2, k1, k2, k3, k4, _, _⟩, _⟩, _⟩, _⟩ := hL
  obtain ⟨m, hm⟩ := maxLen_of hs
  refine ⟨m, fun g' ds hg => ?_⟩
  unfold glbS at hg
  split at hg
  · rename_i e
    subst e
    cases hg
    exact glob_of_laid (k := 8) (t := 162) gSimples (by kernel_rfl) (by kernel_rfl) ⟨g2, t2, cs2, fuel2, p2, k1, k2, k3, k4⟩
  · unfold glb at hg
    split at hg
    · rename_i e
      subst e
      cases hg
      exact glob_of_laid (k := 8) (t := 159) gMembers (by kernel_rfl) (by kernel_rfl) ⟨g, t, cs, fuel, p, h1, h2, h3, h4⟩
    · split at hg
      · rename_i e
        subst e
        cases hg
        exact .lptr _ 0 2 0 (fun _ => .int .i64 m) (fun _ h => h) (fun i hi => by
          have : i = 0 := by simpa using hi
          subst this
          exact hm) (fun i d hd => by
          cases i with
          | zero => cases hd; exact .int _ _
          | succ i => simp at hd)
      · cases hg
theorem witness_row_law (os : Os) {H : Type} (enc : TypeId × Value → H) :
    (OpenSpec.ofChange Rows.declEdgesSpec).preRow enc Tryd.prog Tryd.f5 Rows.declEdgesRow.domain false Rows.declEdgesRow.laid ((laidWorld os).forCall (fun _ _ => 0) ⟨#[], #[.int .u32 0, .int .u32 0, .int .u8 0], []⟩).memory #[.int .u32 0, .int .u32 0, .int .u8 0] := by
  have hw : (DataW.whole enc Tryd.prog ((laidWorld os).forCall (fun _ _ => 0) ⟨#[], #[.int .u32 0, .int .u32 0, .int .u8 0], []⟩).memory Tryd.f5.params.toList (OpenSpec.ofChange Rows.declEdgesSpec).vars false (#[.int .u32 0, .int .u32 0, .int .u8 0] : Array Value).toList 8).map (fun x => (x.1, x.2.1)) =
      some ([.lit (.int .u32 0), .lit (.int .u32 0), .lit (.int .u8 0)], []) := by kernel_rfl
  obtain ⟨⟨x1, x2, x3⟩, hx, hx1⟩ := Option.map_eq_some_iff.1 hw
  simp only [Prod.mk.injEq] at hx1
  obtain ⟨rfl, rfl⟩ := hx1
  exact OpenSpec.preRow_of_cond 8 hx (by kernel_rfl) (fun k hk => by cases hk) (by kernel_rfl) (laidRows_met os _)
set_option maxRecDepth 100000 in
set_option maxHeartbeats 2000000 in
theorem law_lifted (os : Os) (started : os.Started) (H : Type) (enc : TypeId × Value → H) (F : Stop.Interp) :
    ReturnsInHanded {} Tryd.checked os 5 .any ((OpenSpec.ofChange Rows.declEdgesSpec).preRow enc Tryd.prog Tryd.f5 Rows.declEdgesRow.domain false Rows.declEdgesRow.laid) (((OpenSpec.ofChange Rows.declEdgesSpec).at F).post enc Tryd.prog Tryd.f5 false true false false) := by
  refine returnsInHanded_of_row (C := Tryd.checked) (s := OpenSpec.ofChange Rows.declEdgesSpec) own started (by kernel_rfl) Tryd.func5
    (witness_row_atRef (enc := enc) (C := Tryd.checked) false (laidWorld os) #[.int .u32 0, .int .u32 0, .int .u8 0] rfl (by kernel_rfl) (by kernel_rfl) (by kernel_rfl) (witness_row_law os enc)) ?_
  intro W base args ds gs before hval0 hW _ _ hwt hL hsh _
  have hval : ∀ (j : Nat) t v, Tryd.f5.params[j]? = some t → args[j]? = some v → Value.okWide Tryd.prog W .any base t v := hval0
  have hW' := hW
  obtain ⟨p, q, hA0, hV0, rfl, _, _⟩ := hW
  have hA : DataW.TrodAll enc Tryd.prog W 0 (fun _ => true) true Tryd.f5.params.toList args.toList ds p := hA0
  rw [Tryd.params5] at hA hval
  obtain ⟨v0, v1, v2, d0, d1, d2, p0, p1, p2, rfl, rfl, rfl, h0, h1, h2⟩ := trodAll_three hA
  obtain ⟨rfl, rfl⟩ := trodVars_none hV0
  have hwt2 : (DataW.weightsEach Tryd.prog ([54, 54, 5] : List TypeId) [d0, d1, d2]).all (· ≤ reachBytes) = true := hwt
  simp only [DataW.weightsEach, List.append_nil, List.all_append, Bool.and_eq_true, List.all_eq_true, decide_eq_true_eq] at hwt2
  obtain ⟨g0, g1, g2⟩ := hwt2
  obtain ⟨a0, rfl⟩ := okWide_int Tryd.underlying54 (hval 0 54 v0 rfl rfl)
  have k0 := h0
  obtain ⟨n0, hn0⟩ := h0
  have lt0 : ∀ x ∈ p0, x.block < W.heap.size := DataW.trod_lt n0 _ _ _ hn0
  obtain ⟨e0, o0, r0⟩ := arg_rep 8 hn0 (show tyOf Tryd.prog 8 54 = some (.int .u32) by kernel_rfl) g0
  obtain ⟨w0, rfl, q0⟩ := u32_is o0
  obtain ⟨a1, rfl⟩ := okWide_int Tryd.underlying54 (hval 1 54 v1 rfl rfl)
  have k1 := h1
  obtain ⟨n1, hn1⟩ := h1
  have lt1 : ∀ x ∈ p1, x.block < W.heap.size := DataW.trod_lt n1 _ _ _ hn1
  obtain ⟨e1, o1, r1⟩ := arg_rep 8 hn1 (show tyOf Tryd.prog 8 54 = some (.int .u32) by kernel_rfl) g1
  obtain ⟨w1, rfl, q1⟩ := u32_is o1
  obtain ⟨a2, rfl⟩ := okWide_int Tryd.underlying5 (hval 2 5 v2 rfl rfl)
  have k2 := h2
  obtain ⟨n2, hn2⟩ := h2
  have lt2 : ∀ x ∈ p2, x.block < W.heap.size := DataW.trod_lt n2 _ _ _ hn2
  obtain ⟨e2, o2, r2⟩ := arg_rep 8 hn2 (show tyOf Tryd.prog 8 5 = some (.int .u8) by kernel_rfl) g2
  obtain ⟨w2, rfl, q2⟩ := u8_is o2
  clear hA0 hV0 hval0
  obtain ⟨m, hg⟩ := glob_row hL hsh
  have hds : DsRep W (fun _ => False) [.c (.int .u32 (w0 : Nat)), .c (.int .u32 (w1 : Nat)), .c (.int .u8 (w2 : Nat))] [.int .u32 a0, .int .u32 a1, .int .u8 a2] :=
    DsRep.cons (rep_one r0) (DsRep.cons (rep_one r1) (DsRep.cons (rep_one r2) (⟨rfl, by simp⟩)))
  refine ((declEdges_ok m).run W (fun _ => False) _ _ _ hg (fun _ h => h.elim) hds (T301_eq q0 q1 q2)).mono ?_
  intro e W' hb
  obtain ⟨v, rfl, hk, hv⟩ := back_mono (fun v w h => h) e W' hb
  obtain rfl := back_bool hv
  have bel : Below W.heap.size W W' := ⟨hk.os, hk.tape, hk.output, hk.size, fun b hb => hk.block b hb (fun h => h)⟩
  have e1 : ((OpenSpec.ofChange Rows.declEdgesSpec).at F).fn H ([d0, d1, d2] ++ []) = { results := [.lit (.bool true)], args := [d0, d1, d2] } := rfl
  refine ⟨_, rfl, _, _, _, [], (p0 ++ (p1 ++ p2)), [], hW', ?_, ?_, ?_, kept_frame hk _, fun h => by cases h⟩
  · rw [e1]; exact trodAll_mk1 (shut_bool Tryd.underlying4 _)
  · rw [e1]; exact trodAll_mk3 (Below.trod laidOut (by kernel_rfl) (of_decide_eq_true (by kernel_rfl)) k0 bel lt0) (Below.trod laidOut (by kernel_rfl) (of_decide_eq_true (by kernel_rfl)) k1 bel lt1) (Below.trod laidOut (by kernel_rfl) (of_decide_eq_true (by kernel_rfl)) k2 bel lt2)
  · rw [e1]; rfl
theorem declEdges_row : Rows.DeclEdgesSaid :=
  OpenClaim.holds_of_cond 5 Tryd.f5 rfl rfl rfl rfl rfl rfl rfl ⟨rfl, rfl, rfl, rfl, rfl⟩ rfl rfl rfl rfl rfl (by kernel_rfl) Tryd.func5 (by kernel_rfl)
    (of_decide_eq_true (by kernel_rfl)) (by unfold Func.isWrapper; rw [if_neg (of_decide_eq_false (by kernel_rfl))]; exact ⟨rfl, rfl⟩)
    (fun os started H enc _ F0 => by rw [OpenClaim.pre_eq_preRow]; exact law_lifted os started H enc F0)
end Go.Proofs.YtnhalnblbfgbkaaDoor
