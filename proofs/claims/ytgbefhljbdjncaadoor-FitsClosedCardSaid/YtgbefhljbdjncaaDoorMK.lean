/-
  FitsClosed: of any changes of an env, an operator and a group the law's function comes to true and leaves its arguments as they were. Conditions: class.members, utf8.first and utf8.acceptRanges hold what the program's text lays (the card ties that); of internal/bytealg.MaxLen nothing is asked.
-/
import Derived.Test.YtgbefhljbdjncaaDoorMN
import Derived.Test.YtgbefhljbdjncaaDoorMZ
import Derived.Test.YtgbefhljbdjncaaDoorTie
import Derived.Test.YtgbefhljbdjncaaDoorCards
import Derived.JoinedCond
import Derived.MakeChecks
import Derived.SevenTiedAt
namespace Go.Proofs.YtgbefhljbdjncaaDoor
open Go Go.Am Go.ChangeShapes Go.WideShapes Go.ChangeAt Go.RowKit Go.Lib
theorem laidOut : laidOutB Tryd.prog = true := by kernel_rfl
theorem own : ownKnob Tryd.prog.godebug = none := by kernel_rfl
theorem laidRows_met (os : Os) (args : Array Value) : laidMet Tryd.prog Rows.fitsClosedRow.laid ((laidWorld os).forCall (fun _ _ => 0) ⟨#[], args, []⟩).memory :=
  (LaidIn.of_run (l := Rows.fitsClosedRow.laid) [1, 4, 3] 8 (by kernel_rfl) (by kernel_rfl) (by kernel_rfl) (by kernel_rfl)).met
theorem glob_row {W : World} (hL : laidMetH Tryd.prog Rows.fitsClosedRow.laid W) (hs : W.ShapedOpen Tryd.prog) : ∃ m, GlobOk (glb m) W (fun _ => False) := by
  rw [MakeChecks.laidMetH_plain _ _ _ (by kernel_rfl)] at hL
  obtain ⟨ps, ⟨g, t, cs, fuel, p, q, h1, h2, h3, h4, _, _⟩, _⟩ := hL
  obtain ⟨m, hm⟩ := maxLen_of hs
  refine ⟨m, fun g' ds hg => ?_⟩
  unfold glb at hg
  split at hg
  · rename_i e
    subst e
    cases hg
    exact glob_of_laid (k := 8) (t := 140) gMembers (by kernel_rfl) (by kernel_rfl) ⟨g, t, cs, fuel, p, h1, h2, h3, h4⟩
  · split at hg
    · rename_i e
      subst e
      cases hg
      exact .lptr _ 0 2 0 (fun _ => .int .i64 m) (fun _ h => h) (fun i hi => by
        have : i = 0 := by simpa using hi
        subst this
        exact hm) (fun i d hd => by
        cases i with
        | zero => cases hd; exact .int _ _
        | succ i => simp at hd)
    · cases hg
theorem witness_row_law (os : Os) {H : Type} (enc : TypeId × Value → H) :
    (OpenSpec.ofChange Rows.fitsClosedSpec).preRow enc Tryd.prog Tryd.f7 Rows.fitsClosedRow.domain false Rows.fitsClosedRow.laid ((laidWorld os).forCall (fun _ _ => 0) ⟨#[], #[.slice none 0 0, .agg #[.string ⟨#[]⟩, .int .i64 0, .int .i64 0], .int .u8 0], []⟩).memory #[.slice none 0 0, .agg #[.string ⟨#[]⟩, .int .i64 0, .int .i64 0], .int .u8 0] := by
  have hw : (DataW.whole enc Tryd.prog ((laidWorld os).forCall (fun _ _ => 0) ⟨#[], #[.slice none 0 0, .agg #[.string ⟨#[]⟩, .int .i64 0, .int .i64 0], .int .u8 0], []⟩).memory Tryd.f7.params.toList (OpenSpec.ofChange Rows.fitsClosedSpec).vars false (#[.slice none 0 0, .agg #[.string ⟨#[]⟩, .int .i64 0, .int .i64 0], .int .u8 0] : Array Value).toList 8).map (fun x => (x.1, x.2.1)) =
      some ([.nil, .agg [.lit (.string []), .lit (.int .i64 0), .lit (.int .i64 0)], .lit (.int .u8 0)], []) := by kernel_rfl
  obtain ⟨⟨x1, x2, x3⟩, hx, hx1⟩ := Option.map_eq_some_iff.1 hw
  simp only [Prod.mk.injEq] at hx1
  obtain ⟨rfl, rfl⟩ := hx1
  exact OpenSpec.preRow_of_cond 8 hx (by kernel_rfl) (fun k hk => by cases hk) (by kernel_rfl) (laidRows_met os _)
set_option maxRecDepth 100000 in
set_option maxHeartbeats 2000000 in
theorem law_lifted (os : Os) (started : os.Started) (H : Type) (enc : TypeId × Value → H) (F : Stop.Interp) :
    ReturnsInHanded {} Tryd.checked os 7 .any ((OpenSpec.ofChange Rows.fitsClosedSpec).preRow enc Tryd.prog Tryd.f7 Rows.fitsClosedRow.domain false Rows.fitsClosedRow.laid) (((OpenSpec.ofChange Rows.fitsClosedSpec).at F).post enc Tryd.prog Tryd.f7 false true false false) := by
  refine returnsInHanded_of_row (C := Tryd.checked) (s := OpenSpec.ofChange Rows.fitsClosedSpec) own started (by kernel_rfl) Tryd.func7
    (witness_row_atRef (enc := enc) (C := Tryd.checked) false (laidWorld os) #[.slice none 0 0, .agg #[.string ⟨#[]⟩, .int .i64 0, .int .i64 0], .int .u8 0] rfl (by kernel_rfl) (by kernel_rfl) (by kernel_rfl) (witness_row_law os enc)) ?_
  intro W base args ds gs before hval0 hW _ _ hwt hL hsh _
  have hval : ∀ (j : Nat) t v, Tryd.f7.params[j]? = some t → args[j]? = some v → Value.okWide Tryd.prog W .any base t v := hval0
  have hW' := hW
  obtain ⟨p, q, hA0, hV0, rfl, _, _⟩ := hW
  have hA : DataW.TrodAll enc Tryd.prog W 0 (fun _ => true) true Tryd.f7.params.toList args.toList ds p := hA0
  rw [Tryd.params7] at hA hval
  obtain ⟨v0, v1, v2, d0, d1, d2, p0, p1, p2, rfl, rfl, rfl, h0, h1, h2⟩ := trodAll_three hA
  obtain ⟨rfl, rfl⟩ := trodVars_none hV0
  have hwt2 : (DataW.weightsEach Tryd.prog ([31, 33, 5] : List TypeId) [d0, d1, d2]).all (· ≤ reachBytes) = true := hwt
  simp only [DataW.weightsEach, List.append_nil, List.all_append, Bool.and_eq_true, List.all_eq_true, decide_eq_true_eq] at hwt2
  obtain ⟨g0, g1, g2⟩ := hwt2
  obtain ⟨x0, y0, z0, rfl⟩ := okWide_slice Tryd.underlying31 (hval 0 31 v0 rfl rfl)
  have k0 := h0
  obtain ⟨n0, hn0⟩ := h0
  have lt0 : ∀ x ∈ p0, x.block < W.heap.size := DataW.trod_lt n0 _ _ _ hn0
  obtain ⟨e0, o0, r0⟩ := arg_rep 8 hn0 (show tyOf Tryd.prog 8 31 = some (.slice 6 tChg) by kernel_rfl) g0
  obtain ⟨l0, rfl, q0⟩ := chgs_of o0
  obtain ⟨c1, rfl, _⟩ := okWide_struct Tryd.underlying33 (hval 1 33 v1 rfl rfl)
  have k1 := h1
  obtain ⟨n1, hn1⟩ := h1
  have lt1 : ∀ x ∈ p1, x.block < W.heap.size := DataW.trod_lt n1 _ _ _ hn1
  obtain ⟨e1, o1, r1⟩ := arg_rep 8 hn1 (show tyOf Tryd.prog 8 33 = some (tOp) by kernel_rfl) g1
  obtain ⟨w1, rfl, q1⟩ := op_of o1
  obtain ⟨a2, rfl⟩ := okWide_int Tryd.underlying5 (hval 2 5 v2 rfl rfl)
  have k2 := h2
  obtain ⟨n2, hn2⟩ := h2
  have lt2 : ∀ x ∈ p2, x.block < W.heap.size := DataW.trod_lt n2 _ _ _ hn2
  obtain ⟨e2, o2, r2⟩ := arg_rep 8 hn2 (show tyOf Tryd.prog 8 5 = some (.int .u8) by kernel_rfl) g2
  obtain ⟨w2, rfl, q2⟩ := byte_of o2
  clear hA0 hV0 hval0
  obtain ⟨m, hg⟩ := glob_row hL hsh
  have hds : DsRep W (fun _ => False) [.c (.list 6 (l0.map chgD)), .agg (opD w1), .c (.int .u8 (w2 : Nat))] [.slice x0 y0 z0, .agg c1, .int .u8 a2] :=
    DsRep.cons (rep_one r0) (DsRep.cons (rep_agg r1) (DsRep.cons (rep_one r2) (⟨rfl, by simp⟩)))
  refine ((fitsClosed_ok m).run W (fun _ => False) _ _ _ hg (fun _ h => h.elim) hds (T7_eq q0 q1 q2)).mono ?_
  intro e W' hb
  obtain ⟨v, rfl, hk, hv⟩ := back_mono (fun v w h => h) e W' hb
  obtain rfl := back_bool hv
  have bel : Below W.heap.size W W' := ⟨hk.os, hk.tape, hk.output, hk.size, fun b hb => hk.block b hb (fun h => h)⟩
  have e1 : ((OpenSpec.ofChange Rows.fitsClosedSpec).at F).fn H ([d0, d1, d2] ++ []) = { results := [.lit (.bool true)], args := [d0, d1, d2] } := rfl
  refine ⟨_, rfl, _, _, _, [], (p0 ++ (p1 ++ p2)), [], hW', ?_, ?_, ?_, kept_frame hk _, fun h => by cases h⟩
  · rw [e1]; exact trodAll_mk1 (shut_bool Tryd.underlying4 _)
  · rw [e1]; exact trodAll_mk3 (Below.trod laidOut (by kernel_rfl) (of_decide_eq_true (by kernel_rfl)) k0 bel lt0) (Below.trod laidOut (by kernel_rfl) (of_decide_eq_true (by kernel_rfl)) k1 bel lt1) (Below.trod laidOut (by kernel_rfl) (of_decide_eq_true (by kernel_rfl)) k2 bel lt2)
  · rw [e1]; rfl
theorem fitsClosed_row : Rows.FitsClosedSaid :=
  OpenClaim.holds_of_cond 7 Tryd.f7 rfl rfl rfl rfl rfl rfl rfl ⟨rfl, rfl, rfl, rfl, rfl⟩ rfl rfl rfl rfl rfl (by kernel_rfl) Tryd.func7 (by kernel_rfl)
    (of_decide_eq_true (by kernel_rfl)) (by unfold Func.isWrapper; rw [if_neg (of_decide_eq_false (by kernel_rfl))]; exact ⟨rfl, rfl⟩)
    (fun os started H enc _ F0 => by rw [OpenClaim.pre_eq_preRow]; exact law_lifted os started H enc F0)
end Go.Proofs.YtgbefhljbdjncaaDoor
namespace Go.Proofs.YtgbefhljbdjncaaDoor
open Go
theorem fitsClosed_card : Rows.FitsClosedCardSaid :=
  Claim7.holds_tied_plain_at .later [] [.data, .data, .pinned] true (true, "6456cbc1fc1d163e785213f2c915fd981d564623b269f1048007a1a865430f4a") false
    fitsClosed_row (fun _ h => by cases h) (by kernel_rfl) (fun _ h => by cases h) fitsClosed_row_tie rfl ⟨rfl, rfl⟩ (by kernel_rfl) rfl
    (fun f fn hf hfn => by
      obtain rfl : f = 7 := Option.some.inj ((show Tryd.prog.funcNamed "tmesis/tmesislaw17.FitsClosed" = some 7 by kernel_rfl).symm.trans hf) |>.symm
      obtain rfl : fn = Tryd.f7 := (Option.some.inj (Tryd.func7.symm.trans hfn)).symm
      exact ⟨by kernel_rfl, fun j t ht => by
        rw [Tryd.params7] at ht
        rcases j with _ | _ | _ | j
        · have e : t = 31 := by simpa using ht.symm
          subst e
          exact (show Tryd.prog.wantsStandIn 31 = false by kernel_rfl)
        · have e : t = 33 := by simpa using ht.symm
          subst e
          exact (show Tryd.prog.wantsStandIn 33 = false by kernel_rfl)
        · have e : t = 5 := by simpa using ht.symm
          subst e
          exact (show Tryd.prog.wantsStandIn 5 = false by kernel_rfl)
        · simp at ht⟩)
    (by kernel_rfl)
end Go.Proofs.YtgbefhljbdjncaaDoor
