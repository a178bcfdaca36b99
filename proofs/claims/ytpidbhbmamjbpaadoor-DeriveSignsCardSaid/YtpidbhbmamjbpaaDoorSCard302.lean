/-
  DeriveSigns: of any two pairs of bytes the law's function comes to true and leaves its arguments as they were. Conditions: class.members, utf8.first and utf8.acceptRanges hold what the program's text lays (the card ties that); of internal/bytealg.MaxLen nothing is asked.
-/
import Derived.Test.YtpidbhbmamjbpaaDoorSRow
import Derived.Test.YtpidbhbmamjbpaaDoorSWG
import Derived.Test.YtpidbhbmamjbpaaDoorSReadB
import Derived.Test.YtpidbhbmamjbpaaDoorTie
import Derived.Test.YtpidbhbmamjbpaaDoorCards
import Derived.JoinedCond
import Derived.MakeChecks
import Derived.SevenTiedAt
namespace Go.Proofs.YtpidbhbmamjbpaaDoor
open Go Go.Am Go.ChangeShapes Go.WideShapes Go.ChangeAt Go.RowKit Go.Lib
theorem laidOut : laidOutB Tryd.prog = true := by kernel_rfl
theorem own : ownKnob Tryd.prog.godebug = none := by kernel_rfl
theorem laidRows_met (os : Os) (args : Array Value) : laidMet Tryd.prog Rows.deriveSignsRow.laid ((laidWorld os).forCall (fun _ _ => 0) ⟨#[], args, []⟩).memory :=
  (LaidIn.of_run (l := Rows.deriveSignsRow.laid) [0, 3, 2] 8 (by kernel_rfl) (by kernel_rfl) (by kernel_rfl) (by kernel_rfl)).met
theorem glob_row {W : World} (hL : laidMetH Tryd.prog Rows.deriveSignsRow.laid W) (hs : W.ShapedOpen Tryd.prog) : ∃ m, GlobOk (glb m) W (fun _ => False) := by
  rw [MakeChecks.laidMetH_plain _ _ _ (by kernel_rfl)] at hL
  obtain ⟨ps, ⟨g, t, cs, fuel, p, q, h1, h2, h3, h4, _, _⟩, _⟩ := hL
  obtain ⟨m, hm⟩ := maxLen_of hs
  refine ⟨m, fun g' ds hg => ?_⟩
  unfold glb at hg
  split at hg
  · rename_i e
    subst e
    cases hg
    exact glob_of_laid (k := 8) (t := 123) gMembers (by kernel_rfl) (by kernel_rfl) ⟨g, t, cs, fuel, p, h1, h2, h3, h4⟩
  · split at hg
    · rename_i e
      subst e
      cases hg
      exact .lptr _ 0 1 0 (fun _ => .int .i64 m) (fun _ h => h) (fun i hi => by
        have : i = 0 := by simpa using hi
        subst this
        exact hm) (fun i d hd => by
        cases i with
        | zero => cases hd; exact .int _ _
        | succ i => simp at hd)
    · cases hg
theorem witness_row_law (os : Os) {H : Type} (enc : TypeId × Value → H) :
    (OpenSpec.ofChange Rows.deriveSignsSpec).preRow enc Tryd.prog Tryd.f3 Rows.deriveSignsRow.domain false Rows.deriveSignsRow.laid ((laidWorld os).forCall (fun _ _ => 0) ⟨#[], #[.agg #[.int .u8 0, .int .u8 0], .agg #[.int .u8 0, .int .u8 0]], []⟩).memory #[.agg #[.int .u8 0, .int .u8 0], .agg #[.int .u8 0, .int .u8 0]] := by
  have hw : (DataW.whole enc Tryd.prog ((laidWorld os).forCall (fun _ _ => 0) ⟨#[], #[.agg #[.int .u8 0, .int .u8 0], .agg #[.int .u8 0, .int .u8 0]], []⟩).memory Tryd.f3.params.toList (OpenSpec.ofChange Rows.deriveSignsSpec).vars false (#[.agg #[.int .u8 0, .int .u8 0], .agg #[.int .u8 0, .int .u8 0]] : Array Value).toList 8).map (fun x => (x.1, x.2.1)) =
      some ([.agg [.lit (.int .u8 0), .lit (.int .u8 0)], .agg [.lit (.int .u8 0), .lit (.int .u8 0)]], []) := by kernel_rfl
  obtain ⟨⟨x1, x2, x3⟩, hx, hx1⟩ := Option.map_eq_some_iff.1 hw
  simp only [Prod.mk.injEq] at hx1
  obtain ⟨rfl, rfl⟩ := hx1
  exact OpenSpec.preRow_of_cond 8 hx (by kernel_rfl) (fun k hk => by cases hk) (by kernel_rfl) (laidRows_met os _)
set_option maxRecDepth 100000 in
set_option maxHeartbeats 2000000 in
theorem law_lifted (os : Os) (started : os.Started) (H : Type) (enc : TypeId × Value → H) (F : Stop.Interp) :
    ReturnsInHanded {} Tryd.checked os 3 .any ((OpenSpec.ofChange Rows.deriveSignsSpec).preRow enc Tryd.prog Tryd.f3 Rows.deriveSignsRow.domain false Rows.deriveSignsRow.laid) (((OpenSpec.ofChange Rows.deriveSignsSpec).at F).post enc Tryd.prog Tryd.f3 false true false false) := by
  refine returnsInHanded_of_row (C := Tryd.checked) (s := OpenSpec.ofChange Rows.deriveSignsSpec) own started (by kernel_rfl) Tryd.func3
    (witness_row_atRef (enc := enc) (C := Tryd.checked) false (laidWorld os) #[.agg #[.int .u8 0, .int .u8 0], .agg #[.int .u8 0, .int .u8 0]] rfl (by kernel_rfl) (by kernel_rfl) (by kernel_rfl) (witness_row_law os enc)) ?_
  intro W base args ds gs before hval0 hW _ _ hwt hL hsh _
  have hval : ∀ (j : Nat) t v, Tryd.f3.params[j]? = some t → args[j]? = some v → Value.okWide Tryd.prog W .any base t v := hval0
  have hW' := hW
  obtain ⟨p, q, hA0, hV0, rfl, _, _⟩ := hW
  have hA : DataW.TrodAll enc Tryd.prog W 0 (fun _ => true) true Tryd.f3.params.toList args.toList ds p := hA0
  rw [Tryd.params3] at hA hval
  obtain ⟨v0, v1, d0, d1, p0, p1, rfl, rfl, rfl, h0, h1⟩ := trodAll_two hA
  obtain ⟨rfl, rfl⟩ := trodVars_none hV0
  have hwt2 : (DataW.weightsEach Tryd.prog ([22, 22] : List TypeId) [d0, d1]).all (· ≤ reachBytes) = true := hwt
  simp only [DataW.weightsEach, List.append_nil, List.all_append, Bool.and_eq_true, List.all_eq_true, decide_eq_true_eq] at hwt2
  obtain ⟨g0, g1⟩ := hwt2
  obtain ⟨c0, rfl⟩ : ∃ c, v0 = .agg c := by
    have hv := hval 0 22 v0 rfl rfl
    simp only [Value.okWide, Tryd.underlying22] at hv
    obtain ⟨c, hc, _⟩ := hv
    exact ⟨c, hc⟩
  have k0 := h0
  obtain ⟨n0, hn0⟩ := h0
  have lt0 : ∀ x ∈ p0, x.block < W.heap.size := DataW.trod_lt n0 _ _ _ hn0
  obtain ⟨e0, o0, r0⟩ := arg_rep 8 hn0 (show tyOf Tryd.prog 8 22 = some (.tup [.int .u8, .int .u8]) by kernel_rfl) g0
  obtain ⟨w0, w0', rfl, q0⟩ := u8x2_is o0
  obtain ⟨c1, rfl⟩ : ∃ c, v1 = .agg c := by
    have hv := hval 1 22 v1 rfl rfl
    simp only [Value.okWide, Tryd.underlying22] at hv
    obtain ⟨c, hc, _⟩ := hv
    exact ⟨c, hc⟩
  have k1 := h1
  obtain ⟨n1, hn1⟩ := h1
  have lt1 : ∀ x ∈ p1, x.block < W.heap.size := DataW.trod_lt n1 _ _ _ hn1
  obtain ⟨e1, o1, r1⟩ := arg_rep 8 hn1 (show tyOf Tryd.prog 8 22 = some (.tup [.int .u8, .int .u8]) by kernel_rfl) g1
  obtain ⟨w1, w1', rfl, q1⟩ := u8x2_is o1
  clear hA0 hV0 hval0
  obtain ⟨m, hg⟩ := glob_row hL hsh
  have hds : DsRep W (fun _ => False) [.agg [.int .u8 (w0 : Nat), .int .u8 (w0' : Nat)], .agg [.int .u8 (w1 : Nat), .int .u8 (w1' : Nat)]] [.agg c0, .agg c1] :=
    DsRep.cons (rep_agg r0) (DsRep.cons (rep_agg r1) (⟨rfl, by simp⟩))
  refine ((deriveSigns_ok m).run W (fun _ => False) _ _ _ hg (fun _ h => h.elim) hds (T302_eq q0.1 q0.2 q1.1 q1.2)).mono ?_
  intro e W' hb
  obtain ⟨v, rfl, hk, hv⟩ := back_mono (fun v w h => h) e W' hb
  obtain rfl := back_bool hv
  have bel : Below W.heap.size W W' := ⟨hk.os, hk.tape, hk.output, hk.size, fun b hb => hk.block b hb (fun h => h)⟩
  have e1 : ((OpenSpec.ofChange Rows.deriveSignsSpec).at F).fn H ([d0, d1] ++ []) = { results := [.lit (.bool true)], args := [d0, d1] } := rfl
  refine ⟨_, rfl, _, _, _, [], (p0 ++ p1), [], hW', ?_, ?_, ?_, kept_frame hk _, fun h => by cases h⟩
  · rw [e1]; exact trodAll_mk1 (shut_bool Tryd.underlying4 _)
  · rw [e1]; exact trodAll_mk2 (Below.trod laidOut (by kernel_rfl) (of_decide_eq_true (by kernel_rfl)) k0 bel lt0) (Below.trod laidOut (by kernel_rfl) (of_decide_eq_true (by kernel_rfl)) k1 bel lt1)
  · rw [e1]; rfl
theorem deriveSigns_row : Rows.DeriveSignsSaid :=
  OpenClaim.holds_of_cond 3 Tryd.f3 rfl rfl rfl rfl rfl rfl rfl ⟨rfl, rfl, rfl, rfl, rfl⟩ rfl rfl rfl rfl rfl (by kernel_rfl) Tryd.func3 (by kernel_rfl)
    (of_decide_eq_true (by kernel_rfl)) (by unfold Func.isWrapper; rw [if_neg (of_decide_eq_false (by kernel_rfl))]; exact ⟨rfl, rfl⟩)
    (fun os started H enc _ F0 => by rw [OpenClaim.pre_eq_preRow]; exact law_lifted os started H enc F0)
end Go.Proofs.YtpidbhbmamjbpaaDoor
namespace Go.Proofs.YtpidbhbmamjbpaaDoor
open Go
theorem deriveSigns_card : Rows.DeriveSignsCardSaid :=
  Claim7.holds_tied_plain_at .later [] [.data, .data, .pinned] true (true, "212fba7cd7f83b53a9f867a1cb5c5bcf7e81c7cb6f61f907287e02ca1b9409b2") false
    deriveSigns_row (fun _ h => by cases h) (by kernel_rfl) (fun _ h => by cases h) deriveSigns_row_tie rfl ⟨rfl, rfl⟩ (by kernel_rfl) rfl
    (fun f fn hf hfn => by
      obtain rfl : f = 3 := Option.some.inj ((show Tryd.prog.funcNamed "tmesis/tmesislaw19.DeriveSigns" = some 3 by kernel_rfl).symm.trans hf) |>.symm
      obtain rfl : fn = Tryd.f3 := (Option.some.inj (Tryd.func3.symm.trans hfn)).symm
      exact ⟨by kernel_rfl, fun j t ht => by
        rw [Tryd.params3] at ht
        rcases j with _ | _ | j
        · have e : t = 22 := by simpa using ht.symm
          subst e
          exact (show Tryd.prog.wantsStandIn 22 = false by kernel_rfl)
        · have e : t = 22 := by simpa using ht.symm
          subst e
          exact (show Tryd.prog.wantsStandIn 22 = false by kernel_rfl)
        · simp at ht⟩)
    (by kernel_rfl)
#print axioms deriveSigns_card
end Go.Proofs.YtpidbhbmamjbpaaDoor
