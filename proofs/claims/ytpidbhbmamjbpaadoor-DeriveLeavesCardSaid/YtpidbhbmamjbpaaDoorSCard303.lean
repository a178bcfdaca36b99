/-
  DeriveLeaves: of any token the law's function comes to true and leaves its argument as it was. Conditions: class.members, utf8.first and utf8.acceptRanges hold what the program's text lays (the card ties that); of internal/bytealg.MaxLen nothing is asked.
-/
import Derived.Test.YtpidbhbmamjbpaaDoorSReadB
import Derived.Test.YtpidbhbmamjbpaaDoorSMV
import Derived.Test.YtpidbhbmamjbpaaDoorSQA
import Derived.Test.YtpidbhbmamjbpaaDoorSRow
import Derived.Test.YtpidbhbmamjbpaaDoorSWJ
import Derived.Test.YtpidbhbmamjbpaaDoorTie
import Derived.Test.YtpidbhbmamjbpaaDoorCards
import Derived.JoinedCond
import Derived.MakeChecks
import Derived.SevenTiedAt
namespace Go.Am
open Go
def tTk : Ty := .tup [.int .i64, .int .i64, .int .i64, .str, .int .i64]
theorem tk_of {ds : List D} (h : tTk.ok ds) : ∃ t : Tk5, ds = tkD t ∧ t.s.length ≤ 140737488351232 := by
  simp only [tTk, Ty.ok, Ty.oks] at h
  obtain ⟨_, _, rfl, ⟨k, rfl, _⟩, _, _, rfl, ⟨a, rfl, _⟩, _, _, rfl, ⟨b, rfl, _⟩, _, _, rfl, ⟨s, rfl, hs⟩, _, _, rfl, ⟨e, rfl, _⟩, rfl⟩ := h
  exact ⟨⟨k, a, b, s, e⟩, rfl, hs⟩
end Go.Am
namespace Go.Proofs.YtpidbhbmamjbpaaDoor
open Go Go.Am Go.ChangeShapes Go.WideShapes Go.ChangeAt Go.RowKit Go.Lib
theorem laidOut : laidOutB Tryd.prog = true := by kernel_rfl
theorem own : ownKnob Tryd.prog.godebug = none := by kernel_rfl
theorem laidRows_met (os : Os) (args : Array Value) : laidMet Tryd.prog Rows.deriveLeavesRow.laid ((laidWorld os).forCall (fun _ _ => 0) ⟨#[], args, []⟩).memory :=
  (LaidIn.of_run (l := Rows.deriveLeavesRow.laid) [0, 3, 2] 8 (by kernel_rfl) (by kernel_rfl) (by kernel_rfl) (by kernel_rfl)).met
theorem glob_row {W : World} (hL : laidMetH Tryd.prog Rows.deriveLeavesRow.laid W) (hs : W.ShapedOpen Tryd.prog) : ∃ m, GlobOk (glb m) W (fun _ => False) := by
  rw [MakeChecks.laidMetH_plain _ _ _ (by kernel_rfl)] at hL
  obtain ⟨ps, ⟨g, t, cs, fuel, p, q, h1, h2, h3, h4, _, _⟩, _⟩ := hL
  obtain ⟨m, hm⟩ := maxLen_of hs
  refine ⟨m, fun g' ds hg => ?_⟩
  unfold glb at hg
  split at hg
  · rename_i e
    subst e
    cases hg
    exact glob_of_laid (k := 8) (t := 123) gMembers (by kernel_rfl) (by kernel_rfl) ⟨g, t, cs, fuel, p, h1, h2, h3, h4⟩
  · split at hg
    · rename_i e
      subst e
      cases hg
      exact .lptr _ 0 1 0 (fun _ => .int .i64 m) (fun _ h => h) (fun i hi => by
        have : i = 0 := by simpa using hi
        subst this
        exact hm) (fun i d hd => by
        cases i with
        | zero => cases hd; exact .int _ _
        | succ i => simp at hd)
    · cases hg
theorem witness_row_law (os : Os) {H : Type} (enc : TypeId × Value → H) :
    (OpenSpec.ofChange Rows.deriveLeavesSpec).preRow enc Tryd.prog Tryd.f4 Rows.deriveLeavesRow.domain false Rows.deriveLeavesRow.laid ((laidWorld os).forCall (fun _ _ => 0) ⟨#[], #[.agg #[.int .i64 0, .int .i64 0, .int .i64 0, .string ⟨#[]⟩, .int .i64 0]], []⟩).memory #[.agg #[.int .i64 0, .int .i64 0, .int .i64 0, .string ⟨#[]⟩, .int .i64 0]] := by
  have hw : (DataW.whole enc Tryd.prog ((laidWorld os).forCall (fun _ _ => 0) ⟨#[], #[.agg #[.int .i64 0, .int .i64 0, .int .i64 0, .string ⟨#[]⟩, .int .i64 0]], []⟩).memory Tryd.f4.params.toList (OpenSpec.ofChange Rows.deriveLeavesSpec).vars false (#[.agg #[.int .i64 0, .int .i64 0, .int .i64 0, .string ⟨#[]⟩, .int .i64 0]] : Array Value).toList 8).map (fun x => (x.1, x.2.1)) =
      some ([.agg [.lit (.int .i64 0), .lit (.int .i64 0), .lit (.int .i64 0), .lit (.string []), .lit (.int .i64 0)]], []) := by kernel_rfl
  obtain ⟨⟨x1, x2, x3⟩, hx, hx1⟩ := Option.map_eq_some_iff.1 hw
  simp only [Prod.mk.injEq] at hx1
  obtain ⟨rfl, rfl⟩ := hx1
  exact OpenSpec.preRow_of_cond 8 hx (by kernel_rfl) (fun k hk => by cases hk) (by kernel_rfl) (laidRows_met os _)
set_option maxRecDepth 100000 in
set_option maxHeartbeats 2000000 in
theorem law_lifted (os : Os) (started : os.Started) (H : Type) (enc : TypeId × Value → H) (F : Stop.Interp) :
    ReturnsInHanded {} Tryd.checked os 4 .any ((OpenSpec.ofChange Rows.deriveLeavesSpec).preRow enc Tryd.prog Tryd.f4 Rows.deriveLeavesRow.domain false Rows.deriveLeavesRow.laid) (((OpenSpec.ofChange Rows.deriveLeavesSpec).at F).post enc Tryd.prog Tryd.f4 false true false false) := by
  refine returnsInHanded_of_row (C := Tryd.checked) (s := OpenSpec.ofChange Rows.deriveLeavesSpec) own started (by kernel_rfl) Tryd.func4
    (witness_row_atRef (enc := enc) (C := Tryd.checked) false (laidWorld os) #[.agg #[.int .i64 0, .int .i64 0, .int .i64 0, .string ⟨#[]⟩, .int .i64 0]] rfl (by kernel_rfl) (by kernel_rfl) (by kernel_rfl) (witness_row_law os enc)) ?_
  intro W base args ds gs before hval0 hW _ _ hwt hL hsh _
  have hval : ∀ (j : Nat) t v, Tryd.f4.params[j]? = some t → args[j]? = some v → Value.okWide Tryd.prog W .any base t v := hval0
  have hW' := hW
  obtain ⟨p, q, hA0, hV0, rfl, _, _⟩ := hW
  have hA : DataW.TrodAll enc Tryd.prog W 0 (fun _ => true) true Tryd.f4.params.toList args.toList ds p := hA0
  rw [Tryd.params4] at hA hval
  obtain ⟨v0, d0, rfl, rfl, h0⟩ := trodAll_one hA
  obtain ⟨rfl, rfl⟩ := trodVars_none hV0
  have hwt2 : (DataW.weightsEach Tryd.prog ([43] : List TypeId) [d0]).all (· ≤ reachBytes) = true := hwt
  simp only [DataW.weightsEach, List.append_nil, List.all_eq_true, decide_eq_true_eq] at hwt2
  have g0 := hwt2
  obtain ⟨c0, rfl, _⟩ := okWide_struct Tryd.underlying43 (hval 0 43 v0 rfl rfl)
  have k0 := h0
  obtain ⟨n0, hn0⟩ := h0
  have lt0 : ∀ x ∈ p, x.block < W.heap.size := DataW.trod_lt n0 _ _ _ hn0
  obtain ⟨e0, o0, r0⟩ := arg_rep 8 hn0 (show tyOf Tryd.prog 8 43 = some (tTk) by kernel_rfl) g0
  obtain ⟨x0', rfl, q0⟩ := tk_of o0
  clear hA0 hV0 hval0
  obtain ⟨m, hg⟩ := glob_row hL hsh
  have hds : DsRep W (fun _ => False) [.agg (tkD x0')] [.agg c0] :=
    DsRep.cons (rep_agg r0) (⟨rfl, by simp⟩)
  refine ((deriveLeaves_ok m).run W (fun _ => False) _ _ _ hg (fun _ h => h.elim) hds (T303_eq (Nat.le_trans q0 (by decide)))).mono ?_
  intro e W' hb
  obtain ⟨v, rfl, hk, hv⟩ := back_mono (fun v w h => h) e W' hb
  obtain rfl := back_bool hv
  have bel : Below W.heap.size W W' := ⟨hk.os, hk.tape, hk.output, hk.size, fun b hb => hk.block b hb (fun h => h)⟩
  have e1 : ((OpenSpec.ofChange Rows.deriveLeavesSpec).at F).fn H ([d0] ++ []) = { results := [.lit (.bool true)], args := [d0] } := rfl
  refine ⟨_, rfl, _, _, _, [], p, [], hW', ?_, ?_, ?_, kept_frame hk _, fun h => by cases h⟩
  · rw [e1]; exact trodAll_mk1 (shut_bool Tryd.underlying4 _)
  · rw [e1]; exact trodAll_mk1 (Below.trod laidOut (by kernel_rfl) (of_decide_eq_true (by kernel_rfl)) k0 bel lt0)
  · rw [e1]; rfl
theorem deriveLeaves_row : Rows.DeriveLeavesSaid :=
  OpenClaim.holds_of_cond 4 Tryd.f4 rfl rfl rfl rfl rfl rfl rfl ⟨rfl, rfl, rfl, rfl, rfl⟩ rfl rfl rfl rfl rfl (by kernel_rfl) Tryd.func4 (by kernel_rfl)
    (of_decide_eq_true (by kernel_rfl)) (by unfold Func.isWrapper; rw [if_neg (of_decide_eq_false (by kernel_rfl))]; exact ⟨rfl, rfl⟩)
    (fun os started H enc _ F0 => by rw [OpenClaim.pre_eq_preRow]; exact law_lifted os started H enc F0)
end Go.Proofs.YtpidbhbmamjbpaaDoor
namespace Go.Proofs.YtpidbhbmamjbpaaDoor
open Go
theorem deriveLeaves_card : Rows.DeriveLeavesCardSaid :=
  Claim7.holds_tied_plain_at .later [] [.data, .data, .pinned] true (true, "212fba7cd7f83b53a9f867a1cb5c5bcf7e81c7cb6f61f907287e02ca1b9409b2") false
    deriveLeaves_row (fun _ h => by cases h) (by kernel_rfl) (fun _ h => by cases h) deriveLeaves_row_tie rfl ⟨rfl, rfl⟩ (by kernel_rfl) rfl
    (fun f fn hf hfn => by
      obtain rfl : f = 4 := Option.some.inj ((show Tryd.prog.funcNamed "tmesis/tmesislaw19.DeriveLeaves" = some 4 by kernel_rfl).symm.trans hf) |>.symm
      obtain rfl : fn = Tryd.f4 := (Option.some.inj (Tryd.func4.symm.trans hfn)).symm
      exact ⟨by kernel_rfl, fun j t ht => by
        rw [Tryd.params4] at ht
        rcases j with _ | j
        · have e : t = 43 := by simpa using ht.symm
          subst e
          exact (show Tryd.prog.wantsStandIn 43 = false by kernel_rfl)
        · simp at ht⟩)
    (by kernel_rfl)
#print axioms deriveLeaves_card
end Go.Proofs.YtpidbhbmamjbpaaDoor
