/-
  THE ROW OF DeclWords: of any bytes and any form the law's function comes to true and leaves its arguments as they were. Conditions: class.members, oper.simples, utf8.first and utf8.acceptRanges hold what the program's text lays (the card ties that); of internal/bytealg.MaxLen nothing is asked.
-/
import Derived.Test.YtnhalnblbfgbkaaDoorARow
import Derived.Test.YtnhalnblbfgbkaaDoorADD
import Derived.Test.YtnhalnblbfgbkaaDoorAReadA
import Derived.Test.YtnhalnblbfgbkaaDoorTie
import Derived.Test.YtnhalnblbfgbkaaDoorCards
import Derived.JoinedCond
import Derived.MakeChecks
import Derived.SevenTiedAt
namespace Go.Proofs.YtnhalnblbfgbkaaDoor
open Go Go.Am Go.ChangeShapes Go.WideShapes Go.ChangeAt Go.RowKit Go.Lib
theorem laidOut : laidOutB Tryd.prog = true := by kernel_rfl
theorem own : ownKnob Tryd.prog.godebug = none := by kernel_rfl
theorem laidRows_met (os : Os) (args : Array Value) : laidMet Tryd.prog Rows.declWordsRow.laid ((laidWorld os).forCall (fun _ _ => 0) ⟨#[], args, []⟩).memory :=
  (LaidIn.of_run (l := Rows.declWordsRow.laid) [0, 4, 1, 3] 8 (by kernel_rfl) (by kernel_rfl) (by kernel_rfl) (by kernel_rfl)).met
theorem glob_row {W : World} (hL : laidMetH Tryd.prog Rows.declWordsRow.laid W) (hs : W.ShapedOpen Tryd.prog) : ∃ m, GlobOk (glbS m) W (fun _ => False) := by
  rw [MakeChecks.laidMetH_plain _ _ _ (by kernel_rfl)] at hL
  obtain ⟨ps, ⟨g, t, cs, fuel, p, q, h1, h2, h3, h4, ⟨_, _, _, _, _, _, _, _, _, _, ⟨g2, t2, cs2, fuel2, p2, q2, k1, k2, k3, k4, _, _⟩, _⟩, _⟩, _⟩ := hL
  obtain ⟨m, hm⟩ := maxLen_of hs
  refine ⟨m, fun g' ds hg => ?_⟩
  unfold glbS at hg
  split at hg
  · rename_i e
    subst e
    cases hg
    exact glob_of_laid (k := 8) (t := 162) gSimples (by kernel_rfl) (by kernel_rfl) ⟨g2, t2, cs2, fuel2, p2, k1, k2, k3, k4⟩
  · unfold glb at hg
    split at hg
    · rename_i e
      subst e
      cases hg
      exact glob_of_laid (k := 8) (t := 159) gMembers (by kernel_rfl) (by kernel_rfl) ⟨g, t, cs, fuel, p, h1, h2, h3, h4⟩
    · split at hg
      · rename_i e
        subst e
        cases hg
        exact .lptr _ 0 2 0 (fun _ => .int .i64 m) (fun _ h => h) (fun i hi => by
          have : i = 0 := by simpa using hi
          subst this
          exact hm) (fun i d hd => by
          cases i with
          | zero => cases hd; exact .int _ _
          | succ i => simp at hd)
      · cases hg
theorem witness_row_law (os : Os) {H : Type} (enc : TypeId × Value → H) :
    (OpenSpec.ofChange Rows.declWordsSpec).preRow enc Tryd.prog Tryd.f4 Rows.declWordsRow.domain false Rows.declWordsRow.laid ((laidWorld os).forCall (fun _ _ => 0) ⟨#[], #[.slice none 0 0, .int .u8 0], []⟩).memory #[.slice none 0 0, .int .u8 0] := by
  have hw : (DataW.whole enc Tryd.prog ((laidWorld os).forCall (fun _ _ => 0) ⟨#[], #[.slice none 0 0, .int .u8 0], []⟩).memory Tryd.f4.params.toList (OpenSpec.ofChange Rows.declWordsSpec).vars false (#[.slice none 0 0, .int .u8 0] : Array Value).toList 8).map (fun x => (x.1, x.2.1)) =
      some ([.nil, .lit (.int .u8 0)], []) := by kernel_rfl
  obtain ⟨⟨x1, x2, x3⟩, hx, hx1⟩ := Option.map_eq_some_iff.1 hw
  simp only [Prod.mk.injEq] at hx1
  obtain ⟨rfl, rfl⟩ := hx1
  exact OpenSpec.preRow_of_cond 8 hx (by kernel_rfl) (fun k hk => by cases hk) (by kernel_rfl) (laidRows_met os _)
set_option maxRecDepth 100000 in
set_option maxHeartbeats 2000000 in
theorem law_lifted (os : Os) (started : os.Started) (H : Type) (enc : TypeId × Value → H) (F : Stop.Interp) :
    ReturnsInHanded {} Tryd.checked os 4 .any ((OpenSpec.ofChange Rows.declWordsSpec).preRow enc Tryd.prog Tryd.f4 Rows.declWordsRow.domain false Rows.declWordsRow.laid) (((OpenSpec.ofChange Rows.declWordsSpec).at F).post enc Tryd.prog Tryd.f4 false true false false) := by
  refine returnsInHanded_of_row (C := Tryd.checked) (s := OpenSpec.ofChange Rows.declWordsSpec) own started (by kernel_rfl) Tryd.func4
    (witness_row_atRef (enc := enc) (C := Tryd.checked) false (laidWorld os) #[.slice none 0 0, .int .u8 0] rfl (by kernel_rfl) (by kernel_rfl) (by kernel_rfl) (witness_row_law os enc)) ?_
  intro W base args ds gs before hval0 hW _ _ hwt hL hsh _
  have hval : ∀ (j : Nat) t v, Tryd.f4.params[j]? = some t → args[j]? = some v → Value.okWide Tryd.prog W .any base t v := hval0
  have hW' := hW
  obtain ⟨p, q, hA0, hV0, rfl, _, _⟩ := hW
  have hA : DataW.TrodAll enc Tryd.prog W 0 (fun _ => true) true Tryd.f4.params.toList args.toList ds p := hA0
  rw [Tryd.params4] at hA hval
  obtain ⟨v0, v1, d0, d1, p0, p1, rfl, rfl, rfl, h0, h1⟩ := trodAll_two hA
  obtain ⟨rfl, rfl⟩ := trodVars_none hV0
  have hwt2 : (DataW.weightsEach Tryd.prog ([41, 5] : List TypeId) [d0, d1]).all (· ≤ reachBytes) = true := hwt
  simp only [DataW.weightsEach, List.append_nil, List.all_append, Bool.and_eq_true, List.all_eq_true, decide_eq_true_eq] at hwt2
  obtain ⟨g0, g1⟩ := hwt2
  obtain ⟨x0, y0, z0, rfl⟩ := okWide_slice Tryd.underlying41 (hval 0 41 v0 rfl rfl)
  have k0 := h0
  obtain ⟨n0, hn0⟩ := h0
  have lt0 : ∀ x ∈ p0, x.block < W.heap.size := DataW.trod_lt n0 _ _ _ hn0
  obtain ⟨e0, o0, r0⟩ := arg_rep 8 hn0 (show tyOf Tryd.prog 8 41 = some (.slice 1 (.int .u8)) by kernel_rfl) g0
  obtain ⟨s0, rfl, q0⟩ := bytes_is o0
  obtain ⟨a1, rfl⟩ := okWide_int Tryd.underlying5 (hval 1 5 v1 rfl rfl)
  have k1 := h1
  obtain ⟨n1, hn1⟩ := h1
  have lt1 : ∀ x ∈ p1, x.block < W.heap.size := DataW.trod_lt n1 _ _ _ hn1
  obtain ⟨e1, o1, r1⟩ := arg_rep 8 hn1 (show tyOf Tryd.prog 8 5 = some (.int .u8) by kernel_rfl) g1
  obtain ⟨w1, rfl, q1⟩ := u8_is o1
  clear hA0 hV0 hval0
  obtain ⟨m, hg⟩ := glob_row hL hsh
  have hds : DsRep W (fun _ => False) [.c (.list 1 (encB s0)), .c (.int .u8 (w1 : Nat))] [.slice x0 y0 z0, .int .u8 a1] :=
    DsRep.cons (rep_one r0) (DsRep.cons (rep_one r1) (⟨rfl, by simp⟩))
  refine ((declWords_ok m).run W (fun _ => False) _ _ _ hg (fun _ h => h.elim) hds (T300_eq q1)).mono ?_
  intro e W' hb
  obtain ⟨v, rfl, hk, hv⟩ := back_mono (fun v w h => h) e W' hb
  obtain rfl := back_bool hv
  have bel : Below W.heap.size W W' := ⟨hk.os, hk.tape, hk.output, hk.size, fun b hb => hk.block b hb (fun h => h)⟩
  have e1 : ((OpenSpec.ofChange Rows.declWordsSpec).at F).fn H ([d0, d1] ++ []) = { results := [.lit (.bool true)], args := [d0, d1] } := rfl
  refine ⟨_, rfl, _, _, _, [], (p0 ++ p1), [], hW', ?_, ?_, ?_, kept_frame hk _, fun h => by cases h⟩
  · rw [e1]; exact trodAll_mk1 (shut_bool Tryd.underlying4 _)
  · rw [e1]; exact trodAll_mk2 (Below.trod laidOut (by kernel_rfl) (of_decide_eq_true (by kernel_rfl)) k0 bel lt0) (Below.trod laidOut (by kernel_rfl) (of_decide_eq_true (by kernel_rfl)) k1 bel lt1)
  · rw [e1]; rfl
theorem declWords_row : Rows.DeclWordsSaid :=
  OpenClaim.holds_of_cond 4 Tryd.f4 rfl rfl rfl rfl rfl rfl rfl ⟨rfl, rfl, rfl, rfl, rfl⟩ rfl rfl rfl rfl rfl (by kernel_rfl) Tryd.func4 (by kernel_rfl)
    (of_decide_eq_true (by kernel_rfl)) (by unfold Func.isWrapper; rw [if_neg (of_decide_eq_false (by kernel_rfl))]; exact ⟨rfl, rfl⟩)
    (fun os started H enc _ F0 => by rw [OpenClaim.pre_eq_preRow]; exact law_lifted os started H enc F0)
end Go.Proofs.YtnhalnblbfgbkaaDoor
