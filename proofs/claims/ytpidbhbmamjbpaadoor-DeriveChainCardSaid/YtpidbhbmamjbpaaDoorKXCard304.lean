/-
  DeriveChain: of any three bytes the law's function comes to true and leaves its arguments as they were. Conditions: class.members, utf8.first and utf8.acceptRanges hold what the program's text lays (the card ties that); of internal/bytealg.MaxLen nothing is asked.
-/
import Derived.Test.YtpidbhbmamjbpaaDoorSHR
import Derived.Test.YtpidbhbmamjbpaaDoorSMD
import Derived.Test.YtpidbhbmamjbpaaDoorSMC
import Derived.Test.YtpidbhbmamjbpaaDoorSMB
import Derived.Test.YtpidbhbmamjbpaaDoorSMA
import Derived.Laws.Rows
import Derived.Laws.AppendOwn
import Derived.Calls
import Derived.Tactics
import Derived.Below
import Derived.Laws.RangeString
import Derived.Laws.Strings
import Derived.Laws.BytesArg
import Derived.Laws.CopyRow
import Derived.Laws.StructEq
import Derived.ChangeKeysEq
import Derived.WideKeyRuns
import Derived.Orders
import Derived.ScopeJumps
import Derived.KernelRfl
import Derived.Test.YtpidbhbmamjbpaaDoorProg
import Derived.Test.YtpidbhbmamjbpaaDoorSCF
import Derived.Test.YtpidbhbmamjbpaaDoorKXTA
import Derived.Test.YtpidbhbmamjbpaaDoorSWC
import Derived.Test.YtpidbhbmamjbpaaDoorSWB
import Derived.Test.YtpidbhbmamjbpaaDoorSWH
import Derived.Test.YtpidbhbmamjbpaaDoorSWA
import Derived.WalkKit
import Derived.Lib.Walk
import Derived.Lib.SliceRun
import Derived.Lib.AppendZeros
import Derived.OwnWalk
import Derived.Laws.IdiomCopy
import Derived.Lib.Overlaps
import Derived.Lib.AppendZerosOnto
import Derived.Laws.NewBlocks
import Derived.Shelf.Spec.SlicesInsert
import Derived.Test.YtpidbhbmamjbpaaDoorSV2
import Derived.Test.YtpidbhbmamjbpaaDoorSV1
import Derived.Test.YtpidbhbmamjbpaaDoorSQD
import Derived.Test.YtpidbhbmamjbpaaDoorSQA
import Derived.Test.YtpidbhbmamjbpaaDoorSMY
import Derived.Test.YtpidbhbmamjbpaaDoorSMV
import Derived.Test.YtpidbhbmamjbpaaDoorSCU
import Derived.Test.YtpidbhbmamjbpaaDoorSME
import Derived.Test.YtpidbhbmamjbpaaDoorSCX
import Derived.Lib.BytesEntry
import Derived.Laws.Externs
import Derived.Lib.IndexLaws
import Derived.Test.YtpidbhbmamjbpaaDoorSQU
import Derived.Test.YtpidbhbmamjbpaaDoorSMG
import Derived.Shelf.Strings.Split
import Derived.Test.YtpidbhbmamjbpaaDoorSMF
import Derived.Test.YtpidbhbmamjbpaaDoorSMI
import Derived.Test.YtpidbhbmamjbpaaDoorSMH
import Derived.Test.YtpidbhbmamjbpaaDoorSCE
import Derived.Test.YtpidbhbmamjbpaaDoorSHQ
import Derived.Test.YtpidbhbmamjbpaaDoorSNC
import Derived.Test.YtpidbhbmamjbpaaDoorSML
import Derived.Shelf.Strings.OnBuilder
import Derived.Test.YtpidbhbmamjbpaaDoorSV3
import Derived.Test.YtpidbhbmamjbpaaDoorSWF
import Derived.Test.YtpidbhbmamjbpaaDoorSV11
import Derived.Test.YtpidbhbmamjbpaaDoorSV10
import Derived.Test.YtpidbhbmamjbpaaDoorSV9
import Derived.Test.YtpidbhbmamjbpaaDoorSV8
import Derived.Test.YtpidbhbmamjbpaaDoorSV7
import Derived.Test.YtpidbhbmamjbpaaDoorSV6
import Derived.Test.YtpidbhbmamjbpaaDoorSV5
import Derived.Test.YtpidbhbmamjbpaaDoorSV4
import Derived.Test.YtpidbhbmamjbpaaDoorSV12
import Derived.Test.YtpidbhbmamjbpaaDoorSNF
import Derived.Test.YtpidbhbmamjbpaaDoorSNE
import Derived.Test.YtpidbhbmamjbpaaDoorSNI
import Derived.Test.YtpidbhbmamjbpaaDoorST4
import Derived.Test.YtpidbhbmamjbpaaDoorST1
import Derived.Test.YtpidbhbmamjbpaaDoorSWD
import Derived.Test.YtpidbhbmamjbpaaDoorSDE
import Derived.Test.YtpidbhbmamjbpaaDoorKXDC
import Derived.Test.YtpidbhbmamjbpaaDoorSWG
import Derived.Test.YtpidbhbmamjbpaaDoorSRow
import Derived.Test.YtpidbhbmamjbpaaDoorRows
import Derived.Test.YtpidbhbmamjbpaaDoorSRead2
import Derived.OpenShut
import Derived.Deep.Slices
import Derived.ChangeShapes
import Derived.Lib.LaidIn
import Derived.Deep.DeepHandedRow
import Derived.Deep.DeepWitnessRowRef
import Derived.ProofKit
import Derived.SizedLaws
import Derived.Shelf.Vars
import Derived.Test.YtpidbhbmamjbpaaDoorSReadB
import Derived.Test.YtpidbhbmamjbpaaDoorKXReadA
import Derived.Test.YtpidbhbmamjbpaaDoorTie
import Derived.Test.YtpidbhbmamjbpaaDoorCards
import Derived.JoinedCond
import Derived.MakeChecks
import Derived.SevenTiedAt
namespace Go.Am
open Go K
set_option maxRecDepth 100000
def c313r : ACode :=
 (S (R [q 4 (.move (.k (.c .nil)))]) (S (R [q 5 (.move (s [97, 48]))]) (S (S (R [q 6 (.move (i 1))]) (B 0 (L (S (S (R [m 7 6, m 8 1, q 9 (.bin .leq (t 7) (t 8))]) (I (t 9) X (E 0))) (S (B 1 (R [m 12 5, q 13 (.bin .add (t 12) (s [32])), m 14 0, q 15 (.bin .add (t 13) (t 14)), q 16 (.bin .add (t 15) (s [32, 97])), m 17 6, q 18 (.bin .rem (t 17) (i 10)), q 19 (.bin .add (i 48) (t 18)), q 20 (.toInt .u8 (t 19)), q 21 (.lit 1 1 [(.int .u8 0)] [(0, (t 20))] false), q 22 (.b2s (t 21)), q 23 (.bin .add (t 16) (t 22)), m 5 23])) (R [m 10 6, q 11 (.bin .add (t 10) (i 1)), m 6 11])))))) (S (R [m 24 5, q 25 (.s2b (t 24) false), q 26 (.pcall 9 [(t 25)]), m 4 26]) Z))))
theorem fn313r (m : Int) : FnOk Go.Proofs.Tryd.prog ⟨[], [], HR, glb m⟩ 10 27 c313r [.t 4] := fnk mixedF Go.Proofs.Tryd.f10
def c304r : ACode :=
 (S (R [q 6 (.move F)]) (S (R [q 15 (.pcall 6 []), m 7 15]) (S (R [m 16 0, q 17 (.toInt .i64 (t 16)), q 18 (.bin .rem (t 17) (i 8)), m 8 18]) (S (R [m 19 1, q 20 (.toInt .i64 (t 19)), q 21 (.bin .rem (t 20) (i 3)), m 9 21]) (S (R [m 22 2, q 23 (.toInt .i64 (t 22)), q 24 (.bin .rem (t 23) (i 9)), q 25 (.bin .add (i 1) (t 24)), m 26 9, q 27 (.build [e, o, o] [(0, 1, (s [95, 43, 95])), (1, 1, (t 25)), (2, 1, (t 26))]), q 28 (.lit 3 1 [(.str []), (.int .i64 0), (.int .i64 0)] [(0, (t 27))] false), q 29 (.pcall 7 [(t 28)]), q 10 (.alloc [.nil, o, o, o, o, o, o, o, o, o, o]), n (st 10 29 11)]) (S (R [m 30 8, q 31 (.pcall 10 [(s [43]), (t 30)]), m 11 31]) (S (R [q 33 (la 10 11), m 34 11, q 35 (.pcall 8 [(t 33), (t 34)]), m 32 35, q 36 (ex 32 0), q 37 (ex 32 1), m 12 36, m 13 37]) (S (S (R [m 38 9, q 39 (.bin .eql (t 38) (i 0)), m 40 39, pm 41 40 8, p 42 40 (.bin .gtr (t 41) (i 1)), q 43 (.pick (t 40) (t 42) F)]) (I (t 43) (S (R [m 44 7, m 45 44, pm 46 45 12, p 47 45 (.bin .eql (t 46) (i 0)), q 48 (.pick (t 45) (t 47) F), m 6 48]) Z) X)) (S (S (R [m 49 12, q 50 (.bin .neq (t 49) (i 1)), m 51 50, r 52 51 (la 10 11), rm 53 51 11, rm 54 51 13, r 55 51 (.pcall 11 [(t 52), (t 53), (t 54)]), r 56 51 (.not (t 55)), q 57 (.pick (t 51) T (t 56)), m 58 57, rm 59 58 13, r 60 58 (.len (t 59)), rm 61 58 8, r 62 58 (.bin .mul (i 2) (t 61)), r 63 58 (.bin .add (t 62) (i 1)), r 64 58 (.bin .neq (t 60) (t 63)), q 65 (.pick (t 58) T (t 64))]) (I (t 65) (S (R [q 6 (.move F)]) Z) X)) (S (S (R [q 14 (.move (i 0))]) (B 0 (L (S (S (R [m 66 14, m 67 8, q 68 (.bin .lss (t 66) (t 67))]) (I (t 68) X (E 0))) (S (B 1 (S (S (R [m 71 9, q 72 (.bin .eql (t 71) (i 2)), m 73 72, pm 74 73 13, pm 75 73 14, p 76 73 (.bin .mul (i 2) (t 75)), p 77 73 (.idxAddr 5 (t 74) (t 76)), p 78 73 (fa 77 0), p 79 73 (l 78), p 80 73 (.bin .neq (t 79) (i 3)), pm 81 73 80, rm 82 81 13, rm 83 81 14, r 84 81 (.bin .mul (i 2) (t 83)), r 85 81 (.idxAddr 5 (t 82) (t 84)), r 86 81 (fa 85 2), r 87 81 (l 86), rm 88 81 14, r 89 81 (.bin .mul (i 2) (t 88)), r 90 81 (.bin .neq (t 87) (t 89)), p 91 73 (.pick (t 81) T (t 90)), q 92 (.pick (t 73) (t 91) F)]) (I (t 92) (S (R [q 6 (.move F)]) Z) X)) (S (R [m 93 9, q 94 (.bin .eql (t 93) (i 1)), m 95 94, pm 96 95 13, pm 97 95 14, p 98 95 (.idxAddr 5 (t 96) (t 97)), p 99 95 (fa 98 0), p 100 95 (l 99), p 101 95 (.bin .neq (t 100) (i 3)), pm 102 95 101, rm 103 102 13, rm 104 102 14, r 105 102 (.idxAddr 5 (t 103) (t 104)), r 106 102 (fa 105 2), r 107 102 (l 106), r 108 102 (.bin .neq (t 107) (i 0)), p 109 95 (.pick (t 102) T (t 108)), pm 110 95 109, rm 111 110 13, rm 112 110 14, r 113 110 (.idxAddr 5 (t 111) (t 112)), r 114 110 (fa 113 3), r 115 110 (l 114), rm 116 110 11, r 117 110 (.len (t 116)), rm 118 110 14, r 119 110 (.bin .mul (i 2) (t 118)), r 120 110 (.bin .sub (t 117) (t 119)), r 121 110 (.bin .neq (t 115) (t 120)), p 122 95 (.pick (t 110) T (t 121)), q 123 (.pick (t 95) (t 122) F)]) (I (t 123) (S (R [q 6 (.move F)]) Z) X)))) (R [m 69 14, q 70 (.bin .add (t 69) (i 1)), m 14 70])))))) (S (R [m 124 7, m 6 124]) Z)))))))))))
theorem fn304r (m : Int) : FnOk Go.Proofs.Tryd.prog ⟨[], [], HR, glb m⟩ 5 125 c304r [.t 6] := fnk mixedF Go.Proofs.Tryd.f5
end Go.Am
namespace Go.Am
open Go
def kidL (T : List Nd5) : Nat → Nat → List Nat
  | 0, _ => []
  | k + 1, a => a :: match endT T a with
    | some b => kidL T k b
    | none => []
def kidsT (T : List Nd5) (i : Nat) : List Nat := match endT T i, T[i]? with
  | some _, some x => kidL T x.n.toNat (i + 1)
  | _, _ => []
def natD (k : Nat) : List D := [.int .i64 (k : Nat)]
def kidsR (T : List Nd5) (i : Nat) : DV := match endT T i with
  | some _ => .c (.list 1 ((kidsT T i).map natD))
  | none => .c (.list 0 [])
noncomputable def T324 : List DV → Option DV := fam (fun x : (Nat × List Nd5) × Nat => [.c (.list x.1.1 (x.1.2.map ndD)), .c (.int .i64 (x.2 : Nat))]) (fun x => x.1.2.length ≤ 1000000 ∧ x.2 ≤ 1000000) (fun x => kidsR x.1.2 x.2)
theorem T324_eq {sz i : Nat} {T : List Nd5} (h : T.length ≤ 1000000 ∧ i ≤ 1000000) : T324 [.c (.list sz (T.map ndD)), .c (.int .i64 (i : Nat))] = some (kidsR T i) := by
  refine fam_eq (ι := (Nat × List Nd5) × Nat) ((sz, T), i) h ?_
  rintro ⟨⟨sz', T'⟩, i'⟩ _ e
  simp only [List.cons.injEq, DV.c.injEq, D.list.injEq, D.int.injEq, true_and, and_true] at e
  obtain ⟨⟨_, h1⟩, h2⟩ := e
  rw [nds_inj h1, show i' = i by omega]
set_option maxRecDepth 8000 in
set_option maxHeartbeats 4000000 in
theorem w324 (x : (Nat × List Nd5) × Nat) (hx : x.1.2.length ≤ 1000000 ∧ x.2 ≤ 1000000) :
    awp (tbl [(18, T322 1000001)]) c324r (PureQ [.t 4] (kidsR x.1.2 x.2)) ⟨argE 0 (dvArgs [.c (.list x.1.1 (x.1.2.map ndD)), .c (.int .i64 (x.2 : Nat))]), ⟨0, []⟩⟩ := by
  obtain ⟨⟨sz, T⟩, i⟩ := x
  obtain ⟨h1, h2⟩ := hx
  simp only at h1 h2 ⊢
  have hml : (T.map ndD).length = T.length := List.length_map ..
  have hend := T322_eq (M := 1000001) (sz := sz) (i := i) (T := T) ⟨h1, h2, by omega⟩
  unfold kidsR
  cases he : endT T i with
  | none =>
    rw [he] at hend
    have hend : T322 1000001 [.c (.list sz (T.map ndD)), .c (.int .i64 (i : Nat))] = some (.c (.int .i64 (-1))) := hend
    unfold c324r
    repeat' first
      | refine GoH ?_
      | ((with_reducible apply Z1 (f := 18));rfl;rfl;rfl;exact hend;rfl)
      | refine ZB rfl ?_|refine ZC rfl ?_
    exact ⟨_, rfl, rfl⟩
  | some e =>
    rw [he] at hend
    have hend : T322 1000001 [.c (.list sz (T.map ndD)), .c (.int .i64 (i : Nat))] = some (.c (.int .i64 (e : Nat))) := hend
    have hlt := endT_lt he
    have htop := endT_top he
    have hn : T[i]? = some T[i] := List.getElem?_eq_getElem (by omega)
    have hn' := nd_at hn
    have hk : endK (endT T) (T[i]).n.toNat (i + 1) = some e := (endT_eq hn).symm.trans he
    have hkt : kidsT T i = kidL T (T[i]).n.toNat (i + 1) := by unfold kidsT; rw [he, hn]
    simp only
    rw [hkt]
    generalize T[i] = nd at hn hn' hk
    obtain ⟨k, s, a, b, n⟩ := nd
    simp only at hk ⊢
    have hn' : (T.map ndD)[((i : Nat) : Int).toNat]? = some [.int .i64 k, .str s, .int .i64 a, .int .i64 b, .int .i64 n] := hn'
    generalize hN2 : n.toNat = N at hk ⊢
    unfold c324r
    repeat' first
      | refine GoH ?_
      | ((with_reducible apply Z1 (f := 18));rfl;rfl;rfl;exact hend;rfl)
      | refine ZB (ev_lss_f rfl rfl (by omega)) ?_
      | refine ZB (ev_add rfl rfl (by omega) (by omega)) ?_
      | refine ZB rfl ?_|refine ZC rfl ?_
    refine awp_loop (fun q st => ∃ (ks : List Nat) (at_ nx z : Nat) (ob : List (Nat × Ob)), ks.length ≤ N ∧ N - ks.length < q ∧ at_ ≤ T.length ∧ endK (endT T) (N - ks.length) at_ = some e ∧ ks ++ kidL T (N - ks.length) at_ = kidL T N (i + 1) ∧ look ob z = some (.row 1 (ks.map natD)) ∧
      st = ⟨[(0, .c (.d (.list sz (T.map ndD)))), (1, .c (.d (.int .i64 (i : Nat)))), (5, .c (.own z (ks.map natD).length)), (6, .c (.d (.int .i64 (at_ : Nat))))], ⟨nx, ob⟩⟩) (N + 1) ?_ (by rintro st ⟨ks, _, _, _, _, _, h, _⟩; omega) ?_
    · exact weak_keep [0, 1, 5, 6] rfl ⟨[], i + 1, _, _, _, by simp, by simp, by omega, hk, rfl, look_hd, rfl⟩
    · rintro q K hK st ⟨ks, at_, nx, z, ob, hj, hq, ha1, hee, hks, hz, rfl⟩
      have hkl : (ks.map natD).length = ks.length := List.length_map ..
      by_cases hend2 : ks.length = N
      · rw [hend2, Nat.sub_self] at hks
        have hks : ks = kidL T N (i + 1) := by rw [← hks]; simp [kidL]
        rw [← hks]
        repeat' first
          | refine GoH ?_
          | refine ZB (ev_len_own rfl hz rfl) ?_
          | refine ZB (ev_idx rfl rfl (by omega) hn' rfl) ?_
          | refine ZB (ev_lss_f rfl rfl (by omega)) ?_
          | refine ZB rfl ?_|refine ZC rfl ?_
        exact ⟨_, rfl, ownT hz rfl⟩
      · rw [show N - ks.length = (N - (ks.length + 1)) + 1 by omega] at hee hks
        have hee2 := hee
        unfold endK at hee2
        cases hb : endT T at_ with
        | none => rw [hb] at hee2; cases hee2
        | some bb =>
          rw [hb] at hee2
          simp only at hee2
          have hat : at_ < T.length := by
            rcases Nat.lt_or_ge at_ T.length with h | h
            · exact h
            · rw [endT_out h] at hb; cases hb
          have hr := T322_eq (M := 1000001) (sz := sz) (i := at_) (T := T) ⟨h1, by omega, by omega⟩
          rw [hb] at hr
          have hr : T322 1000001 [.c (.list sz (T.map ndD)), .c (.int .i64 (at_ : Nat))] = some (.c (.int .i64 (bb : Nat))) := hr
          have htop2 := endT_top hb
          have hsn : (ks ++ [at_]).map natD = ks.map natD ++ [[.int .i64 (at_ : Nat)]] := by rw [List.map_append]; rfl
          obtain ⟨ob1, hp1⟩ := put_of_look (.row 1 (ks.map natD ++ [[.int .i64 (at_ : Nat)]])) hz
          have hz1 := look_put_same hp1
          have hnl : N ≤ T.length := by
            have := endK_le (fun a b h => endT_lt h) hk
            omega
          repeat' first
            | refine GoH ?_
            | ((with_reducible apply Z1 (f := 18));rfl;rfl;rfl;exact hr;rfl)
            | refine ZB (ev_len_own rfl hz rfl) ?_
            | refine ZB (ev_idx rfl rfl (by omega) hn' rfl) ?_
            | refine ZB (ev_lss_t rfl rfl (by omega)) ?_
            | refine ZB (ev_app_own rfl rfl hz rfl (by rw [hkl]; show _ + 1 ≤ room; unfold room; omega) hp1) ?_
            | refine ZB rfl ?_|refine ZC rfl ?_
          refine hK _ (weak_keep [0, 1, 5, 6] rfl ⟨ks ++ [at_], bb, nx, z, ob1, by simp; omega, by simp; omega, by omega, ?_, ?_, by rw [hsn]; exact hz1, by rw [hsn]; rfl⟩)
          · rw [List.length_append]; exact hee2
          · rw [List.length_append, List.append_assoc]
            rw [← hks]
            congr 1
            show at_ :: kidL T (N - (ks.length + 1)) bb = kidL T (N - (ks.length + 1) + 1) at_
            conv => rhs; unfold kidL
            rw [hb]
theorem pok324 (m : Int) : PureOk Go.Proofs.Tryd.prog (glb m) 20 T324 := .inl (fam_ok (fn324r m) (callOk_cons (pok322 m _) (callOk_nil _ _)) w324)
noncomputable def T325 : List DV → Option DV := fam (fun x : Tk5 × List UInt8 => [.agg (tkD x.1), .c (.str x.2)]) (fun _ => True) (fun x => .c (.bool (soloK x.1 x.2)))
theorem T325_eq (t : Tk5) (s : List UInt8) : T325 [.agg (tkD t), .c (.str s)] = some (.c (.bool (soloK t s))) := by
  refine fam_eq (ι := Tk5 × List UInt8) (t, s) trivial ?_
  rintro ⟨t', s'⟩ _ e
  simp only [List.cons.injEq, DV.agg.injEq, DV.c.injEq, D.str.injEq, and_true] at e
  rw [tkD_inj e.1, e.2]
set_option maxRecDepth 8000 in
theorem w325 (x : Tk5 × List UInt8) (_ : True) : awp (tbl []) c325r (PureQ [.t 4] (.c (.bool (soloK x.1 x.2)))) ⟨argE 0 (dvArgs [.agg (tkD x.1), .c (.str x.2)]), ⟨0, []⟩⟩ := by
  obtain ⟨⟨k, a, b, tx, e⟩, s⟩ := x
  unfold soloK
  simp only
  by_cases hk : k = 6
  · by_cases hs : tx = s
    · have e1 : (decide (k = 6) && decide (tx = s)) = true := by simp [hk, hs]
      rw [e1]
      unfold c325r
      repeat' first | refine GoH ?_ | refine ZB (ev_eql_t rfl rfl hk) ?_ | refine ZB (ev_eqs_t rfl rfl hs) ?_ | refine ZB rfl ?_|refine ZC rfl ?_
      exact ⟨_, rfl, rfl⟩
    · have e1 : (decide (k = 6) && decide (tx = s)) = false := by simp [hs]
      rw [e1]
      unfold c325r
      repeat' first | refine GoH ?_ | refine ZB (ev_eql_t rfl rfl hk) ?_ | refine ZB (ev_eqs_f rfl rfl hs) ?_ | refine ZB rfl ?_|refine ZC rfl ?_
      exact ⟨_, rfl, rfl⟩
  · have e1 : (decide (k = 6) && decide (tx = s)) = false := by simp [hk]
    rw [e1]
    unfold c325r
    repeat' first | refine GoH ?_ | refine ZB (ev_eql_f rfl rfl hk) ?_ | refine ZB rfl ?_|refine ZC rfl ?_
    exact ⟨_, rfl, rfl⟩
theorem pok325 (m : Int) : PureOk Go.Proofs.Tryd.prog (glb m) 22 T325 := .inl (fam_ok (fn325r m) (callOk_nil _ _) w325)
end Go.Am
namespace Go.Am
open Go
def RI (P : Op3 → Bool) (l : List Op3) (nx : Nat) (ob : List (Nat × Ob)) (v : V) (h : Hp) : Prop :=
  ((v = .c (.d (.int .i64 (-1))) ∧ ∀ x ∈ l, P x = false) ∨ (∃ k x, v = .c (.d (.int .i64 (k : Nat))) ∧ l[k]? = some x ∧ (∀ y ∈ l.take k, P y = false) ∧ P x = true)) ∧ nx ≤ h.next ∧ ∀ y, y < nx → look h.obs y = look ob y
theorem RI_int {P : Op3 → Bool} {l : List Op3} {nx : Nat} {ob : List (Nat × Ob)} {v : V} {h : Hp} (hR : RI P l nx ob v h) : ∃ q : Int, v = .c (.d (.int .i64 q)) := by
  rcases hR.1 with ⟨h, _⟩ | ⟨k, _, h, _⟩
  · exact ⟨_, h⟩
  · exact ⟨_, h⟩
set_option maxRecDepth 8000 in
set_option maxHeartbeats 2000000 in
theorem w330g {cl : Call} {g : Nat} {caps : List C} {P : Op3 → Bool} {T : List V → Hp → (V → Hp → Prop) → Prop} {sz : Nat} {l : List Op3} {y nx : Nat} {ob : List (Nat × Ob)} (hcl : cl.heap g = some T) (one : ∀ xs h K, T xs h K → ∃ v h', K v h' ∧ ∀ K' : V → Hp → Prop, K' v h' → T xs h K')
    (hl : l.length ≤ 1000) (hn : y < nx) (hT : ∀ (x : Op3) (nx' : Nat) (ob' : List (Nat × Ob)), y < nx' → look ob' y = look ob y → T ([.agg ((opD x).map .d)] ++ caps.map V.c) ⟨nx', ob'⟩ (RV nx' ob' (.c (.d (.bool (P x)))))) :
    wpOf cl c330r [.t 4] [.c (.d (.list sz (l.map opD))), .c (.clo g caps)] ⟨nx, ob⟩ (RI P l nx ob) := by
  have hml : (l.map opD).length = l.length := List.length_map ..
  unfold wpOf c330r
  repeat' first | refine GoH ?_ | refine ZB rfl ?_|refine ZC rfl ?_
  refine awp_loop (fun q st => ∃ (i nx1 : Nat) (ob1 : List (Nat × Ob)), i ≤ l.length ∧ l.length - i < q ∧ nx ≤ nx1 ∧ (∀ z, z < nx → look ob1 z = look ob z) ∧ (∀ x ∈ l.take i, P x = false) ∧
    st = ⟨[(0, .c (.d (.list sz (l.map opD)))), (1, .c (.clo g caps)), (7, .c (.d (.int .i64 ((l.map opD).length : Nat)))), (8, .c (.d (.int .i64 (i : Nat))))], ⟨nx1, ob1⟩⟩) (l.length + 1) ?_ (by rintro st ⟨i, _, _, _, h, _⟩; omega) ?_
  · exact weak_keep [0, 1, 7, 8] rfl ⟨0, nx, ob, by omega, by omega, Nat.le_refl _, fun _ _ => rfl, fun x hx => by simp at hx, rfl⟩
  · rintro q K hK st ⟨i, nx1, ob1, hi, hq, hnx, hkeep, hless, rfl⟩
    by_cases hend : i = l.length
    · subst hend
      rw [List.take_length] at hless
      repeat' first | refine GoH ?_ | refine ZB (ev_lss_f rfl rfl (by omega)) ?_ | refine ZB rfl ?_|refine ZC rfl ?_
      exact ⟨_, rfl, .inl ⟨rfl, hless⟩, hnx, hkeep⟩
    · have hlt : i < l.length := by omega
      have hx : l[i]? = some l[i] := List.getElem?_eq_getElem hlt
      have hx' : (l.map opD)[((i : Nat) : Int).toNat]? = some (opD l[i]) := ops_at l hx
      have hc := hT l[i] nx1 ob1 (by omega) (hkeep y hn)
      have htake : ∀ b, P l[i] = b → b = false → ∀ x ∈ l.take (i + 1), P x = false := fun b hb hb2 x hx2 => by
        rw [List.take_add_one, hx] at hx2
        rcases List.mem_append.1 hx2 with h | h
        · exact hless x h
        · have : x = l[i] := by simpa using h
          rw [this, hb, hb2]
      generalize hb : P l[i] = b at hc htake
      generalize l[i] = x at hc hx hx' hb
      obtain ⟨p, g', a⟩ := x
      cases b
      · repeat' first
          | refine GoH ?_
          | refine ZB (ev_lss_t rfl rfl (by omega)) ?_
          | refine ZB (ev_idx rfl rfl (by omega) hx' rfl) ?_
          | ((with_reducible apply step_vR); rfl; exact hcl; exact one; exact hc; rintro v nx2 ob2 ⟨rfl, e2, e3⟩; simp only at e2 e3)
          | refine ZB (ev_add rfl rfl (by omega) (by omega)) ?_
          | refine ZB rfl ?_|refine ZC rfl ?_
        exact hK _ (weak_keep [0, 1, 7, 8] rfl ⟨i + 1, nx2, ob2, by omega, by omega, by omega, fun z hz => (e3 z (by omega)).trans (hkeep z hz), htake _ rfl rfl, rfl⟩)
      · repeat' first
          | refine GoH ?_
          | refine ZB (ev_lss_t rfl rfl (by omega)) ?_
          | refine ZB (ev_idx rfl rfl (by omega) hx' rfl) ?_
          | ((with_reducible apply step_vR); rfl; exact hcl; exact one; exact hc; rintro v nx2 ob2 ⟨rfl, e2, e3⟩; simp only at e2 e3)
          | refine ZB rfl ?_|refine ZC rfl ?_
        exact ⟨_, rfl, .inr ⟨i, _, rfl, hx, hless, hb⟩, (by show nx ≤ nx2; omega), fun z hz => (e3 z (by omega)).trans (hkeep z hz)⟩
def patIs (s : List UInt8) (x : Op3) : Bool := decide (x.pat = s)
theorem w345 {cl : Call} {x : Op3} {s : List UInt8} {y nx : Nat} {ob : List (Nat × Ob)} (hy : look ob y = some (.cells [.d (.str s)])) (hn : y < nx) :
    wpOf cl c345r [.t 3] [.agg ((opD x).map .d), .c (.ptr y 0)] ⟨nx, ob⟩ (RV nx ob (.c (.d (.bool (patIs s x))))) := by
  obtain ⟨p, g, a⟩ := x
  unfold wpOf patIs
  simp only
  by_cases hp : p = s
  · rw [decide_eq_true hp]
    unfold c345r
    repeat' first
      | refine GoH ?_
      | ((with_reducible apply step_boxA); rfl; intro ob' hb hk; have hy' := (hk y hn).trans hy)
      | refine ZB (ev_load rfl hb rfl) ?_
      | refine ZB (ev_load rfl hy' rfl) ?_
      | refine ZB (ev_eqs_t rfl rfl hp) ?_
      | refine ZB rfl ?_|refine ZC rfl ?_
    exact ⟨_, rfl, rfl, Nat.le_succ _, hk⟩
  · rw [decide_eq_false hp]
    unfold c345r
    repeat' first
      | refine GoH ?_
      | ((with_reducible apply step_boxA); rfl; intro ob' hb hk; have hy' := (hk y hn).trans hy)
      | refine ZB (ev_load rfl hb rfl) ?_
      | refine ZB (ev_load rfl hy' rfl) ?_
      | refine ZB (ev_eqs_f rfl rfl hp) ?_
      | refine ZB rfl ?_|refine ZC rfl ?_
    exact ⟨_, rfl, rfl, Nat.le_succ _, hk⟩
noncomputable def cl330f : Call := tblh [] [(71, wpOf (tblh [] []) c345r [.t 3])]
theorem fine330f : Fine cl330f := fine_cons (fun _ _ _ hk => wpOf_one fine0 hk) (fine_nil _)
noncomputable def cl339 : Call := tblh [] [(28, wpOf cl330f c330r [.t 4])]
theorem fine339 : Fine cl339 := fine_cons (fun _ _ _ hk => wpOf_one fine330f hk) (fine_nil _)
def findO (ops : List Op3) (s : List UInt8) : Option Op3 := ops.find? (patIs s)
def findR (ops : List Op3) (s : List UInt8) : DV := match findO ops s with
  | some o => .tup [.agg (opD o), .c (.bool true)]
  | none => .tup [.agg (opD noOp), .c (.bool false)]
theorem find_at {α : Type} {P : α → Bool} {l : List α} {k : Nat} {x : α} (h1 : l[k]? = some x) (h2 : ∀ y ∈ l.take k, P y = false) (h3 : P x = true) : l.find? P = some x := by
  induction l generalizing k with
  | nil => cases h1
  | cons a l ih =>
    cases k with
    | zero => cases h1; rw [List.find?_cons, h3]
    | succ k =>
      rw [List.find?_cons, h2 a (by simp)]
      exact ih h1 (fun y hy => h2 y (by simp [hy]))
noncomputable def T339 : List DV → Option DV := fam (fun x : (Nat × List Op3 × (Nat → Int)) × List UInt8 => [.agg (envD x.1.1 x.1.2.1 x.1.2.2), .c (.str x.2)]) (fun x => x.1.2.1.length ≤ 1000) (fun x => findR x.1.2.1 x.2)
theorem T339_eq {sz : Nat} {l : List Op3} {f : Nat → Int} (he : l.length ≤ 1000) (s : List UInt8) : T339 [.agg (envD sz l f), .c (.str s)] = some (findR l s) := by
  refine fam_eq (ι := (Nat × List Op3 × (Nat → Int)) × List UInt8) ((sz, l, f), s) he ?_
  rintro ⟨⟨sz', l', f'⟩, s'⟩ _ e
  simp only [List.cons.injEq, DV.agg.injEq, DV.c.injEq, D.str.injEq, and_true] at e
  obtain ⟨h1, rfl⟩ := e
  obtain ⟨rfl, _⟩ := envD_inj h1
  rfl
set_option maxRecDepth 8000 in
set_option maxHeartbeats 4000000 in
theorem w339 (x : (Nat × List Op3 × (Nat → Int)) × List UInt8) (he : x.1.2.1.length ≤ 1000) : awp cl339 c339r (PureQ [.cell 4 3 true, .t 5] (findR x.1.2.1 x.2)) ⟨argE 0 (dvArgs [.agg (envD x.1.1 x.1.2.1 x.1.2.2), .c (.str x.2)]), ⟨0, []⟩⟩ := by
  obtain ⟨⟨sz, l, f⟩, s⟩ := x
  simp only at he ⊢
  have hml : (l.map opD).length = l.length := List.length_map ..
  have hc := fun (ob : List (Nat × Ob)) (hy : look ob 1 = some (.cells [.d (.str s)])) => w330g (cl := cl330f) (g := 71) (caps := [.ptr 1 0]) (P := patIs s) (sz := sz) (l := l) (y := 1) (nx := 3) (ob := ob) rfl (fun _ _ _ hk => wpOf_one fine0 hk) he (by omega) (fun x nx' ob' h1 h2 => w345 (cl := tblh [] []) (h2.trans hy) h1)
  have i1 : look [(2, Ob.cells [.d (.str []), .d (.int .i64 0), .d (.int .i64 0)]), (1, .cells [.d (.str s)]), (0, .cells (.d (.list sz (l.map opD)) :: rowsC f))] 1 = some (.cells [.d (.str s)]) := rfl
  have hc1 := hc _ i1
  clear hc
  have tail : ∀ (v : V) (nx : Nat) (ob : List (Nat × Ob)), RI (patIs s) l 3 [(2, Ob.cells [.d (.str []), .d (.int .i64 0), .d (.int .i64 0)]), (1, .cells [.d (.str s)]), (0, .cells (.d (.list sz (l.map opD)) :: rowsC f))] v ⟨nx, ob⟩ →
      awp cl339 (c339r.tail 2) (PureQ [.cell 4 3 true, .t 5] (findR l s)) ⟨[(2, .c (.ptr 0 0)), (3, .c (.ptr 1 0)), (4, .c (.ptr 2 0)), (6, v)], ⟨nx, ob⟩⟩ := by
    rintro v nx ob ⟨hv, hn, hkeep⟩
    have g0 : look ob 0 = some (.cells (.d (.list sz (l.map opD)) :: rowsC f)) := (hkeep 0 (by omega)).trans rfl
    have g2 : look ob 2 = some (.cells [.d (.str []), .d (.int .i64 0), .d (.int .i64 0)]) := (hkeep 2 (by omega)).trans rfl
    unfold findR
    rcases hv with ⟨rfl, hall⟩ | ⟨k, x, rfl, hx, hbef, hyes⟩
    · have hf : findO l s = none := List.find?_eq_none.2 (fun x hx => by rw [hall x hx]; simp)
      rw [hf]
      unfold c339r
      dsimp only [ACode.tail]
      repeat' first
        | refine GoH ?_
        | ((with_reducible apply step_storeA); rfl; rfl; rfl; exact g2; rfl; intro ob2 hb2 hk2)
        | refine ZB rfl ?_|refine ZC rfl ?_
      exact ⟨_, resV_cell rfl hb2 rfl rfl, rfl⟩
    · have hf : findO l s = some x := find_at hx hbef hyes
      rw [hf]
      have hx' : (l.map opD)[((k : Nat) : Int).toNat]? = some (opD x) := ops_at l hx
      obtain ⟨p, g, a⟩ := x
      unfold c339r
      dsimp only [ACode.tail]
      repeat' first
        | refine GoH ?_
        | ((with_reducible apply step_storeA); rfl; rfl; rfl; exact g2; rfl; intro ob2 hb2 hk2)
        | refine ZB (ev_lss_f rfl rfl (by omega)) ?_
        | refine ZB (ev_load rfl g0 rfl) ?_
        | refine ZB (ev_idx rfl rfl (by omega) hx' rfl) ?_
        | refine ZB rfl ?_|refine ZC rfl ?_
      exact ⟨_, resV_cell rfl hb2 rfl rfl, rfl⟩
  unfold cl339 c339r at *
  dsimp only [ACode.tail] at *
  unfold envD
  repeat' first
    | ((with_reducible apply weak_keep [2, 3, 4, 6]); rfl; exact tail _ _ _ hR)
    | refine GoH ?_
    | ((with_reducible apply step_hR); rfl; exact fine339; exact hc1; intro v nx2 ob2 hR; obtain ⟨q, rfl⟩ := RI_int hR)
    | refine ZB rfl ?_|refine ZC rfl ?_
theorem pok345 (m : Int) : HeapOk Go.Proofs.Tryd.prog (glb m) 71 (wpOf (tblh [] []) c345r [.t 3]) := wpOf_ok (fn345r m) (callh_nil (callOk_nil _ _))
theorem pok330f (m : Int) : HeapOk Go.Proofs.Tryd.prog (glb m) 28 (wpOf cl330f c330r [.t 4]) := wpOf_ok (fn330r m) (callh_cons (pok345 m) (callh_nil (callOk_nil _ _)))
theorem pok339 (m : Int) : PureOk Go.Proofs.Tryd.prog (glb m) 47 T339 := .inl (fam_ok (fn339r m) (callh_cons (pok330f m) (callh_nil (callOk_nil _ _))) w339)
end Go.Am
namespace Go.Am
open Go
def holeS (T : List Nd5) (ops : List Op3) (fit : Op3 → Op3 → Bool → Bool) (o : Op3) (outer right : Bool) : List Nat → Int → Option (List Nat × Int)
  | [], _ => none
  | k :: r, at_ => match T[k]? with
    | none => none
    | some c => if c.a ≠ at_ then none else if outer = false ∨ c.k ≠ 3 then some (r, c.b) else match findO ops c.s with
      | some q => if fit o q right = true then some (r, c.b) else none
      | none => none
structure HC (T : List Nd5) (ops : List Op3) (f : Nat → Int) (o : Op3) (esz tsz pk pt pa pe po nx : Nat) (ob : List (Nat × Ob)) : Prop where
  ht : look ob pt = some (.cells [.d (.list tsz (T.map ndD))])
  he : look ob pe = some (.cells (.d (.list esz (ops.map opD)) :: rowsC f))
  ho : look ob po = some (.cells ((opD o).map .d))
  lk : pk < nx
  lt : pt < nx
  la : pa < nx
  le : pe < nx
  lo : po < nx
  ka : pk ≠ pa
  tk : pt ≠ pk
  ta : pt ≠ pa
  ek : pe ≠ pk
  ea : pe ≠ pa
  ok : po ≠ pk
  oa : po ≠ pa
theorem HC.keep {T : List Nd5} {ops : List Op3} {f : Nat → Int} {o : Op3} {esz tsz pk pt pa pe po nx nx' : Nat} {ob ob' : List (Nat × Ob)} (h : HC T ops f o esz tsz pk pt pa pe po nx ob) (hn : nx ≤ nx') (hk : ∀ y, y < nx → y ≠ pk → y ≠ pa → look ob' y = look ob y) : HC T ops f o esz tsz pk pt pa pe po nx' ob' :=
  ⟨(hk _ h.lt h.tk h.ta).trans h.ht, (hk _ h.le h.ek h.ea).trans h.he, (hk _ h.lo h.ok h.oa).trans h.ho, Nat.lt_of_lt_of_le h.lk hn, Nat.lt_of_lt_of_le h.lt hn, Nat.lt_of_lt_of_le h.la hn, Nat.lt_of_lt_of_le h.le hn, Nat.lt_of_lt_of_le h.lo hn, h.ka, h.tk, h.ta, h.ek, h.ea, h.ok, h.oa⟩
theorem dstep_allocA {cl : Call} {past : List (Nat × Ent)} {j b d nx : Nat} {bs : List Nat} {r : List AOper} {K : St → Prop} {env : Env} {ob : List (Nat × Ob)} {cs : List C}
    (hp' : pastOk cl b ⟨.alloc cs, env, ⟨nx, ob⟩, .c (.ptr nx 0), ⟨nx + 1, (nx, .cells cs) :: ob⟩, true⟩ past)
    (hk : dopsWp cl ((j, ⟨.alloc cs, env, ⟨nx, ob⟩, .c (.ptr nx 0), ⟨nx + 1, (nx, .cells cs) :: ob⟩, true⟩) :: past) (j + 1) bs r K ⟨(d, .c (.ptr nx 0)) :: env, ⟨nx + 1, (nx, .cells cs) :: ob⟩⟩) : dopsWp cl past j (b :: bs) (⟨some d, .alloc cs, none⟩ :: r) K ⟨env, ⟨nx, ob⟩⟩ :=
  ZZ (v := .c (.ptr nx 0)) (Z0 rfl ⟨rfl, rfl⟩) hp' hk
def RH (S : Option (List Nat × Int)) (pk pa nx : Nat) (ob : List (Nat × Ob)) (v : V) (h : Hp) : Prop := nx ≤ h.next ∧ (∀ y, y < nx → y ≠ pk → y ≠ pa → look h.obs y = look ob y) ∧ match S with
  | none => v = .c (.d (.bool false))
  | some (ks, at_) => v = .c (.d (.bool true)) ∧ (∃ sz, (sz = 1 ∨ ks = []) ∧ look h.obs pk = some (.cells [.d (.list sz (ks.map natD))])) ∧ look h.obs pa = some (.cells [.d (.int .i64 at_)])
theorem RH_bool {S : Option (List Nat × Int)} {pk pa nx : Nat} {ob : List (Nat × Ob)} {v : V} {h : Hp} (hR : RH S pk pa nx ob v h) : v = .c (.d (.bool S.isSome)) := by
  obtain ⟨_, _, h⟩ := hR
  cases S with
  | none => exact h
  | some x => exact h.1
set_option maxRecDepth 8000 in
set_option maxHeartbeats 8000000 in
theorem w340 {cl : Call} (h23 : cl.pure 49 = some (T23 partE)) (h339 : cl.pure 47 = some T339) {T : List Nd5} {ops : List Op3} {f : Nat → Int} {o : Op3} {esz tsz pk pt pa pe po nx : Nat} {ob : List (Nat × Ob)} (H : HC T ops f o esz tsz pk pt pa pe po nx ob) (hops : ops.length ≤ 1000) {ks : List Nat} {sz : Nat} {at_ : Int} {outer right : Bool}
    (hsz : sz = 1 ∨ ks = []) (hks : ∀ k ∈ ks, k < T.length) (hk : look ob pk = some (.cells [.d (.list sz (ks.map natD))])) (ha : look ob pa = some (.cells [.d (.int .i64 at_)])) :
    wpOf cl c340r [.t 9] [.c (.d (.bool outer)), .c (.d (.bool right)), .c (.ptr pk 0), .c (.ptr pt 0), .c (.ptr pa 0), .c (.ptr pe 0), .c (.ptr po 0)] ⟨nx, ob⟩ (RH (holeS T ops (fitsOf partE f) o outer right ks at_) pk pa nx ob) := by
  have ht := H.ht
  have he := H.he
  have ho := H.ho
  unfold wpOf
  cases ks with
  | nil =>
    unfold holeS c340r
    repeat' first
      | refine GoH ?_
      | (with_reducible first | apply ZS | apply ZT)
      | refine ZY (ev_load rfl hk rfl) (by (repeat' first|exact True.intro|refine ⟨?_, ?_⟩|exact .inl rfl|exact .inr (.inl rfl)|exact .inr (.inr rfl)|rfl)) ?_
      | (with_reducible first|apply ZS|apply ZT)|((with_reducible apply ZU);rfl)|((with_reducible apply ZV);rfl;decide)|((with_reducible apply ZW);rfl)|refine ZX rfl rfl ?_|refine ZY rfl (by (repeat' first|exact True.intro|refine ⟨?_, ?_⟩|exact .inl rfl|exact .inr (.inl rfl)|exact .inr (.inr rfl)|rfl)) ?_
      | refine ZB rfl ?_|refine ZC rfl ?_
    exact ⟨_, rfl, Nat.le_refl _, fun _ _ _ _ => rfl, rfl⟩
  | cons k r =>
    obtain rfl := hsz.resolve_right (by simp)
    have hkT := hks k (by simp)
    have hc : T[k]? = some T[k] := List.getElem?_eq_getElem hkT
    have hc' := nd_at hc
    have hkl : ((k :: r).map natD).length = r.length + 1 := by simp
    have hk0 : ((k :: r).map natD)[((0 : Int)).toNat]? = some [.int .i64 (k : Nat)] := rfl
    have hS : holeS T ops (fitsOf partE f) o outer right (k :: r) at_ = if (T[k]).a ≠ at_ then none else if outer = false ∨ (T[k]).k ≠ 3 then some (r, (T[k]).b) else match findO ops (T[k]).s with
      | some q => if fitsOf partE f o q right = true then some (r, (T[k]).b) else none
      | none => none := by
      simp only [holeS, hc]
    generalize T[k] = c at hc hc' hS
    obtain ⟨ck, cs, ca, cb, cn⟩ := c
    have hc' : (T.map ndD)[((k : Nat) : Int).toNat]? = some [.int .i64 ck, .str cs, .int .i64 ca, .int .i64 cb, .int .i64 cn] := hc'
    simp only at hS
    by_cases hat : ca = at_
    · rw [if_neg (by simpa using hat)] at hS
      rw [hS]
      have hlk := H.lk
      have hla := H.la
      have k1 : ∀ {x : Ob} {y : Nat}, y < nx → look ((nx, x) :: ob) y = look ob y := fun h => look_tl (by omega) rfl
      have ht1 : ∀ {x : Ob}, look ((nx, x) :: ob) pt = some (.cells [.d (.list tsz (T.map ndD))]) := (k1 H.lt).trans ht
      have hk1 : ∀ {x : Ob}, look ((nx, x) :: ob) pk = some (.cells [.d (.list 1 ((k :: r).map natD))]) := (k1 H.lk).trans hk
      obtain ⟨ob3, hp3⟩ := put_of_look (Ob.cells [.d (.list 1 (r.map natD))]) (hk1 (x := Ob.cells [.d (.int .i64 ck), .d (.str cs), .d (.int .i64 ca), .d (.int .i64 cb), .d (.int .i64 cn)]))
      have hn3 : look ob3 nx = some (.cells [.d (.int .i64 ck), .d (.str cs), .d (.int .i64 ca), .d (.int .i64 cb), .d (.int .i64 cn)]) := (look_put_other hp3 (by omega)).trans look_hd
      have ha3 : look ob3 pa = some (.cells [.d (.int .i64 at_)]) := (look_put_other hp3 (Ne.symm H.ka)).trans ((k1 H.la).trans ha)
      obtain ⟨ob4, hp4⟩ := put_of_look (Ob.cells [.d (.int .i64 cb)]) ha3
      have hn4 : look ob4 nx = some (.cells [.d (.int .i64 ck), .d (.str cs), .d (.int .i64 ca), .d (.int .i64 cb), .d (.int .i64 cn)]) := (look_put_other hp4 (by omega)).trans hn3
      have hk4 : look ob4 pk = some (.cells [.d (.list 1 (r.map natD))]) := (look_put_other hp4 H.ka).trans (look_put_same hp3)
      have ha4 : look ob4 pa = some (.cells [.d (.int .i64 cb)]) := look_put_same hp4
      have hkeep : ∀ y, y < nx → y ≠ pk → y ≠ pa → look ob4 y = look ob y := fun y hy h1 h2 => (look_put_other hp4 h2).trans ((look_put_other hp3 h1).trans (k1 hy))
      have hsl : (((k :: r).map natD).take ((((k :: r).map natD).length : Nat) : Int).toNat).drop (1 : Int).toNat = r.map natD := by
        rw [Int.toNat_natCast, List.take_length]
        rfl
      have he4 := (hkeep pe H.le H.ek H.ea).trans he
      have ho4 := (hkeep po H.lo H.ok H.oa).trans ho
      -- from behind the two regions on
      have tail : ∀ S, S = (if outer = false ∨ ck ≠ 3 then some (r, cb) else match findO ops cs with
          | some q => if fitsOf partE f o q right = true then some (r, cb) else none
          | none => none) → awp cl (c340r.tail 4) (HeapQ [.t 9] (RH S pk pa nx ob)) ⟨[(0, .c (.d (.bool outer))), (1, .c (.d (.bool right))), (2, .c (.ptr pk 0)), (3, .c (.ptr pt 0)), (4, .c (.ptr pa 0)), (5, .c (.ptr pe 0)), (6, .c (.ptr po 0)), (10, .c (.ptr nx 0))], ⟨nx + 1, ob4⟩⟩ := by
        intro S hS
        unfold c340r
        dsimp only [ACode.tail]
        cases outer with
        | false =>
          rw [if_pos (.inl rfl)] at hS
          rw [hS]
          repeat' first | refine GoH ?_ | refine ZB rfl ?_|refine ZC rfl ?_
          exact ⟨_, rfl, Nat.le_succ _, hkeep, rfl, ⟨1, .inl rfl, hk4⟩, ha4⟩
        | true =>
          by_cases hk3 : ck = 3
          · subst hk3
            rw [if_neg (by simp)] at hS
            have hf := T339_eq (sz := esz) (f := f) hops cs
            unfold findR at hf
            unfold envD at hf
            cases hq : findO ops cs with
            | none =>
              rw [hq] at hf hS
              simp only at hS
              rw [hS]
              repeat' first
                | refine GoH ?_
                | refine ZB (ev_load rfl hn4 rfl) ?_
                | refine ZB (ev_load rfl he4 rfl) ?_
                | ((with_reducible apply Z1 (f := 47)); exact h339; rfl; rfl; exact hf; rfl)
                | ((with_reducible apply step_allocA); intro ob5 hb5 hk5)
                | ((with_reducible apply step_storeA); rfl; rfl; rfl; exact hb5; rfl; intro ob6 hb6 hk6)
                | refine ZB rfl ?_|refine ZC rfl ?_
              exact ⟨_, rfl, (by show nx ≤ nx + 1 + 1; omega), fun y hy h1 h2 => (hk6 y (by omega)).trans ((hk5 y (by omega)).trans (hkeep y hy h1 h2)), rfl⟩
            | some q =>
              rw [hq] at hf hS
              simp only at hS
              have hfit := T23_eq partE f o q right
              obtain ⟨p, g, a⟩ := o
              obtain ⟨p', g', a'⟩ := q
              generalize fitsOf partE f ⟨p, g, a⟩ ⟨p', g', a'⟩ right = bb at hfit hS
              cases bb with
              | false =>
                rw [if_neg (by simp)] at hS
                rw [hS]
                repeat' first
                  | refine GoH ?_
                  | refine ZB (ev_load rfl hn4 rfl) ?_
                  | refine ZB (ev_load rfl he4 rfl) ?_
                  | ((with_reducible apply Z1 (f := 47)); exact h339; rfl; rfl; exact hf; rfl)
                  | ((with_reducible apply step_allocA); intro ob5 hb5 hk5)
                  | ((with_reducible apply step_storeA); rfl; rfl; rfl; exact hb5; rfl; intro ob6 hb6 hk6; have he6 := (hk6 pe (by have := H.le; omega)).trans ((hk5 pe (by have := H.le; omega)).trans he4); have ho6 := (hk6 po (by have := H.lo; omega)).trans ((hk5 po (by have := H.lo; omega)).trans ho4))
                  | refine ZB (ev_load rfl he6 rfl) ?_
                  | refine ZB (ev_load rfl ho6 rfl) ?_
                  | refine ZB (ev_load rfl hb6 rfl) ?_
                  | ((with_reducible apply Z1 (f := 49)); exact h23; rfl; rfl; exact hfit; rfl)
                  | refine ZB rfl ?_|refine ZC rfl ?_
                exact ⟨_, rfl, (by show nx ≤ nx + 1 + 1; omega), fun y hy h1 h2 => (hk6 y (by omega)).trans ((hk5 y (by omega)).trans (hkeep y hy h1 h2)), rfl⟩
              | true =>
                rw [if_pos rfl] at hS
                rw [hS]
                repeat' first
                  | refine GoH ?_
                  | refine ZB (ev_load rfl hn4 rfl) ?_
                  | refine ZB (ev_load rfl he4 rfl) ?_
                  | ((with_reducible apply Z1 (f := 47)); exact h339; rfl; rfl; exact hf; rfl)
                  | ((with_reducible apply step_allocA); intro ob5 hb5 hk5)
                  | ((with_reducible apply step_storeA); rfl; rfl; rfl; exact hb5; rfl; intro ob6 hb6 hk6; have he6 := (hk6 pe (by have := H.le; omega)).trans ((hk5 pe (by have := H.le; omega)).trans he4); have ho6 := (hk6 po (by have := H.lo; omega)).trans ((hk5 po (by have := H.lo; omega)).trans ho4))
                  | refine ZB (ev_load rfl he6 rfl) ?_
                  | refine ZB (ev_load rfl ho6 rfl) ?_
                  | refine ZB (ev_load rfl hb6 rfl) ?_
                  | ((with_reducible apply Z1 (f := 49)); exact h23; rfl; rfl; exact hfit; rfl)
                  | refine ZB rfl ?_|refine ZC rfl ?_
                exact ⟨_, rfl, (by show nx ≤ nx + 1 + 1; omega), fun y hy h1 h2 => (hk6 y (by omega)).trans ((hk5 y (by omega)).trans (hkeep y hy h1 h2)), rfl, ⟨1, .inl rfl, (hk6 pk (by omega)).trans ((hk5 pk (by omega)).trans hk4)⟩, (hk6 pa (by omega)).trans ((hk5 pa (by omega)).trans ha4)⟩
          · rw [if_pos (.inr hk3)] at hS
            rw [hS]
            repeat' first
              | refine GoH ?_
              | refine ZB (ev_load rfl hn4 rfl) ?_
              | refine ZB (ev_neq_t rfl rfl hk3) ?_
              | refine ZB rfl ?_|refine ZC rfl ?_
            exact ⟨_, rfl, by show nx ≤ nx + 1; omega, hkeep, rfl, ⟨1, .inl rfl, hk4⟩, ha4⟩
      have tl := tail _ rfl
      clear tail
      generalize (if outer = false ∨ ck ≠ 3 then some (r, cb) else match findO ops cs with
          | some q => if fitsOf partE f o q right = true then some (r, cb) else none
          | none => none) = S at tl ⊢
      unfold c340r at *
      dsimp only [ACode.tail] at tl
      repeat' first
        | ((with_reducible apply weak_keep [0, 1, 2, 3, 4, 5, 6, 10]); rfl; exact tl)
        | refine GoH ?_
        | (with_reducible first | apply ZS | apply ZT)
        | refine ZY (ev_load rfl hk rfl) (by (repeat' first|exact True.intro|refine ⟨?_, ?_⟩|exact .inl rfl|exact .inr (.inl rfl)|exact .inr (.inr rfl)|rfl)) ?_
        | refine ZY (ev_load rfl ht rfl) (by (repeat' first|exact True.intro|refine ⟨?_, ?_⟩|exact .inl rfl|exact .inr (.inl rfl)|exact .inr (.inr rfl)|rfl)) ?_
        | refine ZY (ev_load rfl ha rfl) (by (repeat' first|exact True.intro|refine ⟨?_, ?_⟩|exact .inl rfl|exact .inr (.inl rfl)|exact .inr (.inr rfl)|rfl)) ?_
        | refine ZY (ev_lenT hkl rfl) (by (repeat' first|exact True.intro|refine ⟨?_, ?_⟩|exact .inl rfl|exact .inr (.inl rfl)|exact .inr (.inr rfl)|rfl)) ?_
        | refine ZY (ev_idx rfl rfl (by omega) hk0 rfl) (by (repeat' first|exact True.intro|refine ⟨?_, ?_⟩|exact .inl rfl|exact .inr (.inl rfl)|exact .inr (.inr rfl)|rfl)) ?_
        | refine ZY (ev_idx rfl rfl (by omega) hc' rfl) (by (repeat' first|exact True.intro|refine ⟨?_, ?_⟩|exact .inl rfl|exact .inr (.inl rfl)|exact .inr (.inr rfl)|rfl)) ?_
        | refine ZX rfl (ev_eql_f rfl rfl (by omega)) ?_
        | refine ZX rfl (ev_neq_f rfl rfl hat) ?_
        | refine dstep_allocA (by
            repeat' first
              | exact True.intro
              | refine ⟨?_, ?_⟩
              | exact .inl rfl
              | exact .inr (.inl rfl)
              | exact .inr (.inr (ev_load rfl ht1 rfl))
              | exact .inr (.inr (ev_load rfl hk1 rfl))
              | exact .inr (.inr (ev_idx rfl rfl (by omega) hk0 rfl))
              | exact .inr (.inr (ev_idx rfl rfl (by omega) hc' rfl))
              | exact .inr (.inr rfl)) ?_
        | refine ZZ (Z0 (ev_store rfl rfl rfl look_hd rfl put_hd) ⟨rfl, rfl⟩) (by (repeat' first|exact True.intro|refine ⟨?_, ?_⟩|exact .inl rfl|exact .inr (.inl rfl)|exact .inr (.inr rfl)|rfl)) ?_
        | refine ZY (ev_load rfl hk1 rfl) (by (repeat' first|exact True.intro|refine ⟨?_, ?_⟩|exact .inl rfl|exact .inr (.inl rfl)|exact .inr (.inr rfl)|rfl)) ?_
        | refine ZY (ev_sl_eq rfl rfl rfl (by omega) (by omega) (by omega) hsl) (by (repeat' first|exact True.intro|refine ⟨?_, ?_⟩|exact .inl rfl|exact .inr (.inl rfl)|exact .inr (.inr rfl)|rfl)) ?_
        | refine ZY (ev_load rfl look_hd rfl) (by (repeat' first|exact True.intro|refine ⟨?_, ?_⟩|exact .inl rfl|exact .inr (.inl rfl)|exact .inr (.inr rfl)|rfl)) ?_
        | refine ZZ (Z0 (ev_store rfl rfl rfl hk1 rfl hp3) ⟨rfl, rfl⟩) (by
            repeat' first
              | exact True.intro
              | refine ⟨?_, ?_⟩
              | exact .inl rfl
              | exact .inr (.inl rfl)
              | exact .inr (.inr (ev_load rfl hn3 rfl))
              | exact .inr (.inr rfl)) ?_
        | refine ZZ (Z0 (ev_store rfl rfl rfl ha3 rfl hp4) ⟨rfl, rfl⟩) (by (repeat' first|exact True.intro|refine ⟨?_, ?_⟩|exact .inl rfl|exact .inr (.inl rfl)|exact .inr (.inr rfl)|rfl)) ?_
        | (with_reducible first|apply ZS|apply ZT)|((with_reducible apply ZU);rfl)|((with_reducible apply ZV);rfl;decide)|((with_reducible apply ZW);rfl)|refine ZX rfl rfl ?_|refine ZY rfl (by (repeat' first|exact True.intro|refine ⟨?_, ?_⟩|exact .inl rfl|exact .inr (.inl rfl)|exact .inr (.inr rfl)|rfl)) ?_
        | refine ZB rfl ?_|refine ZC rfl ?_
    · rw [if_pos (by simpa using hat)] at hS
      rw [hS]
      unfold c340r
      repeat' first
        | refine GoH ?_
        | (with_reducible first | apply ZS | apply ZT)
        | refine ZY (ev_load rfl hk rfl) (by (repeat' first|exact True.intro|refine ⟨?_, ?_⟩|exact .inl rfl|exact .inr (.inl rfl)|exact .inr (.inr rfl)|rfl)) ?_
        | refine ZY (ev_load rfl ht rfl) (by (repeat' first|exact True.intro|refine ⟨?_, ?_⟩|exact .inl rfl|exact .inr (.inl rfl)|exact .inr (.inr rfl)|rfl)) ?_
        | refine ZY (ev_load rfl ha rfl) (by (repeat' first|exact True.intro|refine ⟨?_, ?_⟩|exact .inl rfl|exact .inr (.inl rfl)|exact .inr (.inr rfl)|rfl)) ?_
        | refine ZY (ev_lenT hkl rfl) (by (repeat' first|exact True.intro|refine ⟨?_, ?_⟩|exact .inl rfl|exact .inr (.inl rfl)|exact .inr (.inr rfl)|rfl)) ?_
        | refine ZY (ev_idx rfl rfl (by omega) hk0 rfl) (by (repeat' first|exact True.intro|refine ⟨?_, ?_⟩|exact .inl rfl|exact .inr (.inl rfl)|exact .inr (.inr rfl)|rfl)) ?_
        | refine ZY (ev_idx rfl rfl (by omega) hc' rfl) (by (repeat' first|exact True.intro|refine ⟨?_, ?_⟩|exact .inl rfl|exact .inr (.inl rfl)|exact .inr (.inr rfl)|rfl)) ?_
        | refine ZX rfl (ev_eql_f rfl rfl (by omega)) ?_
        | refine ZX rfl (ev_neq_t rfl rfl hat) ?_
        | (with_reducible first|apply ZS|apply ZT)|((with_reducible apply ZU);rfl)|((with_reducible apply ZV);rfl;decide)|((with_reducible apply ZW);rfl)|refine ZX rfl rfl ?_|refine ZY rfl (by (repeat' first|exact True.intro|refine ⟨?_, ?_⟩|exact .inl rfl|exact .inr (.inl rfl)|exact .inr (.inr rfl)|rfl)) ?_
        | refine ZB rfl ?_|refine ZC rfl ?_
      exact ⟨_, rfl, Nat.le_refl _, fun _ _ _ _ => rfl, rfl⟩
end Go.Am
namespace Go.Am
open Go
def tokA (toks : List Tk5) (i : Int) : Tk5 := toks.getD i.toNat noTk
def partsS (T : List Nd5) (ops : List Op3) (fit : Op3 → Op3 → Bool → Bool) (toks : List Tk5) (hi : Int) (o : Op3) : List (List UInt8) → Bool → List Nat → Int → Option (List Nat × Int)
  | [], _, ks, at_ => some (ks, at_)
  | p :: ps, first, ks, at_ => match (if first = true then some (ks, at_) else holeS T ops fit o false false ks at_) with
    | none => none
    | some (ks, at_) => if at_ < 0 ∨ hi ≤ at_ then none else if partK (tokA toks at_) p = true then partsS T ops fit toks hi o ps false ks (at_ + 1) else none
def endS (n : Nd5) : Option (List Nat × Int) → Bool
  | none => false
  | some (ks, at_) => ks.isEmpty && decide (at_ = n.b)
def rightS (T : List Nd5) (ops : List Op3) (fit : Op3 → Op3 → Bool → Bool) (n : Nd5) (o : Op3) (r : Bool) : Option (List Nat × Int) → Bool
  | none => false
  | some (ks, at_) => endS n (if r = true then holeS T ops fit o true true ks at_ else some (ks, at_))
def midS (T : List Nd5) (ops : List Op3) (fit : Op3 → Op3 → Bool → Bool) (toks : List Tk5) (n : Nd5) (o : Op3) (v : SV) : Option (List Nat × Int) → Bool
  | none => false
  | some (ks, at_) => rightS T ops fit n o v.right (partsS T ops fit toks n.b o v.parts true ks at_)
def operS (T : List Nd5) (ops : List Op3) (fit : Op3 → Op3 → Bool → Bool) (toks : List Tk5) (n : Nd5) (ks : List Nat) : Bool := match findO ops n.s with
  | none => false
  | some o => match shapeOf partE o.pat with
    | none => false
    | some v => midS T ops fit toks n o v (if v.left = true then holeS T ops fit o true false ks n.a else some (ks, n.a))
theorem holeS_mem {T : List Nd5} {ops : List Op3} {fit : Op3 → Op3 → Bool → Bool} {o : Op3} {u r : Bool} {ks ks' : List Nat} {a a' : Int} (h : holeS T ops fit o u r ks a = some (ks', a')) : ∀ k ∈ ks', k ∈ ks := by
  cases ks with
  | nil => cases h
  | cons k t =>
    have : ks' = t := by
      simp only [holeS] at h
      split at h
      · cases h
      · split at h
        · cases h
        · split at h
          · simp only [Option.some.injEq, Prod.mk.injEq] at h; exact h.1.symm
          · split at h
            · split at h
              · simp only [Option.some.injEq, Prod.mk.injEq] at h; exact h.1.symm
              · cases h
            · cases h
    subst this
    exact fun k hk => List.mem_cons_of_mem _ hk
structure OH (T : List Nd5) (ops : List Op3) (f : Nat → Int) (o : Op3) (n : Nd5) (v : SV) (esz tsz psz nx : Nat) (ob : List (Nat × Ob)) (ks : List Nat) (at_ : Int) : Prop where
  H : HC T ops f o esz tsz 3 1 6 0 4 nx ob
  hs : look ob 5 = some (.cells [.d (.list psz (ofStrs v.parts)), .d (.bool v.left), .d (.bool v.right)])
  hn : look ob 2 = some (.cells ((ndD n).map .d))
  hk : ∃ sz, (sz = 1 ∨ ks = []) ∧ look ob 3 = some (.cells [.d (.list sz (ks.map natD))])
  ha : look ob 6 = some (.cells [.d (.int .i64 at_)])
  h7 : 7 ≤ nx
theorem OH.hole {T : List Nd5} {ops : List Op3} {f : Nat → Int} {o : Op3} {n : Nd5} {v : SV} {esz tsz psz nx nx' : Nat} {ob ob' : List (Nat × Ob)} {ks ks' : List Nat} {a a' : Int} {w : V} (h : OH T ops f o n v esz tsz psz nx ob ks a) {S : Option (List Nat × Int)} (r : RH S 3 6 nx ob w ⟨nx', ob'⟩) (hS : S = some (ks', a')) : OH T ops f o n v esz tsz psz nx' ob' ks' a' := by
  subst hS
  obtain ⟨r1, r2, _, r4, r5⟩ := r
  have h7 := h.h7
  exact ⟨h.H.keep r1 r2, (r2 5 (by omega) (by omega) (by omega)).trans h.hs, (r2 2 (by omega) (by omega) (by omega)).trans h.hn, r4, r5, Nat.le_trans h7 r1⟩
noncomputable def cl340 : Call := tblh [(49, T23 partE), (47, T339)] []
theorem fine340 : Fine cl340 := fine_nil _
noncomputable def cl326 : Call := tblh [(14, G19 partE), (50, T27), (47, T339)] [(48, wpOf cl340 c340r [.t 9])]
abbrev envO (l : List (List D)) (lsz : Nat) : Env := [(1, .c (.d (.list lsz l))), (5, .c (.ptr 0 0)), (7, .c (.ptr 1 0)), (8, .c (.ptr 2 0)), (9, .c (.ptr 3 0)), (11, .c (.ptr 4 0)), (13, .c (.ptr 5 0)), (15, .c (.ptr 6 0)), (16, .c (.clo 48 [.ptr 3 0, .ptr 1 0, .ptr 6 0, .ptr 0 0, .ptr 4 0]))]
section
variable {T : List Nd5} {ops : List Op3} {f : Nat → Int} {o : Op3} {n : Nd5} {v : SV} {esz tsz psz lsz nx : Nat} {ob : List (Nat × Ob)} {ks : List Nat} {at_ : Int} {toks : List Tk5}
theorem OH.call (h : OH T ops f o n v esz tsz psz nx ob ks at_) (hops : ops.length ≤ 1000) (hks : ∀ k ∈ ks, k < T.length) (u r : Bool) : wpOf cl340 c340r [.t 9] [.c (.d (.bool u)), .c (.d (.bool r)), .c (.ptr 3 0), .c (.ptr 1 0), .c (.ptr 6 0), .c (.ptr 0 0), .c (.ptr 4 0)] ⟨nx, ob⟩ (RH (holeS T ops (fitsOf partE f) o u r ks at_) 3 6 nx ob) := by
  obtain ⟨sz, h1, h2⟩ := h.hk
  exact w340 rfl rfl h.H hops h1 hks h2 h.ha
set_option maxRecDepth 8000 in
set_option maxHeartbeats 4000000 in
theorem w326d (h : OH T ops f o n v esz tsz psz nx ob ks at_) : awp cl326 (c326r.tail 9) (PureQ [.t 10] (.c (.bool (endS n (some (ks, at_)))))) ⟨envO (toks.map tkD) lsz, ⟨nx, ob⟩⟩ := by
  obtain ⟨sz, _, hk⟩ := h.hk
  have ha := h.ha
  have hn := h.hn
  unfold endS envO c326r
  dsimp only [ACode.tail]
  obtain ⟨nk, ns, na, nb, nn⟩ := n
  simp only
  cases ks with
  | nil =>
    by_cases hb : at_ = nb
    · have e : (([] : List Nat).isEmpty && decide (at_ = nb)) = true := by simp [hb]
      rw [e]
      repeat' first
        | refine GoH ?_
        | refine ZB (ev_load rfl hk rfl) ?_
        | refine ZB (ev_load rfl ha rfl) ?_
        | refine ZB (ev_load rfl hn rfl) ?_
        | refine ZB (ev_eql_t rfl rfl hb) ?_
        | refine ZB rfl ?_|refine ZC rfl ?_
      exact ⟨_, rfl, rfl⟩
    · have e : (([] : List Nat).isEmpty && decide (at_ = nb)) = false := by simp [hb]
      rw [e]
      repeat' first
        | refine GoH ?_
        | refine ZB (ev_load rfl hk rfl) ?_
        | refine ZB (ev_load rfl ha rfl) ?_
        | refine ZB (ev_load rfl hn rfl) ?_
        | refine ZB (ev_eql_f rfl rfl hb) ?_
        | refine ZB rfl ?_|refine ZC rfl ?_
      exact ⟨_, rfl, rfl⟩
  | cons k r =>
    have hkl : ((k :: r).map natD).length = r.length + 1 := by simp
    have e : ((k :: r).isEmpty && decide (at_ = nb)) = false := rfl
    rw [e]
    repeat' first
      | refine GoH ?_
      | refine ZB (ev_load rfl hk rfl) ?_
      | refine ZB (ev_lenT hkl rfl) ?_
      | refine ZB (ev_eql_f rfl rfl (by omega)) ?_
      | refine ZB rfl ?_|refine ZC rfl ?_
    exact ⟨_, rfl, rfl⟩
set_option maxRecDepth 8000 in
set_option maxHeartbeats 4000000 in
theorem w326c (h : OH T ops f o n v esz tsz psz nx ob ks at_) (hops : ops.length ≤ 1000) (hks : ∀ k ∈ ks, k < T.length) : awp cl326 (c326r.tail 8) (PureQ [.t 10] (.c (.bool (rightS T ops (fitsOf partE f) n o v.right (some (ks, at_)))))) ⟨envO (toks.map tkD) lsz, ⟨nx, ob⟩⟩ := by
  have hs := h.hs
  have hcall := h.call hops hks true true
  have tl := fun nx ob ks at_ (h : OH T ops f o n v esz tsz psz nx ob ks at_) => w326d (lsz := lsz) (toks := toks) h
  unfold rightS
  simp only
  generalize v.right = vr at hs
  unfold envO cl326 c326r at *
  dsimp only [ACode.tail] at *
  cases vr with
  | false =>
    have tl := tl _ _ _ _ h
    simp only [Bool.false_eq_true, if_false]
    repeat' first
      | ((with_reducible apply weak_keep [1, 5, 7, 8, 9, 11, 13, 15, 16]); rfl; exact tl)
      | refine GoH ?_
      | refine ZB (ev_load rfl hs rfl) ?_
      | refine ZB rfl ?_|refine ZC rfl ?_
  | true =>
    simp only [if_true]
    cases hS : holeS T ops (fitsOf partE f) o true true ks at_ with
    | none =>
      repeat' first
        | refine GoH ?_
        | refine ZB (ev_load rfl hs rfl) ?_
        | ((with_reducible apply step_vR); rfl; rfl; exact fun _ _ _ hk => wpOf_one fine340 hk; exact hcall; intro w nx2 ob2 hR; have hw := RH_bool hR; rw [hS] at hw; obtain rfl := hw)
        | refine ZB rfl ?_|refine ZC rfl ?_
      exact ⟨_, rfl, rfl⟩
    | some x =>
      obtain ⟨ks', a'⟩ := x
      have tl := fun w nx2 ob2 (hR : RH (holeS T ops (fitsOf partE f) o true true ks at_) 3 6 nx ob w ⟨nx2, ob2⟩) => tl nx2 ob2 ks' a' (h.hole hR hS)
      repeat' first
        | ((with_reducible apply weak_keep [1, 5, 7, 8, 9, 11, 13, 15, 16]); rfl; exact tl _ _ _ hR)
        | refine GoH ?_
        | refine ZB (ev_load rfl hs rfl) ?_
        | ((with_reducible apply step_vR); rfl; rfl; exact fun _ _ _ hk => wpOf_one fine340 hk; exact hcall; intro w nx2 ob2 hR; have hw := RH_bool hR; rw [hS] at hw; obtain rfl := hw)
        | refine ZB rfl ?_|refine ZC rfl ?_
end
end Go.Am
namespace Go.Am
open Go
section
variable {T : List Nd5} {ops : List Op3} {f : Nat → Int} {o : Op3} {n : Nd5} {v : SV} {esz tsz psz lsz nx : Nat} {ob : List (Nat × Ob)} {ks : List Nat} {at_ : Int} {toks : List Tk5}
theorem OH.at1 (h : OH T ops f o n v esz tsz psz nx ob ks at_) {nx' : Nat} {ob' : List (Nat × Ob)} {b : Int} (hn : nx ≤ nx') (h6 : look ob' 6 = some (.cells [.d (.int .i64 b)])) (hk : ∀ y, y ≠ 6 → look ob' y = look ob y) : OH T ops f o n v esz tsz psz nx' ob' ks b := by
  obtain ⟨sz, h1, h2⟩ := h.hk
  exact ⟨h.H.keep hn (fun y _ _ h6 => hk y h6), (hk 5 (by omega)).trans h.hs, (hk 2 (by omega)).trans h.hn, ⟨sz, h1, (hk 3 (by omega)).trans h2⟩, h6, Nat.le_trans h.h7 hn⟩
theorem tok_of {at_ : Int} (h0 : 0 ≤ at_) (h1 : at_ < (toks.length : Nat)) : (toks.map tkD)[at_.toNat]? = some (tkD (tokA toks at_)) := by
  unfold tokA
  rw [List.getElem?_map, List.getD_eq_getElem?_getD, List.getElem?_eq_getElem (by omega)]
  rfl
theorem strs_at {l : List (List UInt8)} {j : Nat} {p : List UInt8} (h : l[j]? = some p) : (ofStrs l)[((j : Nat) : Int).toNat]? = some [.str p] := by
  rw [Int.toNat_natCast]
  unfold ofStrs
  rw [List.getElem?_map, h]
  rfl
set_option maxRecDepth 8000 in
set_option maxHeartbeats 16000000 in
theorem w326b (h : OH T ops f o n v esz tsz psz nx ob ks at_) (hops : ops.length ≤ 1000) (hks : ∀ k ∈ ks, k < T.length) (hb : n.b ≤ (toks.length : Nat)) (htl : toks.length ≤ 1000000) (hv : v.parts.length ≤ 4) :
    awp cl326 (c326r.tail 7) (PureQ [.t 10] (.c (.bool (midS T ops (fitsOf partE f) toks n o v (some (ks, at_)))))) ⟨envO (toks.map tkD) lsz, ⟨nx, ob⟩⟩ := by
  have tl := fun nx ob ks at_ (h : OH T ops f o n v esz tsz psz nx ob ks at_) (hks : ∀ k ∈ ks, k < T.length) => w326c (lsz := lsz) (toks := toks) h hops hks
  have hs := h.hs
  unfold midS
  simp only
  have hvl : (ofStrs v.parts).length = v.parts.length := by unfold ofStrs; exact List.length_map ..
  obtain ⟨R, hR0⟩ : ∃ R, R = partsS T ops (fitsOf partE f) toks n.b o v.parts true ks at_ := ⟨_, rfl⟩
  rw [← hR0]
  unfold envO cl326 c326r at *
  dsimp only [ACode.tail] at *
  repeat' first
    | refine GoH ?_
    | refine ZB (ev_load rfl hs rfl) ?_
    | refine ZB rfl ?_|refine ZC rfl ?_
  refine awp_loop (fun q st => ∃ (j nx1 : Nat) (ob1 : List (Nat × Ob)) (ks1 : List Nat) (a1 : Int), j ≤ v.parts.length ∧ v.parts.length - j < q ∧ OH T ops f o n v esz tsz psz nx1 ob1 ks1 a1 ∧ (∀ k ∈ ks1, k < T.length) ∧ partsS T ops (fitsOf partE f) toks n.b o (v.parts.drop j) (decide (j = 0)) ks1 a1 = R ∧
    st = ⟨[(1, .c (.d (.list lsz (toks.map tkD)))), (5, .c (.ptr 0 0)), (7, .c (.ptr 1 0)), (8, .c (.ptr 2 0)), (9, .c (.ptr 3 0)), (11, .c (.ptr 4 0)), (13, .c (.ptr 5 0)), (15, .c (.ptr 6 0)), (16, .c (.clo 48 [.ptr 3 0, .ptr 1 0, .ptr 6 0, .ptr 0 0, .ptr 4 0])), (49, .c (.d (.list psz (ofStrs v.parts)))), (50, .c (.d (.int .i64 ((ofStrs v.parts).length : Nat)))), (51, .c (.d (.int .i64 (j : Nat))))], ⟨nx1, ob1⟩⟩) (v.parts.length + 1) ?_ (by rintro st ⟨j, _, _, _, _, _, h, _⟩; omega) ?_
  · exact weak_keep [1, 5, 7, 8, 9, 11, 13, 15, 16, 49, 50, 51] rfl ⟨0, nx, ob, ks, at_, by omega, by omega, h, hks, hR0.symm, rfl⟩
  · rintro q K hK st ⟨j, nx1, ob1, ks1, a1, hj, hq, h1, hm1, hpart, rfl⟩
    have hs1 := h1.hs
    by_cases hend : j = v.parts.length
    · subst hend
      rw [List.drop_length] at hpart
      have hpart : some (ks1, a1) = R := hpart
      have tl := tl _ _ _ _ h1 hm1
      rw [hpart] at tl
      repeat' first
        | ((with_reducible apply weak_keep [1, 5, 7, 8, 9, 11, 13, 15, 16]); rfl; exact tl)
        | refine GoH ?_
        | refine ZB (ev_lss_f rfl rfl (by omega)) ?_
        | refine ZB rfl ?_|refine ZC rfl ?_
    · have hp : v.parts[j]? = some v.parts[j] := List.getElem?_eq_getElem (by omega)
      have hdrop : v.parts.drop j = v.parts[j] :: v.parts.drop (j + 1) := List.drop_eq_getElem_cons (by omega)
      rw [hdrop] at hpart
      generalize v.parts[j] = p at hp hpart
      have hp' := strs_at hp
      have hcall := h1.call hops hm1 false false
      clear tl
      by_cases hj0 : j = 0
      · subst hj0
        simp only [partsS, decide_true, if_true] at hpart
        have ha2 := h1.ha
        have hn2 := h1.hn
        by_cases c1 : a1 < 0
        · rw [if_pos (.inl c1)] at hpart
          rw [← hpart]
          repeat' first
                  | refine GoH ?_
                  | refine ZB (ev_load rfl hs1 rfl) ?_
                  | refine ZB (ev_load rfl ha2 rfl) ?_
                  | refine ZB (ev_load rfl hn2 rfl) ?_
                  | refine ZB (ev_lss_t (b := ((ofStrs v.parts).length : Nat)) rfl rfl (by omega)) ?_
                  | refine ZB (ev_idx rfl rfl (by omega) hp' rfl) ?_
                  | refine ZB (ev_gtr_f (b := 0) rfl rfl (by omega)) ?_
                  | refine ZB (ev_lss_t rfl rfl c1) ?_
                  | refine ZB rfl ?_|refine ZC rfl ?_
          exact ⟨_, rfl, rfl⟩
        by_cases c2 : n.b ≤ a1
        · rw [if_pos (.inr c2)] at hpart
          rw [← hpart]
          repeat' first
                  | refine GoH ?_
                  | refine ZB (ev_load rfl hs1 rfl) ?_
                  | refine ZB (ev_load rfl ha2 rfl) ?_
                  | refine ZB (ev_load rfl hn2 rfl) ?_
                  | refine ZB (ev_lss_t (b := ((ofStrs v.parts).length : Nat)) rfl rfl (by omega)) ?_
                  | refine ZB (ev_idx rfl rfl (by omega) hp' rfl) ?_
                  | refine ZB (ev_gtr_f (b := 0) rfl rfl (by omega)) ?_
                  | refine ZB (ev_lss_f rfl rfl (by omega)) ?_
                  | refine ZB (ev_geq_t rfl rfl (by omega)) ?_
                  | refine ZB rfl ?_|refine ZC rfl ?_
          exact ⟨_, rfl, rfl⟩
        rw [if_neg (by omega)] at hpart
        have ht := tok_of (toks := toks) (at_ := a1) (by omega) (by omega)
        have h27 := T27_eq (t := tokA toks a1) (n := p)
        generalize tokA toks a1 = tk at ht h27 hpart
        obtain ⟨tk1, tk2, tk3, tk4, tk5⟩ := tk
        simp only [tkD] at ht h27
        cases hq : partK ⟨tk1, tk2, tk3, tk4, tk5⟩ p with
        | false =>
          rw [hq] at hpart h27
          rw [if_neg (by simp)] at hpart
          rw [← hpart]
          repeat' first
                  | refine GoH ?_
                  | refine ZB (ev_load rfl hs1 rfl) ?_
                  | refine ZB (ev_load rfl ha2 rfl) ?_
                  | refine ZB (ev_load rfl hn2 rfl) ?_
                  | refine ZB (ev_lss_t (b := ((ofStrs v.parts).length : Nat)) rfl rfl (by omega)) ?_
                  | refine ZB (ev_idx rfl rfl (by omega) hp' rfl) ?_
                  | refine ZB (ev_gtr_f (b := 0) rfl rfl (by omega)) ?_
                  | refine ZB (ev_lss_f rfl rfl (by omega)) ?_
                  | refine ZB (ev_geq_f rfl rfl (by omega)) ?_
                  | refine ZB (ev_idx rfl rfl (by omega) ht rfl) ?_
                  | ((with_reducible apply Z1 (f := 50));rfl;rfl;rfl;exact h27;rfl)
                  | refine ZB rfl ?_|refine ZC rfl ?_
          exact ⟨_, rfl, rfl⟩
        | true =>
          rw [hq] at hpart h27
          rw [if_pos rfl] at hpart
          repeat' first
                  | refine GoH ?_
                  | refine ZB (ev_load rfl hs1 rfl) ?_
                  | refine ZB (ev_load rfl ha2 rfl) ?_
                  | refine ZB (ev_load rfl hn2 rfl) ?_
                  | refine ZB (ev_lss_t (b := ((ofStrs v.parts).length : Nat)) rfl rfl (by omega)) ?_
                  | refine ZB (ev_idx rfl rfl (by omega) hp' rfl) ?_
                  | refine ZB (ev_gtr_f (b := 0) rfl rfl (by omega)) ?_
                  | refine ZB (ev_lss_f rfl rfl (by omega)) ?_
                  | refine ZB (ev_geq_f rfl rfl (by omega)) ?_
                  | refine ZB (ev_idx rfl rfl (by omega) ht rfl) ?_
                  | ((with_reducible apply Z1 (f := 50));rfl;rfl;rfl;exact h27;rfl)
                  | ((with_reducible apply step_storeA); rfl; rfl; rfl; exact ha2; rfl; intro ob3 hb3 hk3)
                  | refine ZB (ev_add rfl rfl (by omega) (by omega)) ?_
                  | refine ZB rfl ?_|refine ZC rfl ?_
          exact hK _ (weak_keep [1, 5, 7, 8, 9, 11, 13, 15, 16, 49, 50, 51] rfl ⟨1, _, _, ks1, _, by omega, by omega, h1.at1 (Nat.le_refl _) hb3 hk3, hm1, hpart, rfl⟩)
      · simp only [partsS, hj0, decide_false, Bool.false_eq_true, if_false] at hpart
        cases hS : holeS T ops (fitsOf partE f) o false false ks1 a1 with
        | none =>
          rw [hS] at hpart
          simp only at hpart
          rw [← hpart]
          repeat' first
                  | refine GoH ?_
                  | refine ZB (ev_load rfl hs1 rfl) ?_
                  | refine ZB (ev_lss_t (b := ((ofStrs v.parts).length : Nat)) rfl rfl (by omega)) ?_
                  | refine ZB (ev_idx rfl rfl (by omega) hp' rfl) ?_
                  | refine ZB (ev_gtr_t (b := 0) rfl rfl (by omega)) ?_
                  | ((with_reducible apply step_vR); rfl; rfl; exact fun _ _ _ hk => wpOf_one fine340 hk; exact hcall; intro w nx2 ob2 hR; have hw := RH_bool hR; rw [hS] at hw; obtain rfl := hw)
                  | refine ZB rfl ?_|refine ZC rfl ?_
          exact ⟨_, rfl, rfl⟩
        | some x =>
          obtain ⟨ks2, a2⟩ := x
          have hm2 : ∀ k ∈ ks2, k < T.length := fun k hk => hm1 k (holeS_mem hS k hk)
          rw [hS] at hpart
          simp only at hpart
          by_cases c1 : a2 < 0
          · rw [if_pos (.inl c1)] at hpart
            rw [← hpart]
            repeat' first
                    | refine GoH ?_
                    | refine ZB (ev_load rfl hs1 rfl) ?_
                    | refine ZB (ev_load rfl ha2 rfl) ?_
                    | refine ZB (ev_load rfl hn2 rfl) ?_
                    | refine ZB (ev_lss_t (b := ((ofStrs v.parts).length : Nat)) rfl rfl (by omega)) ?_
                    | refine ZB (ev_idx rfl rfl (by omega) hp' rfl) ?_
                    | refine ZB (ev_gtr_t (b := 0) rfl rfl (by omega)) ?_
                    | ((with_reducible apply step_vR); rfl; rfl; exact fun _ _ _ hk => wpOf_one fine340 hk; exact hcall; intro w nx2 ob2 hR; have hw := RH_bool hR; rw [hS] at hw; obtain rfl := hw; have h2 := h1.hole hR hS; have ha2 := h2.ha; have hn2 := h2.hn)
                    | refine ZB (ev_lss_t rfl rfl c1) ?_
                    | refine ZB rfl ?_|refine ZC rfl ?_
            exact ⟨_, rfl, rfl⟩
          by_cases c2 : n.b ≤ a2
          · rw [if_pos (.inr c2)] at hpart
            rw [← hpart]
            repeat' first
                    | refine GoH ?_
                    | refine ZB (ev_load rfl hs1 rfl) ?_
                    | refine ZB (ev_load rfl ha2 rfl) ?_
                    | refine ZB (ev_load rfl hn2 rfl) ?_
                    | refine ZB (ev_lss_t (b := ((ofStrs v.parts).length : Nat)) rfl rfl (by omega)) ?_
                    | refine ZB (ev_idx rfl rfl (by omega) hp' rfl) ?_
                    | refine ZB (ev_gtr_t (b := 0) rfl rfl (by omega)) ?_
                    | ((with_reducible apply step_vR); rfl; rfl; exact fun _ _ _ hk => wpOf_one fine340 hk; exact hcall; intro w nx2 ob2 hR; have hw := RH_bool hR; rw [hS] at hw; obtain rfl := hw; have h2 := h1.hole hR hS; have ha2 := h2.ha; have hn2 := h2.hn)
                    | refine ZB (ev_lss_f rfl rfl (by omega)) ?_
                    | refine ZB (ev_geq_t rfl rfl (by omega)) ?_
                    | refine ZB rfl ?_|refine ZC rfl ?_
            exact ⟨_, rfl, rfl⟩
          rw [if_neg (by omega)] at hpart
          have ht := tok_of (toks := toks) (at_ := a2) (by omega) (by omega)
          have h27 := T27_eq (t := tokA toks a2) (n := p)
          generalize tokA toks a2 = tk at ht h27 hpart
          obtain ⟨tk1, tk2, tk3, tk4, tk5⟩ := tk
          simp only [tkD] at ht h27
          cases hq : partK ⟨tk1, tk2, tk3, tk4, tk5⟩ p with
          | false =>
            rw [hq] at hpart h27
            rw [if_neg (by simp)] at hpart
            rw [← hpart]
            repeat' first
                    | refine GoH ?_
                    | refine ZB (ev_load rfl hs1 rfl) ?_
                    | refine ZB (ev_load rfl ha2 rfl) ?_
                    | refine ZB (ev_load rfl hn2 rfl) ?_
                    | refine ZB (ev_lss_t (b := ((ofStrs v.parts).length : Nat)) rfl rfl (by omega)) ?_
                    | refine ZB (ev_idx rfl rfl (by omega) hp' rfl) ?_
                    | refine ZB (ev_gtr_t (b := 0) rfl rfl (by omega)) ?_
                    | ((with_reducible apply step_vR); rfl; rfl; exact fun _ _ _ hk => wpOf_one fine340 hk; exact hcall; intro w nx2 ob2 hR; have hw := RH_bool hR; rw [hS] at hw; obtain rfl := hw; have h2 := h1.hole hR hS; have ha2 := h2.ha; have hn2 := h2.hn)
                    | refine ZB (ev_lss_f rfl rfl (by omega)) ?_
                    | refine ZB (ev_geq_f rfl rfl (by omega)) ?_
                    | refine ZB (ev_idx rfl rfl (by omega) ht rfl) ?_
                    | ((with_reducible apply Z1 (f := 50));rfl;rfl;rfl;exact h27;rfl)
                    | refine ZB rfl ?_|refine ZC rfl ?_
            exact ⟨_, rfl, rfl⟩
          | true =>
            rw [hq] at hpart h27
            rw [if_pos rfl] at hpart
            repeat' first
                    | refine GoH ?_
                    | refine ZB (ev_load rfl hs1 rfl) ?_
                    | refine ZB (ev_load rfl ha2 rfl) ?_
                    | refine ZB (ev_load rfl hn2 rfl) ?_
                    | refine ZB (ev_lss_t (b := ((ofStrs v.parts).length : Nat)) rfl rfl (by omega)) ?_
                    | refine ZB (ev_idx rfl rfl (by omega) hp' rfl) ?_
                    | refine ZB (ev_gtr_t (b := 0) rfl rfl (by omega)) ?_
                    | ((with_reducible apply step_vR); rfl; rfl; exact fun _ _ _ hk => wpOf_one fine340 hk; exact hcall; intro w nx2 ob2 hR; have hw := RH_bool hR; rw [hS] at hw; obtain rfl := hw; have h2 := h1.hole hR hS; have ha2 := h2.ha; have hn2 := h2.hn)
                    | refine ZB (ev_lss_f rfl rfl (by omega)) ?_
                    | refine ZB (ev_geq_f rfl rfl (by omega)) ?_
                    | refine ZB (ev_idx rfl rfl (by omega) ht rfl) ?_
                    | ((with_reducible apply Z1 (f := 50));rfl;rfl;rfl;exact h27;rfl)
                    | ((with_reducible apply step_storeA); rfl; rfl; rfl; exact ha2; rfl; intro ob3 hb3 hk3)
                    | refine ZB (ev_add rfl rfl (by omega) (by omega)) ?_
                    | refine ZB rfl ?_|refine ZC rfl ?_
            exact hK _ (weak_keep [1, 5, 7, 8, 9, 11, 13, 15, 16, 49, 50, 51] rfl ⟨j + 1, _, _, ks2, _, by omega, by omega, h2.at1 (Nat.le_refl _) hb3 hk3, hm2, hpart, rfl⟩)
end
end Go.Am
namespace Go.Am
open Go
section
variable {T : List Nd5} {ops : List Op3} {f : Nat → Int} {o : Op3} {n : Nd5} {v : SV} {esz tsz psz lsz nx : Nat} {ob : List (Nat × Ob)} {ks : List Nat} {at_ : Int} {toks : List Tk5}
set_option maxRecDepth 8000 in
set_option maxHeartbeats 4000000 in
theorem w326a (h : OH T ops f o n v esz tsz psz nx ob ks at_) (hops : ops.length ≤ 1000) (hks : ∀ k ∈ ks, k < T.length) (hb : n.b ≤ (toks.length : Nat)) (htl : toks.length ≤ 1000000) (hv : v.parts.length ≤ 4) :
    awp cl326 (c326r.tail 6) (PureQ [.t 10] (.c (.bool (midS T ops (fitsOf partE f) toks n o v (if v.left = true then holeS T ops (fitsOf partE f) o true false ks at_ else some (ks, at_)))))) ⟨envO (toks.map tkD) lsz, ⟨nx, ob⟩⟩ := by
  have hs := h.hs
  have hcall := h.call hops hks true false
  have tl := fun nx ob ks at_ (h : OH T ops f o n v esz tsz psz nx ob ks at_) (hks : ∀ k ∈ ks, k < T.length) => w326b (lsz := lsz) h hops hks hb htl hv
  have hvl : v.left = true ∨ v.left = false := by cases v.left <;> simp
  unfold envO cl326 c326r at *
  dsimp only [ACode.tail] at *
  rcases hvl with hvl | hvl
  · rw [hvl] at hs
    rw [if_pos hvl]
    cases hS : holeS T ops (fitsOf partE f) o true false ks at_ with
    | none =>
      repeat' first
        | refine GoH ?_
        | refine ZB (ev_load rfl hs rfl) ?_
        | ((with_reducible apply step_vR); rfl; rfl; exact fun _ _ _ hk => wpOf_one fine340 hk; exact hcall; intro w nx2 ob2 hR; have hw := RH_bool hR; rw [hS] at hw; obtain rfl := hw)
        | refine ZB rfl ?_|refine ZC rfl ?_
      exact ⟨_, rfl, rfl⟩
    | some x =>
      obtain ⟨ks', a'⟩ := x
      have tl := fun w nx2 ob2 (hR : RH (holeS T ops (fitsOf partE f) o true false ks at_) 3 6 nx ob w ⟨nx2, ob2⟩) => tl nx2 ob2 ks' a' (h.hole hR hS) (fun k hk => hks k (holeS_mem hS k hk))
      repeat' first
        | ((with_reducible apply weak_keep [1, 5, 7, 8, 9, 11, 13, 15, 16]); rfl; exact tl _ _ _ hR)
        | refine GoH ?_
        | refine ZB (ev_load rfl hs rfl) ?_
        | ((with_reducible apply step_vR); rfl; rfl; exact fun _ _ _ hk => wpOf_one fine340 hk; exact hcall; intro w nx2 ob2 hR; have hw := RH_bool hR; rw [hS] at hw; obtain rfl := hw)
        | refine ZB rfl ?_|refine ZC rfl ?_
  · have tl := tl _ _ _ _ h hks
    rw [hvl] at hs
    rw [if_neg (by rw [hvl]; simp)]
    repeat' first
      | ((with_reducible apply weak_keep [1, 5, 7, 8, 9, 11, 13, 15, 16]); rfl; exact tl)
      | refine GoH ?_
      | refine ZB (ev_load rfl hs rfl) ?_
      | refine ZB rfl ?_|refine ZC rfl ?_
end
structure OX where
  esz : Nat
  ops : List Op3
  f : Nat → Int
  lsz : Nat
  toks : List Tk5
  tsz : Nat
  T : List Nd5
  n : Nd5
  ksz : Nat
  ks : List Nat
def OX.ok (x : OX) : Prop := x.ops.length ≤ 1000 ∧ x.toks.length ≤ 1000000 ∧ x.T.length ≤ 1000000 ∧ x.n.b ≤ (x.toks.length : Nat) ∧ (∀ k ∈ x.ks, k < x.T.length) ∧ (x.ksz = 1 ∨ x.ks = [])
def OX.args (x : OX) : List DV := [.agg (envD x.esz x.ops x.f), .c (.list x.lsz (x.toks.map tkD)), .c (.list x.tsz (x.T.map ndD)), .agg (ndD x.n), .c (.list x.ksz (x.ks.map natD))]
def OX.res (x : OX) : DV := .c (.bool (operS x.T x.ops (fitsOf partE x.f) x.toks x.n x.ks))
noncomputable def T326 : List DV → Option DV := fam OX.args OX.ok OX.res
theorem nats_inj : ∀ {l l' : List Nat}, l.map natD = l'.map natD → l = l'
  | [], [], _ => rfl
  | [], _ :: _, h => by cases h
  | _ :: _, [], h => by cases h
  | a :: r, b :: r', h => by
    simp only [List.map_cons, List.cons.injEq, natD, D.int.injEq, true_and, and_true] at h
    rw [nats_inj h.2, show a = b by omega]
theorem fitsOf_rows {f f' : Nat → Int} (h : ∀ x, x < 10 → f' x = f x) : fitsOf partE f' = fitsOf partE f := by
  funext o k b
  simp only [fitsOf, fitsV, tightI_eq h]
theorem T326_eq (x : OX) (h : x.ok) : T326 x.args = some x.res := by
  refine fam_eq (ι := OX) x h ?_
  intro y _ e
  obtain ⟨esz, ops, f, lsz, toks, tsz, T, n, ksz, ks⟩ := x
  obtain ⟨esz', ops', f', lsz', toks', tsz', T', n', ksz', ks'⟩ := y
  simp only [OX.args, List.cons.injEq, DV.agg.injEq, DV.c.injEq, D.list.injEq, and_true] at e
  obtain ⟨h1, ⟨_, h2⟩, ⟨_, h3⟩, h4, _, h5⟩ := e
  obtain ⟨rfl, h6⟩ := envD_inj h1
  obtain rfl := tks_inj h2
  obtain rfl := nds_inj h3
  obtain rfl := ndD_inj h4
  obtain rfl := nats_inj h5
  simp only [OX.res]
  first | rw [fitsOf_rows h6] | rw [fitsOf_rows fun x hx => (h6 x hx).symm]
set_option maxRecDepth 8000 in
set_option maxHeartbeats 8000000 in
theorem w326 (x : OX) (hx : x.ok) : awp cl326 c326r (PureQ [.t 10] x.res) ⟨argE 0 (dvArgs x.args), ⟨0, []⟩⟩ := by
  obtain ⟨esz, ops, f, lsz, toks, tsz, T, n, ksz, ks⟩ := x
  obtain ⟨hops, htl, _, hb, hks, hsz⟩ := hx
  simp only at hops htl hb hks hsz
  simp only [OX.args, OX.res]
  have hf := T339_eq (sz := esz) (f := f) hops n.s
  unfold findR at hf
  unfold operS
  cases hq : findO ops n.s with
  | none =>
    rw [hq] at hf
    obtain ⟨e, h19⟩ := h19_sh noOp
    obtain ⟨sz, hsd, _⟩ := shD_eq partE noOp
    rw [hsd] at h19
    simp only at hf ⊢
    generalize ofStrs (shOf partE noOp).parts = ps at h19
    generalize (shOf partE noOp).left = sl at h19
    generalize (shOf partE noOp).right = sr at h19
    obtain ⟨nk, ns, na, nb, nn⟩ := n
    unfold cl326 c326r
    unfold envD at *
    repeat' first
      | refine GoH ?_
      | ((with_reducible apply Z1 (f := 47));rfl;rfl;rfl;exact hf;rfl)
      | ((with_reducible apply Z1 (f := 14));rfl;rfl;rfl;exact h19;rfl)
      | refine ZB rfl ?_|refine ZC rfl ?_
    exact ⟨_, rfl, rfl⟩
  | some o =>
    rw [hq] at hf
    simp only at hf ⊢
    cases hS : shapeOf partE o.pat with
    | none =>
      have h19 : G19 partE [.c (.str o.pat)] = some (.tup [.agg [.list 0 [], .bool false, .bool false], .c (.int .i64 23)]) := by simp only [G19, hS]; rfl
      obtain ⟨nk, ns, na, nb, nn⟩ := n
      obtain ⟨p, g, a⟩ := o
      unfold cl326 c326r
      unfold envD at *
      repeat' first
        | refine GoH ?_
        | ((with_reducible apply Z1 (f := 47));rfl;rfl;rfl;exact hf;rfl)
        | ((with_reducible apply Z1 (f := 14));rfl;rfl;rfl;exact h19;rfl)
        | refine ZB rfl ?_|refine ZC rfl ?_
      exact ⟨_, rfl, rfl⟩
    | some v =>
      have h19 : G19 partE [.c (.str o.pat)] = some (.tup [.agg [.list 1 (ofStrs v.parts), .bool v.left, .bool v.right], .c (.int .i64 0)]) := by simp only [G19, hS]; rfl
      have hv := (mayS_inv (shapeOf_some hS).2.2).2.1
      have tl := fun nx ob (h : OH T ops f o n v esz tsz 1 nx ob ks n.a) => w326a (lsz := lsz) h hops hks hb htl hv
      simp only
      obtain ⟨nk, ns, na, nb, nn⟩ := n
      obtain ⟨p, g, a⟩ := o
      unfold envO cl326 c326r at *
      dsimp only [ACode.tail] at tl
      unfold envD at *
      repeat' first
        | ((with_reducible apply weak_keep [1, 5, 7, 8, 9, 11, 13, 15, 16]); rfl; exact tl _ _ ⟨⟨rfl, rfl, rfl, by omega, by omega, by omega, by omega, by omega, by omega, by omega, by omega, by omega, by omega, by omega, by omega⟩, rfl, rfl, ⟨_, hsz, rfl⟩, rfl, by omega⟩)
        | refine GoH ?_
        | ((with_reducible apply Z1 (f := 47));rfl;rfl;rfl;exact hf;rfl)
        | ((with_reducible apply Z1 (f := 14));rfl;rfl;rfl;exact h19;rfl)
        | refine ZB rfl ?_|refine ZC rfl ?_
theorem pok340 (m : Int) (h23 : PureOk Go.Proofs.Tryd.prog (glb m) 49 (T23 partE)) : HeapOk Go.Proofs.Tryd.prog (glb m) 48 (wpOf cl340 c340r [.t 9]) := wpOf_ok (fn340r m) (callh_nil (callOk_cons h23 (callOk_cons (pok339 m) (callOk_nil _ _))))
theorem pok326 (m : Int) (h23 : PureOk Go.Proofs.Tryd.prog (glb m) 49 (T23 partE)) (h19 : PureOk Go.Proofs.Tryd.prog (glb m) 14 (G19 partE)) : PureOk Go.Proofs.Tryd.prog (glb m) 23 T326 := .inl (fam_ok (fn326r m) (callh_cons (pok340 m h23) (callh_nil (callOk_cons h19 (callOk_cons (pok27 m) (callOk_cons (pok339 m) (callOk_nil _ _)))))) w326)
end Go.Am
namespace Go.Am
open Go
def RJ (P : Nat → Bool) (l : List Nat) (nx : Nat) (ob : List (Nat × Ob)) (v : V) (h : Hp) : Prop :=
  ((v = .c (.d (.int .i64 (-1))) ∧ l.any P = false) ∨ (∃ k : Nat, v = .c (.d (.int .i64 (k : Nat))) ∧ l.any P = true)) ∧ nx ≤ h.next ∧ ∀ y, y < nx → look h.obs y = look ob y
theorem nat_at {l : List Nat} {i k : Nat} (h : l[i]? = some k) : (l.map natD)[((i : Nat) : Int).toNat]? = some [.int .i64 (k : Nat)] := by
  rw [Int.toNat_natCast, List.getElem?_map, h]
  rfl
theorem any_take {P : Nat → Bool} {l : List Nat} {i k : Nat} (h : l[i]? = some k) (h1 : (l.take i).any P = false) (h2 : P k = false) : (l.take (i + 1)).any P = false := by
  rw [List.take_add_one, h, List.any_append, h1]
  simp [h2]
theorem any_at {P : Nat → Bool} {l : List Nat} {i k : Nat} (h : l[i]? = some k) (h2 : P k = true) : l.any P = true := List.any_eq_true.2 ⟨k, List.mem_of_getElem? h, h2⟩
set_option maxRecDepth 8000 in
set_option maxHeartbeats 4000000 in
theorem w341 {cl : Call} {g : Nat} {caps : List C} {P : Nat → Bool} {T : List V → Hp → (V → Hp → Prop) → Prop} {sz : Nat} {l : List Nat} {nx : Nat} {ob : List (Nat × Ob)} (hcl : cl.heap g = some T) (one : ∀ xs h K, T xs h K → ∃ v h', K v h' ∧ ∀ K' : V → Hp → Prop, K' v h' → T xs h K')
    (hl : l.length ≤ 1000000) (hT : ∀ k ∈ l, ∀ (nx' : Nat) (ob' : List (Nat × Ob)), nx ≤ nx' → (∀ y, y < nx → look ob' y = look ob y) → T ([.c (.d (.int .i64 (k : Nat)))] ++ caps.map V.c) ⟨nx', ob'⟩ (RV nx' ob' (.c (.d (.bool (P k)))))) :
    wpOf cl c341r [.t 4] [.c (.d (.list sz (l.map natD))), .c (.clo g caps)] ⟨nx, ob⟩ (RJ P l nx ob) := by
  have hml : (l.map natD).length = l.length := List.length_map ..
  unfold wpOf c341r
  repeat' first | refine GoH ?_ | refine ZB rfl ?_|refine ZC rfl ?_
  refine awp_loop (fun q st => ∃ (i nx1 : Nat) (ob1 : List (Nat × Ob)), i ≤ l.length ∧ l.length - i < q ∧ nx ≤ nx1 ∧ (∀ z, z < nx → look ob1 z = look ob z) ∧ (l.take i).any P = false ∧
    st = ⟨[(0, .c (.d (.list sz (l.map natD)))), (1, .c (.clo g caps)), (7, .c (.d (.int .i64 ((l.map natD).length : Nat)))), (8, .c (.d (.int .i64 (i : Nat))))], ⟨nx1, ob1⟩⟩) (l.length + 1) ?_ (by rintro st ⟨i, _, _, _, h, _⟩; omega) ?_
  · exact weak_keep [0, 1, 7, 8] rfl ⟨0, nx, ob, by omega, by omega, Nat.le_refl _, fun _ _ => rfl, rfl, rfl⟩
  · rintro q K hK st ⟨i, nx1, ob1, hi, hq, hnx, hkeep, hless, rfl⟩
    by_cases hend : i = l.length
    · subst hend
      rw [List.take_length] at hless
      repeat' first | refine GoH ?_ | refine ZB (ev_lss_f rfl rfl (by omega)) ?_ | refine ZB rfl ?_|refine ZC rfl ?_
      exact ⟨_, rfl, .inl ⟨rfl, hless⟩, hnx, hkeep⟩
    · have hlt : i < l.length := by omega
      have hx : l[i]? = some l[i] := List.getElem?_eq_getElem hlt
      have hx' := nat_at hx
      have hc := hT l[i] (List.getElem_mem _) nx1 ob1 hnx hkeep
      have ht := any_take (P := P) hx hless
      have hy := any_at (P := P) hx
      generalize hb : P l[i] = b at hc ht hy
      generalize l[i] = k at hc hx hx' hb
      cases b
      · repeat' first
          | refine GoH ?_
          | refine ZB (ev_lss_t rfl rfl (by omega)) ?_
          | refine ZB (ev_idx rfl rfl (by omega) hx' rfl) ?_
          | ((with_reducible apply step_vR); rfl; exact hcl; exact one; exact hc; rintro v nx2 ob2 ⟨rfl, e2, e3⟩; simp only at e2 e3)
          | refine ZB (ev_add rfl rfl (by omega) (by omega)) ?_
          | refine ZB rfl ?_|refine ZC rfl ?_
        exact hK _ (weak_keep [0, 1, 7, 8] rfl ⟨i + 1, nx2, ob2, by omega, by omega, by omega, fun z hz => (e3 z (by omega)).trans (hkeep z hz), ht rfl, rfl⟩)
      · repeat' first
          | refine GoH ?_
          | refine ZB (ev_lss_t rfl rfl (by omega)) ?_
          | refine ZB (ev_idx rfl rfl (by omega) hx' rfl) ?_
          | ((with_reducible apply step_vR); rfl; exact hcl; exact one; exact hc; rintro v nx2 ob2 ⟨rfl, e2, e3⟩; simp only at e2 e3)
          | refine ZB rfl ?_|refine ZC rfl ?_
        exact ⟨_, rfl, .inr ⟨i, rfl, hy rfl⟩, (by show nx ≤ nx2; omega), fun z hz => (e3 z (by omega)).trans (hkeep z hz)⟩
theorem w327 {cl cl' : Call} (fine : Fine cl) (h341 : cl.heap 51 = some (wpOf cl' c341r [.t 4])) {g : Nat} {caps : List C} {P : Nat → Bool} {sz : Nat} {l : List Nat} {nx : Nat} {ob : List (Nat × Ob)}
    (h : wpOf cl' c341r [.t 4] [.c (.d (.list sz (l.map natD))), .c (.clo g caps)] ⟨nx, ob⟩ (RJ P l nx ob)) : wpOf cl c327r [.t 4] [.c (.d (.list sz (l.map natD))), .c (.clo g caps)] ⟨nx, ob⟩ (RV nx ob (.c (.d (.bool (l.any P))))) := by
  unfold wpOf c327r
  repeat' first
    | refine GoH ?_
    | ((with_reducible apply step_hR); exact h341; exact fine; exact h; rintro v nx2 ob2 ⟨⟨rfl, hr⟩ | ⟨k, rfl, hr⟩, e2, e3⟩ <;> simp only at e2 e3)
    | refine ZB (ev_geq_t rfl rfl (by omega)) ?_
    | refine ZB rfl ?_|refine ZC rfl ?_
  all_goals rw [hr]; exact ⟨_, rfl, rfl, e2, e3⟩
structure RX where
  esz : Nat
  ops : List Op3
  f : Nat → Int
  lsz : Nat
  toks : List Tk5
  tsz : Nat
  T : List Nd5
structure RX.ok (X : RX) : Prop where
  ops : X.ops.length ≤ 1000
  toks : X.toks.length ≤ 1000000
  T : X.T.length ≤ 1000000
def RX.leaf (X : RX) (t : Tk5) : Bool := leafB t.k (entsOf partE X.f t.s X.ops).isEmpty
def RX.is (X : RX) (i : Nat) (n : Nd5) (ks : List Nat) : Bool :=
  if n.k = 1 then ks.isEmpty && decide (n.b = n.a + 1) && X.leaf (tokA X.toks n.a) && decide ((tokA X.toks n.a).s = n.s)
  else if n.k = 2 then decide (ks.length = 1) && decide (n.s = []) && decide (2 < n.b - n.a) && soloK (tokA X.toks n.a) [40] && soloK (tokA X.toks (n.b - 1)) [41] && (match X.T[i + 1]? with
    | some c => decide (c.a = n.a + 1) && decide (c.b = n.b - 1)
    | none => false)
  else if n.k = 3 then operS X.T X.ops (fitsOf partE X.f) X.toks n ks
  else false
def RX.rightF (X : RX) : Nat → Nat → Bool
  | 0, _ => false
  | m + 1, i => match X.T[i]? with
    | none => false
    | some n => if n.a < 0 ∨ n.b ≤ n.a ∨ (X.toks.length : Nat) < n.b ∨ n.n < 0 then false else X.is i n (kidsT X.T i) && !(kidsT X.T i).any (fun k => !X.rightF m k)
def RX.right (X : RX) : Bool := match X.T with
  | [] => false
  | n :: _ => decide (endT X.T 0 = some X.T.length) && decide (n.a = 0) && decide (n.b = (X.toks.length : Nat)) && X.rightF X.T.length 0
theorem kidL_lt {T : List Nd5} : ∀ {k a e : Nat}, endK (endT T) k a = some e → ∀ x ∈ kidL T k a, a ≤ x ∧ x < T.length
  | 0, _, _, _, x, hx => by cases hx
  | k + 1, a, e, h, x, hx => by
    unfold endK at h
    unfold kidL at hx
    cases hb : endT T a with
    | none => rw [hb] at h; cases h
    | some b =>
      rw [hb] at h hx
      have h1 := endT_lt hb
      have h2 := endT_top hb
      rcases List.mem_cons.1 hx with rfl | hx
      · omega
      · have := kidL_lt h x hx
        omega
theorem kidsT_lt {T : List Nd5} {i : Nat} : ∀ x ∈ kidsT T i, i < x ∧ x < T.length := by
  intro x hx
  unfold kidsT at hx
  cases he : endT T i with
  | none => rw [he] at hx; cases hx
  | some e =>
    cases hn : T[i]? with
    | none => rw [he, hn] at hx; cases hx
    | some n =>
      rw [he, hn] at hx
      have := kidL_lt ((endT_eq hn).symm.trans he) x hx
      omega
theorem kidsR_eq (T : List Nd5) (i : Nat) : ∃ sz, kidsR T i = .c (.list sz ((kidsT T i).map natD)) ∧ (sz = 1 ∨ kidsT T i = []) := by
  unfold kidsR
  cases he : endT T i with
  | none => exact ⟨0, by simp [kidsT, he], .inr (by simp [kidsT, he])⟩
  | some e => exact ⟨1, rfl, .inl rfl⟩
structure RM (X : RX) (nx : Nat) (ob : List (Nat × Ob)) : Prop where
  he : look ob 0 = some (.cells (.d (.list X.esz (X.ops.map opD)) :: rowsC X.f))
  hl : look ob 1 = some (.cells [.d (.list X.lsz (X.toks.map tkD))])
  ht : look ob 2 = some (.cells [.d (.list X.tsz (X.T.map ndD))])
  hr : look ob 3 = some (.cells [.clo 19 [.ptr 2 0, .ptr 1 0, .ptr 0 0, .ptr 3 0]])
  h4 : 4 ≤ nx
theorem RM.keep {X : RX} {nx nx' : Nat} {ob ob' : List (Nat × Ob)} (h : RM X nx ob) (hn : nx ≤ nx') (hk : ∀ y, y < nx → look ob' y = look ob y) : RM X nx' ob' := by
  have := h.h4
  exact ⟨(hk 0 (by omega)).trans h.he, (hk 1 (by omega)).trans h.hl, (hk 2 (by omega)).trans h.ht, (hk 3 (by omega)).trans h.hr, by omega⟩
noncomputable def clA (cl : Call) : Call := tblh [] [(19, wpOf cl c323r [.t 6])]
noncomputable def clB (cl : Call) : Call := tblh [] [(25, wpOf (clA cl) c328r [.t 3])]
noncomputable def clJ (cl : Call) : Call := tblh [] [(51, wpOf (clB cl) c341r [.t 4])]
noncomputable def clR : Nat → Call
  | 0 => tblh [(20, T324), (21, T29 partE), (22, T325), (23, T326)] []
  | m + 1 => tblh [(20, T324), (21, T29 partE), (22, T325), (23, T326)] [(24, wpOf (clJ (clR m)) c327r [.t 4])]
theorem fineA {cl : Call} (h : Fine cl) : Fine (clA cl) := fine_cons (fun _ _ _ hk => wpOf_one h hk) (fine_nil _)
theorem fineB {cl : Call} (h : Fine cl) : Fine (clB cl) := fine_cons (fun _ _ _ hk => wpOf_one (fineA h) hk) (fine_nil _)
theorem fineJ {cl : Call} (h : Fine cl) : Fine (clJ cl) := fine_cons (fun _ _ _ hk => wpOf_one (fineB h) hk) (fine_nil _)
theorem fineR : ∀ m, Fine (clR m)
  | 0 => fine_nil _
  | m + 1 => fine_cons (fun _ _ _ hk => wpOf_one (fineJ (fineR m)) hk) (fine_nil _)
theorem pureOfR (m : Nat) : (clR m).pure = look [(20, T324), (21, T29 partE), (22, T325), (23, T326)] := by cases m <;> rfl
theorem hcl324 (m : Nat) : (clR m).pure 20 = some T324 := by rw [pureOfR]; rfl
theorem hclr29 (m : Nat) : (clR m).pure 21 = some (T29 partE) := by rw [pureOfR]; rfl
theorem hcl325 (m : Nat) : (clR m).pure 22 = some T325 := by rw [pureOfR]; rfl
theorem hcl326 (m : Nat) : (clR m).pure 23 = some T326 := by rw [pureOfR]; rfl
def Q323 (m : Nat) : Prop := ∀ (X : RX) (nx : Nat) (ob : List (Nat × Ob)) (i fu : Nat), X.ok → RM X nx ob → i < X.T.length → X.T.length - i ≤ m → X.T.length - i ≤ fu →
  wpOf (clR m) c323r [.t 6] [.c (.d (.int .i64 (i : Nat))), .c (.ptr 2 0), .c (.ptr 1 0), .c (.ptr 0 0), .c (.ptr 3 0)] ⟨nx, ob⟩ (RV nx ob (.c (.d (.bool (X.rightF fu i)))))
set_option maxRecDepth 8000 in
theorem w328 {m : Nat} (h : Q323 m) {X : RX} {nx : Nat} {ob : List (Nat × Ob)} {i fu : Nat} (ok : X.ok) (M : RM X nx ob) (hi : i < X.T.length) (hm : X.T.length - i ≤ m) (hf : X.T.length - i ≤ fu) :
    wpOf (clA (clR m)) c328r [.t 3] [.c (.d (.int .i64 (i : Nat))), .c (.ptr 3 0)] ⟨nx, ob⟩ (RV nx ob (.c (.d (.bool (!X.rightF fu i))))) := by
  have hr := M.hr
  have hc := h X nx ob i fu ok M hi hm hf
  generalize X.rightF fu i = b at *
  unfold wpOf c328r
  repeat' first
    | refine GoH ?_
    | refine ZB (ev_load rfl hr rfl) ?_
    | ((with_reducible apply step_vR); rfl; rfl; exact fun _ _ _ hk => wpOf_one (fineR _) hk; exact hc; rintro v nx2 ob2 ⟨rfl, e2, e3⟩; simp only at e2 e3)
    | refine ZB rfl ?_|refine ZC rfl ?_
  exact ⟨_, rfl, rfl, e2, e3⟩
theorem kidL_le {T : List Nd5} : ∀ {k a : Nat}, a ≤ T.length → (kidL T k a).length ≤ T.length - a + 1
  | 0, _, _ => Nat.zero_le _
  | k + 1, a, ha => by
    unfold kidL
    cases hb : endT T a with
    | none => simp
    | some b =>
      have h1 := endT_lt hb
      have h2 := endT_top hb
      have := kidL_le (k := k) h2
      simp only [List.length_cons]
      omega
theorem kids_len {T : List Nd5} {i : Nat} (h : T.length ≤ 1000000) : (kidsT T i).length ≤ 1000000 := by
  unfold kidsT
  cases he : endT T i with
  | none => simp
  | some e =>
    have h1 := endT_lt he
    have h2 := endT_top he
    cases hn : T[i]? with
    | none => simp
    | some n =>
      have := kidL_le (T := T) (k := n.n.toNat) (a := i + 1) (by omega)
      simp only
      omega
set_option maxRecDepth 8000 in
set_option maxHeartbeats 4000000 in
theorem w323e {m : Nat} (h : Q323 m) {X : RX} {nx0 nx : Nat} {ob0 ob : List (Nat × Ob)} {i fu sz : Nat} {b : Bool} (ok : X.ok) (M : RM X nx ob) (h0 : nx0 ≤ nx) (hk0 : ∀ y, y < nx0 → look ob y = look ob0 y) (hm : X.T.length - i ≤ m + 1) (hf : X.T.length - i ≤ fu + 1) :
    awp (clR (m + 1)) (c323r.tail 6) (HeapQ [.t 6] (RV nx0 ob0 (.c (.d (.bool (b && !(kidsT X.T i).any (fun k => !X.rightF fu k))))))) ⟨[(4, .c (.ptr 3 0)), (8, .c (.d (.list sz ((kidsT X.T i).map natD)))), (9, .c (.d (.bool b)))], ⟨nx, ob⟩⟩ := by
  have hT := ok.T
  have hkl : (kidsT X.T i).length ≤ 1000000 := kids_len hT
  have hc := w327 (cl := clJ (clR m)) (fineJ (fineR m)) rfl (w341 (cl := clB (clR m)) (g := 25) (caps := [.ptr 3 0]) (P := fun k => !X.rightF fu k) (sz := sz) (l := kidsT X.T i) (nx := nx) (ob := ob) rfl (fun _ _ _ hk => wpOf_one (fineA (fineR m)) hk) hkl
    (fun k hk nx' ob' h1 h2 => by
      have := kidsT_lt k hk
      exact w328 h ok (M.keep h1 h2) this.2 (by omega) (by omega)))
  generalize (kidsT X.T i).any (fun k => !X.rightF fu k) = bb at hc
  generalize (kidsT X.T i).map natD = kk at hc
  unfold c323r
  dsimp only [ACode.tail]
  cases b with
  | false =>
    repeat' first | refine GoH ?_ | refine ZB rfl ?_|refine ZC rfl ?_
    exact ⟨_, rfl, rfl, h0, hk0⟩
  | true =>
    cases bb
    all_goals repeat' first
      | refine GoH ?_
      | ((with_reducible apply step_hR); rfl; exact fineR _; exact hc; rintro v nx2 ob2 ⟨rfl, e2, e3⟩; simp only at e2 e3)
      | refine ZB rfl ?_|refine ZC rfl ?_
    all_goals exact ⟨_, rfl, rfl, Nat.le_trans h0 e2, fun y hy => (e3 y (by omega)).trans (hk0 y hy)⟩
end Go.Am
namespace Go.Am
open Go
set_option maxRecDepth 8000 in
set_option maxHeartbeats 32000000 in
theorem w323d {m : Nat} (h : Q323 m) {X : RX} {nx0 nx z : Nat} {ob0 ob : List (Nat × Ob)} {i fu sz : Nat} {n : Nd5} (ok : X.ok) (M : RM X nx ob) (h0 : nx0 ≤ nx) (hk0 : ∀ y, y < nx0 → look ob y = look ob0 y) (hm : X.T.length - i ≤ m + 1) (hf : X.T.length - i ≤ fu + 1)
    (hz : look ob z = some (.cells ((ndD n).map .d))) (hi : i < X.T.length) (hsz : sz = 1 ∨ kidsT X.T i = []) (g : ¬ (n.a < 0 ∨ n.b ≤ n.a ∨ (X.toks.length : Nat) < n.b ∨ n.n < 0)) :
    awp (clR (m + 1)) (c323r.tail 5) (HeapQ [.t 6] (RV nx0 ob0 (.c (.d (.bool (X.is i n (kidsT X.T i) && !(kidsT X.T i).any (fun k => !X.rightF fu k))))))) ⟨[(0, .c (.d (.int .i64 (i : Nat)))), (1, .c (.ptr 2 0)), (2, .c (.ptr 1 0)), (3, .c (.ptr 0 0)), (4, .c (.ptr 3 0)), (7, .c (.ptr z 0)), (8, .c (.d (.list sz ((kidsT X.T i).map natD)))), (9, .c (.d (.bool false)))], ⟨nx, ob⟩⟩ := by
  have tl := fun b => w323e (b := b) (sz := sz) h ok M h0 hk0 hm hf
  have hK1 : 0 < (kidsT X.T i).length → i + 1 < X.T.length := fun h => by
    have := kidsT_lt _ (List.getElem_mem h)
    omega
  have hmem : ∀ k ∈ kidsT X.T i, k < X.T.length := fun k hk => (kidsT_lt k hk).2
  have htk := ok.toks
  have hTl := ok.T
  have he := M.he
  have hl := M.hl
  have ht := M.ht
  simp only [not_or] at g
  obtain ⟨g1, g2, g3, g4⟩ := g
  have ht1 := tok_of (toks := X.toks) (at_ := n.a) (by omega) (by omega)
  have h326 := T326_eq ⟨X.esz, X.ops, X.f, X.lsz, X.toks, X.tsz, X.T, n, sz, kidsT X.T i⟩ ⟨ok.ops, ok.toks, ok.T, (by show n.b ≤ ((X.toks.length : Nat) : Int); omega), hmem, hsz⟩
  simp only [OX.args, OX.res] at h326
  obtain ⟨nk, ns, na, nb, nn⟩ := n
  simp only at g1 g2 g3 g4 ht1 h326
  have hz : look ob z = some (.cells [.d (.int .i64 nk), .d (.str ns), .d (.int .i64 na), .d (.int .i64 nb), .d (.int .i64 nn)]) := hz
  generalize (kidsT X.T i).any (fun k => !X.rightF fu k) = bb at tl ⊢
  generalize kidsT X.T i = K at *
  have hkl : (K.map natD).length = K.length := List.length_map ..
  unfold c323r at *
  dsimp only [ACode.tail] at *
  by_cases hk : nk = 1
  · clear h326
    subst hk
    have hi1 : X.is i ⟨1, ns, na, nb, nn⟩ K = (K.isEmpty && decide (nb = na + 1) && X.leaf (tokA X.toks na) && decide ((tokA X.toks na).s = ns)) := rfl
    rw [hi1]
    have hk : (1 : Int) = 1 := rfl
    have h29 := T29_eq (part := partE) (sz := X.esz) (f := X.f) ok.ops (tokA X.toks na)
    have h29 : T29 partE [.agg (envD X.esz X.ops X.f), .agg (tkD (tokA X.toks na))] = some (.c (.bool (X.leaf (tokA X.toks na)))) := h29
    generalize X.leaf (tokA X.toks na) = lf at *
    generalize tokA X.toks na = t1 at *
    obtain ⟨a1, a2, a3, a4, a5⟩ := t1
    simp only [tkD] at ht1 h29
    unfold envD at h29
    simp only
    by_cases q1 : K.length = 0
    rotate_left
    · have hE : K.isEmpty = false := by cases K with | nil => exact absurd rfl q1 | cons _ _ => rfl
      have hb : (K.isEmpty && decide (nb = na + 1) && lf && decide (a4 = ns)) = false := by rw [hE]; rfl
      rw [hb]
      have tl := tl false
      repeat' first
        | ((with_reducible apply weak_keep [4, 8, 9]); rfl; exact tl)
        | refine ZB (ev_load rfl hz rfl) ?_
        | refine ZB (ev_eql_t rfl rfl hk) ?_
        | refine ZB (ev_eql_f rfl rfl (by omega)) ?_
        | refine GoH ?_
        | (with_reducible first | apply ZS | apply ZT)
        | refine ZY (ev_lenT hkl rfl) (by (repeat' first|exact True.intro|refine ⟨?_, ?_⟩|exact .inl rfl|exact .inr (.inl rfl)|exact .inr (.inr rfl)|rfl)) ?_
        | refine ZY (ev_load rfl hz rfl) (by (repeat' first|exact True.intro|refine ⟨?_, ?_⟩|exact .inl rfl|exact .inr (.inl rfl)|exact .inr (.inr rfl)|rfl)) ?_
        | refine ZY (ev_load rfl hl rfl) (by (repeat' first|exact True.intro|refine ⟨?_, ?_⟩|exact .inl rfl|exact .inr (.inl rfl)|exact .inr (.inr rfl)|rfl)) ?_
        | refine ZY (ev_load rfl he rfl) (by (repeat' first|exact True.intro|refine ⟨?_, ?_⟩|exact .inl rfl|exact .inr (.inl rfl)|exact .inr (.inr rfl)|rfl)) ?_
        | refine ZY (ev_load rfl ht rfl) (by (repeat' first|exact True.intro|refine ⟨?_, ?_⟩|exact .inl rfl|exact .inr (.inl rfl)|exact .inr (.inr rfl)|rfl)) ?_
        | refine ZX rfl (ev_eql_t rfl rfl (by omega)) ?_
        | refine ZX rfl (ev_eql_f rfl rfl (by omega)) ?_
        | refine ZX rfl (ev_gtr_t rfl rfl (by omega)) ?_
        | refine ZX rfl (ev_gtr_f rfl rfl (by omega)) ?_
        | refine ZX rfl (ev_add rfl rfl (by omega) (by omega)) ?_
        | refine ZX rfl (ev_sub rfl rfl (by omega) (by omega)) ?_
        | refine ZY (ev_idx rfl rfl (by omega) ht1 rfl) (by (repeat' first|exact True.intro|refine ⟨?_, ?_⟩|exact .inl rfl|exact .inr (.inl rfl)|exact .inr (.inr rfl)|rfl)) ?_
        | refine ZY (ev_pcall (hclr29 _) rfl h29 rfl rfl) (by (repeat' first|exact True.intro|refine ⟨?_, ?_⟩|exact .inl rfl|exact .inr (.inl rfl)|exact .inr (.inr rfl)|rfl)) ?_
        | (with_reducible first|apply ZS|apply ZT)|((with_reducible apply ZU);rfl)|((with_reducible apply ZV);rfl;decide)|((with_reducible apply ZW);rfl)|refine ZX rfl rfl ?_|refine ZY rfl (by (repeat' first|exact True.intro|refine ⟨?_, ?_⟩|exact .inl rfl|exact .inr (.inl rfl)|exact .inr (.inr rfl)|rfl)) ?_
        | refine ZB rfl ?_|refine ZC rfl ?_
    have hE : K.isEmpty = true := by cases K with | nil => rfl | cons _ _ => exact absurd q1 (by simp)
    rw [hE]
    by_cases q2 : nb = na + 1
    rotate_left
    · have hb : (true && decide (nb = na + 1) && lf && decide (a4 = ns)) = false := by rw [decide_eq_false q2]; rfl
      rw [hb]
      have tl := tl false
      repeat' first
        | ((with_reducible apply weak_keep [4, 8, 9]); rfl; exact tl)
        | refine ZB (ev_load rfl hz rfl) ?_
        | refine ZB (ev_eql_t rfl rfl hk) ?_
        | refine ZB (ev_eql_f rfl rfl (by omega)) ?_
        | refine GoH ?_
        | (with_reducible first | apply ZS | apply ZT)
        | refine ZY (ev_lenT hkl rfl) (by (repeat' first|exact True.intro|refine ⟨?_, ?_⟩|exact .inl rfl|exact .inr (.inl rfl)|exact .inr (.inr rfl)|rfl)) ?_
        | refine ZY (ev_load rfl hz rfl) (by (repeat' first|exact True.intro|refine ⟨?_, ?_⟩|exact .inl rfl|exact .inr (.inl rfl)|exact .inr (.inr rfl)|rfl)) ?_
        | refine ZY (ev_load rfl hl rfl) (by (repeat' first|exact True.intro|refine ⟨?_, ?_⟩|exact .inl rfl|exact .inr (.inl rfl)|exact .inr (.inr rfl)|rfl)) ?_
        | refine ZY (ev_load rfl he rfl) (by (repeat' first|exact True.intro|refine ⟨?_, ?_⟩|exact .inl rfl|exact .inr (.inl rfl)|exact .inr (.inr rfl)|rfl)) ?_
        | refine ZY (ev_load rfl ht rfl) (by (repeat' first|exact True.intro|refine ⟨?_, ?_⟩|exact .inl rfl|exact .inr (.inl rfl)|exact .inr (.inr rfl)|rfl)) ?_
        | refine ZX rfl (ev_eql_t rfl rfl (by omega)) ?_
        | refine ZX rfl (ev_eql_f rfl rfl (by omega)) ?_
        | refine ZX rfl (ev_gtr_t rfl rfl (by omega)) ?_
        | refine ZX rfl (ev_gtr_f rfl rfl (by omega)) ?_
        | refine ZX rfl (ev_add rfl rfl (by omega) (by omega)) ?_
        | refine ZX rfl (ev_sub rfl rfl (by omega) (by omega)) ?_
        | refine ZY (ev_idx rfl rfl (by omega) ht1 rfl) (by (repeat' first|exact True.intro|refine ⟨?_, ?_⟩|exact .inl rfl|exact .inr (.inl rfl)|exact .inr (.inr rfl)|rfl)) ?_
        | refine ZY (ev_pcall (hclr29 _) rfl h29 rfl rfl) (by (repeat' first|exact True.intro|refine ⟨?_, ?_⟩|exact .inl rfl|exact .inr (.inl rfl)|exact .inr (.inr rfl)|rfl)) ?_
        | (with_reducible first|apply ZS|apply ZT)|((with_reducible apply ZU);rfl)|((with_reducible apply ZV);rfl;decide)|((with_reducible apply ZW);rfl)|refine ZX rfl rfl ?_|refine ZY rfl (by (repeat' first|exact True.intro|refine ⟨?_, ?_⟩|exact .inl rfl|exact .inr (.inl rfl)|exact .inr (.inr rfl)|rfl)) ?_
        | refine ZB rfl ?_|refine ZC rfl ?_
    rw [decide_eq_true q2]
    cases lf with
    | false =>
      have hb : (true && true && false && decide (a4 = ns)) = false := rfl
      rw [hb]
      have tl := tl false
      repeat' first
        | ((with_reducible apply weak_keep [4, 8, 9]); rfl; exact tl)
        | refine ZB (ev_load rfl hz rfl) ?_
        | refine ZB (ev_eql_t rfl rfl hk) ?_
        | refine ZB (ev_eql_f rfl rfl (by omega)) ?_
        | refine GoH ?_
        | (with_reducible first | apply ZS | apply ZT)
        | refine ZY (ev_lenT hkl rfl) (by (repeat' first|exact True.intro|refine ⟨?_, ?_⟩|exact .inl rfl|exact .inr (.inl rfl)|exact .inr (.inr rfl)|rfl)) ?_
        | refine ZY (ev_load rfl hz rfl) (by (repeat' first|exact True.intro|refine ⟨?_, ?_⟩|exact .inl rfl|exact .inr (.inl rfl)|exact .inr (.inr rfl)|rfl)) ?_
        | refine ZY (ev_load rfl hl rfl) (by (repeat' first|exact True.intro|refine ⟨?_, ?_⟩|exact .inl rfl|exact .inr (.inl rfl)|exact .inr (.inr rfl)|rfl)) ?_
        | refine ZY (ev_load rfl he rfl) (by (repeat' first|exact True.intro|refine ⟨?_, ?_⟩|exact .inl rfl|exact .inr (.inl rfl)|exact .inr (.inr rfl)|rfl)) ?_
        | refine ZY (ev_load rfl ht rfl) (by (repeat' first|exact True.intro|refine ⟨?_, ?_⟩|exact .inl rfl|exact .inr (.inl rfl)|exact .inr (.inr rfl)|rfl)) ?_
        | refine ZX rfl (ev_eql_t rfl rfl (by omega)) ?_
        | refine ZX rfl (ev_eql_f rfl rfl (by omega)) ?_
        | refine ZX rfl (ev_gtr_t rfl rfl (by omega)) ?_
        | refine ZX rfl (ev_gtr_f rfl rfl (by omega)) ?_
        | refine ZX rfl (ev_add rfl rfl (by omega) (by omega)) ?_
        | refine ZX rfl (ev_sub rfl rfl (by omega) (by omega)) ?_
        | refine ZY (ev_idx rfl rfl (by omega) ht1 rfl) (by (repeat' first|exact True.intro|refine ⟨?_, ?_⟩|exact .inl rfl|exact .inr (.inl rfl)|exact .inr (.inr rfl)|rfl)) ?_
        | refine ZY (ev_pcall (hclr29 _) rfl h29 rfl rfl) (by (repeat' first|exact True.intro|refine ⟨?_, ?_⟩|exact .inl rfl|exact .inr (.inl rfl)|exact .inr (.inr rfl)|rfl)) ?_
        | (with_reducible first|apply ZS|apply ZT)|((with_reducible apply ZU);rfl)|((with_reducible apply ZV);rfl;decide)|((with_reducible apply ZW);rfl)|refine ZX rfl rfl ?_|refine ZY rfl (by (repeat' first|exact True.intro|refine ⟨?_, ?_⟩|exact .inl rfl|exact .inr (.inl rfl)|exact .inr (.inr rfl)|rfl)) ?_
        | refine ZB rfl ?_|refine ZC rfl ?_
    | true =>
      by_cases q3 : a4 = ns
      · have hb : (true && true && true && decide (a4 = ns)) = true := by rw [decide_eq_true q3]; rfl
        rw [hb]
        have tl := tl true
        repeat' first
          | ((with_reducible apply weak_keep [4, 8, 9]); rfl; exact tl)
          | refine ZB (ev_load rfl hz rfl) ?_
          | refine ZB (ev_eql_t rfl rfl hk) ?_
          | refine ZB (ev_eql_f rfl rfl (by omega)) ?_
          | refine GoH ?_
          | (with_reducible first | apply ZS | apply ZT)
          | refine ZY (ev_lenT hkl rfl) (by (repeat' first|exact True.intro|refine ⟨?_, ?_⟩|exact .inl rfl|exact .inr (.inl rfl)|exact .inr (.inr rfl)|rfl)) ?_
          | refine ZY (ev_load rfl hz rfl) (by (repeat' first|exact True.intro|refine ⟨?_, ?_⟩|exact .inl rfl|exact .inr (.inl rfl)|exact .inr (.inr rfl)|rfl)) ?_
          | refine ZY (ev_load rfl hl rfl) (by (repeat' first|exact True.intro|refine ⟨?_, ?_⟩|exact .inl rfl|exact .inr (.inl rfl)|exact .inr (.inr rfl)|rfl)) ?_
          | refine ZY (ev_load rfl he rfl) (by (repeat' first|exact True.intro|refine ⟨?_, ?_⟩|exact .inl rfl|exact .inr (.inl rfl)|exact .inr (.inr rfl)|rfl)) ?_
          | refine ZY (ev_load rfl ht rfl) (by (repeat' first|exact True.intro|refine ⟨?_, ?_⟩|exact .inl rfl|exact .inr (.inl rfl)|exact .inr (.inr rfl)|rfl)) ?_
          | refine ZX rfl (ev_eql_t rfl rfl (by omega)) ?_
          | refine ZX rfl (ev_eql_f rfl rfl (by omega)) ?_
          | refine ZX rfl (ev_gtr_t rfl rfl (by omega)) ?_
          | refine ZX rfl (ev_gtr_f rfl rfl (by omega)) ?_
          | refine ZX rfl (ev_add rfl rfl (by omega) (by omega)) ?_
          | refine ZX rfl (ev_sub rfl rfl (by omega) (by omega)) ?_
          | refine ZY (ev_idx rfl rfl (by omega) ht1 rfl) (by (repeat' first|exact True.intro|refine ⟨?_, ?_⟩|exact .inl rfl|exact .inr (.inl rfl)|exact .inr (.inr rfl)|rfl)) ?_
          | refine ZY (ev_pcall (hclr29 _) rfl h29 rfl rfl) (by (repeat' first|exact True.intro|refine ⟨?_, ?_⟩|exact .inl rfl|exact .inr (.inl rfl)|exact .inr (.inr rfl)|rfl)) ?_
          | refine ZX rfl (ev_eqs_t rfl rfl q3) ?_
          | (with_reducible first|apply ZS|apply ZT)|((with_reducible apply ZU);rfl)|((with_reducible apply ZV);rfl;decide)|((with_reducible apply ZW);rfl)|refine ZX rfl rfl ?_|refine ZY rfl (by (repeat' first|exact True.intro|refine ⟨?_, ?_⟩|exact .inl rfl|exact .inr (.inl rfl)|exact .inr (.inr rfl)|rfl)) ?_
          | refine ZB rfl ?_|refine ZC rfl ?_
      · have hb : (true && true && true && decide (a4 = ns)) = false := by rw [decide_eq_false q3]; rfl
        rw [hb]
        have tl := tl false
        repeat' first
          | ((with_reducible apply weak_keep [4, 8, 9]); rfl; exact tl)
          | refine ZB (ev_load rfl hz rfl) ?_
          | refine ZB (ev_eql_t rfl rfl hk) ?_
          | refine ZB (ev_eql_f rfl rfl (by omega)) ?_
          | refine GoH ?_
          | (with_reducible first | apply ZS | apply ZT)
          | refine ZY (ev_lenT hkl rfl) (by (repeat' first|exact True.intro|refine ⟨?_, ?_⟩|exact .inl rfl|exact .inr (.inl rfl)|exact .inr (.inr rfl)|rfl)) ?_
          | refine ZY (ev_load rfl hz rfl) (by (repeat' first|exact True.intro|refine ⟨?_, ?_⟩|exact .inl rfl|exact .inr (.inl rfl)|exact .inr (.inr rfl)|rfl)) ?_
          | refine ZY (ev_load rfl hl rfl) (by (repeat' first|exact True.intro|refine ⟨?_, ?_⟩|exact .inl rfl|exact .inr (.inl rfl)|exact .inr (.inr rfl)|rfl)) ?_
          | refine ZY (ev_load rfl he rfl) (by (repeat' first|exact True.intro|refine ⟨?_, ?_⟩|exact .inl rfl|exact .inr (.inl rfl)|exact .inr (.inr rfl)|rfl)) ?_
          | refine ZY (ev_load rfl ht rfl) (by (repeat' first|exact True.intro|refine ⟨?_, ?_⟩|exact .inl rfl|exact .inr (.inl rfl)|exact .inr (.inr rfl)|rfl)) ?_
          | refine ZX rfl (ev_eql_t rfl rfl (by omega)) ?_
          | refine ZX rfl (ev_eql_f rfl rfl (by omega)) ?_
          | refine ZX rfl (ev_gtr_t rfl rfl (by omega)) ?_
          | refine ZX rfl (ev_gtr_f rfl rfl (by omega)) ?_
          | refine ZX rfl (ev_add rfl rfl (by omega) (by omega)) ?_
          | refine ZX rfl (ev_sub rfl rfl (by omega) (by omega)) ?_
          | refine ZY (ev_idx rfl rfl (by omega) ht1 rfl) (by (repeat' first|exact True.intro|refine ⟨?_, ?_⟩|exact .inl rfl|exact .inr (.inl rfl)|exact .inr (.inr rfl)|rfl)) ?_
          | refine ZY (ev_pcall (hclr29 _) rfl h29 rfl rfl) (by (repeat' first|exact True.intro|refine ⟨?_, ?_⟩|exact .inl rfl|exact .inr (.inl rfl)|exact .inr (.inr rfl)|rfl)) ?_
          | refine ZX rfl (ev_eqs_f rfl rfl q3) ?_
          | (with_reducible first|apply ZS|apply ZT)|((with_reducible apply ZU);rfl)|((with_reducible apply ZV);rfl;decide)|((with_reducible apply ZW);rfl)|refine ZX rfl rfl ?_|refine ZY rfl (by (repeat' first|exact True.intro|refine ⟨?_, ?_⟩|exact .inl rfl|exact .inr (.inl rfl)|exact .inr (.inr rfl)|rfl)) ?_
          | refine ZB rfl ?_|refine ZC rfl ?_
  by_cases hk2 : nk = 2
  · clear h326
    replace hk := hk2
    subst hk
    have hi1 : X.is i ⟨2, ns, na, nb, nn⟩ K = (decide (K.length = 1) && decide (ns = []) && decide (2 < nb - na) && soloK (tokA X.toks na) [40] && soloK (tokA X.toks (nb - 1)) [41] && (match X.T[i + 1]? with
      | some c => decide (c.a = na + 1) && decide (c.b = nb - 1)
      | none => false)) := rfl
    rw [hi1]
    have hk : (2 : Int) = 2 := rfl
    have ht2 := tok_of (toks := X.toks) (at_ := nb - 1) (by omega) (by omega)
    have hs1 := T325_eq (tokA X.toks na) [40]
    have hs2 := T325_eq (tokA X.toks (nb - 1)) [41]
    generalize soloK (tokA X.toks na) [40] = s1 at *
    generalize soloK (tokA X.toks (nb - 1)) [41] = s2 at *
    generalize tokA X.toks na = t1 at *
    generalize tokA X.toks (nb - 1) = t2 at *
    obtain ⟨a1, a2, a3, a4, a5⟩ := t1
    obtain ⟨b1, b2, b3, b4, b5⟩ := t2
    simp only [tkD] at ht1 ht2 hs1 hs2
    by_cases q1 : K.length = 1
    rotate_left
    · rw [decide_eq_false q1]
      simp only [Bool.false_and]
      have tl := tl false
      repeat' first
        | ((with_reducible apply weak_keep [4, 8, 9]); rfl; exact tl)
        | refine ZB (ev_load rfl hz rfl) ?_
        | refine ZB (ev_eql_t rfl rfl hk) ?_
        | refine ZB (ev_eql_f rfl rfl (by omega)) ?_
        | refine GoH ?_
        | (with_reducible first | apply ZS | apply ZT)
        | refine ZY (ev_lenT hkl rfl) (by (repeat' first|exact True.intro|refine ⟨?_, ?_⟩|exact .inl rfl|exact .inr (.inl rfl)|exact .inr (.inr rfl)|rfl)) ?_
        | refine ZY (ev_load rfl hz rfl) (by (repeat' first|exact True.intro|refine ⟨?_, ?_⟩|exact .inl rfl|exact .inr (.inl rfl)|exact .inr (.inr rfl)|rfl)) ?_
        | refine ZY (ev_load rfl hl rfl) (by (repeat' first|exact True.intro|refine ⟨?_, ?_⟩|exact .inl rfl|exact .inr (.inl rfl)|exact .inr (.inr rfl)|rfl)) ?_
        | refine ZY (ev_load rfl he rfl) (by (repeat' first|exact True.intro|refine ⟨?_, ?_⟩|exact .inl rfl|exact .inr (.inl rfl)|exact .inr (.inr rfl)|rfl)) ?_
        | refine ZY (ev_load rfl ht rfl) (by (repeat' first|exact True.intro|refine ⟨?_, ?_⟩|exact .inl rfl|exact .inr (.inl rfl)|exact .inr (.inr rfl)|rfl)) ?_
        | refine ZX rfl (ev_eql_t rfl rfl (by omega)) ?_
        | refine ZX rfl (ev_eql_f rfl rfl (by omega)) ?_
        | refine ZX rfl (ev_gtr_t rfl rfl (by omega)) ?_
        | refine ZX rfl (ev_gtr_f rfl rfl (by omega)) ?_
        | refine ZX rfl (ev_add rfl rfl (by omega) (by omega)) ?_
        | refine ZX rfl (ev_sub rfl rfl (by omega) (by omega)) ?_
        | refine ZY (ev_idx rfl rfl (by omega) ht1 rfl) (by (repeat' first|exact True.intro|refine ⟨?_, ?_⟩|exact .inl rfl|exact .inr (.inl rfl)|exact .inr (.inr rfl)|rfl)) ?_
        | (with_reducible first|apply ZS|apply ZT)|((with_reducible apply ZU);rfl)|((with_reducible apply ZV);rfl;decide)|((with_reducible apply ZW);rfl)|refine ZX rfl rfl ?_|refine ZY rfl (by (repeat' first|exact True.intro|refine ⟨?_, ?_⟩|exact .inl rfl|exact .inr (.inl rfl)|exact .inr (.inr rfl)|rfl)) ?_
        | refine ZB rfl ?_|refine ZC rfl ?_
    rw [decide_eq_true q1]
    have hin : i + 1 < X.T.length := hK1 (by omega)
    have hc : X.T[i + 1]? = some X.T[i + 1] := List.getElem?_eq_getElem hin
    have hc' := nd_at hc
    rw [hc]
    simp only [Bool.true_and]
    generalize X.T[i + 1] = c at hc' ⊢
    obtain ⟨ck, cs, ca, cb, cn⟩ := c
    have hc' : (X.T.map ndD)[((i : Nat) : Int) + 1 |>.toNat]? = some [.int .i64 ck, .str cs, .int .i64 ca, .int .i64 cb, .int .i64 cn] := hc'
    simp only
    by_cases q2 : ns = []
    rotate_left
    · rw [decide_eq_false q2]
      simp only [Bool.false_and]
      have tl := tl false
      repeat' first
        | ((with_reducible apply weak_keep [4, 8, 9]); rfl; exact tl)
        | refine ZB (ev_load rfl hz rfl) ?_
        | refine ZB (ev_eql_t rfl rfl hk) ?_
        | refine ZB (ev_eql_f rfl rfl (by omega)) ?_
        | refine GoH ?_
        | (with_reducible first | apply ZS | apply ZT)
        | refine ZY (ev_lenT hkl rfl) (by (repeat' first|exact True.intro|refine ⟨?_, ?_⟩|exact .inl rfl|exact .inr (.inl rfl)|exact .inr (.inr rfl)|rfl)) ?_
        | refine ZY (ev_load rfl hz rfl) (by (repeat' first|exact True.intro|refine ⟨?_, ?_⟩|exact .inl rfl|exact .inr (.inl rfl)|exact .inr (.inr rfl)|rfl)) ?_
        | refine ZY (ev_load rfl hl rfl) (by (repeat' first|exact True.intro|refine ⟨?_, ?_⟩|exact .inl rfl|exact .inr (.inl rfl)|exact .inr (.inr rfl)|rfl)) ?_
        | refine ZY (ev_load rfl he rfl) (by (repeat' first|exact True.intro|refine ⟨?_, ?_⟩|exact .inl rfl|exact .inr (.inl rfl)|exact .inr (.inr rfl)|rfl)) ?_
        | refine ZY (ev_load rfl ht rfl) (by (repeat' first|exact True.intro|refine ⟨?_, ?_⟩|exact .inl rfl|exact .inr (.inl rfl)|exact .inr (.inr rfl)|rfl)) ?_
        | refine ZX rfl (ev_eql_t rfl rfl (by omega)) ?_
        | refine ZX rfl (ev_eql_f rfl rfl (by omega)) ?_
        | refine ZX rfl (ev_gtr_t rfl rfl (by omega)) ?_
        | refine ZX rfl (ev_gtr_f rfl rfl (by omega)) ?_
        | refine ZX rfl (ev_add rfl rfl (by omega) (by omega)) ?_
        | refine ZX rfl (ev_sub rfl rfl (by omega) (by omega)) ?_
        | refine ZY (ev_idx rfl rfl (by omega) ht1 rfl) (by (repeat' first|exact True.intro|refine ⟨?_, ?_⟩|exact .inl rfl|exact .inr (.inl rfl)|exact .inr (.inr rfl)|rfl)) ?_
        | refine ZX rfl (ev_eqs_f rfl rfl q2) ?_
        | (with_reducible first|apply ZS|apply ZT)|((with_reducible apply ZU);rfl)|((with_reducible apply ZV);rfl;decide)|((with_reducible apply ZW);rfl)|refine ZX rfl rfl ?_|refine ZY rfl (by (repeat' first|exact True.intro|refine ⟨?_, ?_⟩|exact .inl rfl|exact .inr (.inl rfl)|exact .inr (.inr rfl)|rfl)) ?_
        | refine ZB rfl ?_|refine ZC rfl ?_
    rw [decide_eq_true q2]
    subst q2
    simp only [Bool.true_and]
    by_cases q3 : 2 < nb - na
    rotate_left
    · rw [decide_eq_false q3]
      simp only [Bool.false_and]
      have tl := tl false
      repeat' first
        | ((with_reducible apply weak_keep [4, 8, 9]); rfl; exact tl)
        | refine ZB (ev_load rfl hz rfl) ?_
        | refine ZB (ev_eql_t rfl rfl hk) ?_
        | refine ZB (ev_eql_f rfl rfl (by omega)) ?_
        | refine GoH ?_
        | (with_reducible first | apply ZS | apply ZT)
        | refine ZY (ev_lenT hkl rfl) (by (repeat' first|exact True.intro|refine ⟨?_, ?_⟩|exact .inl rfl|exact .inr (.inl rfl)|exact .inr (.inr rfl)|rfl)) ?_
        | refine ZY (ev_load rfl hz rfl) (by (repeat' first|exact True.intro|refine ⟨?_, ?_⟩|exact .inl rfl|exact .inr (.inl rfl)|exact .inr (.inr rfl)|rfl)) ?_
        | refine ZY (ev_load rfl hl rfl) (by (repeat' first|exact True.intro|refine ⟨?_, ?_⟩|exact .inl rfl|exact .inr (.inl rfl)|exact .inr (.inr rfl)|rfl)) ?_
        | refine ZY (ev_load rfl he rfl) (by (repeat' first|exact True.intro|refine ⟨?_, ?_⟩|exact .inl rfl|exact .inr (.inl rfl)|exact .inr (.inr rfl)|rfl)) ?_
        | refine ZY (ev_load rfl ht rfl) (by (repeat' first|exact True.intro|refine ⟨?_, ?_⟩|exact .inl rfl|exact .inr (.inl rfl)|exact .inr (.inr rfl)|rfl)) ?_
        | refine ZX rfl (ev_eql_t rfl rfl (by omega)) ?_
        | refine ZX rfl (ev_eql_f rfl rfl (by omega)) ?_
        | refine ZX rfl (ev_gtr_t rfl rfl (by omega)) ?_
        | refine ZX rfl (ev_gtr_f rfl rfl (by omega)) ?_
        | refine ZX rfl (ev_add rfl rfl (by omega) (by omega)) ?_
        | refine ZX rfl (ev_sub rfl rfl (by omega) (by omega)) ?_
        | refine ZY (ev_idx rfl rfl (by omega) ht1 rfl) (by (repeat' first|exact True.intro|refine ⟨?_, ?_⟩|exact .inl rfl|exact .inr (.inl rfl)|exact .inr (.inr rfl)|rfl)) ?_
        | refine ZX rfl (ev_eqs_t rfl rfl rfl) ?_
        | (with_reducible first|apply ZS|apply ZT)|((with_reducible apply ZU);rfl)|((with_reducible apply ZV);rfl;decide)|((with_reducible apply ZW);rfl)|refine ZX rfl rfl ?_|refine ZY rfl (by (repeat' first|exact True.intro|refine ⟨?_, ?_⟩|exact .inl rfl|exact .inr (.inl rfl)|exact .inr (.inr rfl)|rfl)) ?_
        | refine ZB rfl ?_|refine ZC rfl ?_
    rw [decide_eq_true q3]
    simp only [Bool.true_and]
    cases s1 with
    | false =>
      simp only [Bool.false_and]
      have tl := tl false
      repeat' first
        | ((with_reducible apply weak_keep [4, 8, 9]); rfl; exact tl)
        | refine ZB (ev_load rfl hz rfl) ?_
        | refine ZB (ev_eql_t rfl rfl hk) ?_
        | refine ZB (ev_eql_f rfl rfl (by omega)) ?_
        | refine GoH ?_
        | (with_reducible first | apply ZS | apply ZT)
        | refine ZY (ev_lenT hkl rfl) (by (repeat' first|exact True.intro|refine ⟨?_, ?_⟩|exact .inl rfl|exact .inr (.inl rfl)|exact .inr (.inr rfl)|rfl)) ?_
        | refine ZY (ev_load rfl hz rfl) (by (repeat' first|exact True.intro|refine ⟨?_, ?_⟩|exact .inl rfl|exact .inr (.inl rfl)|exact .inr (.inr rfl)|rfl)) ?_
        | refine ZY (ev_load rfl hl rfl) (by (repeat' first|exact True.intro|refine ⟨?_, ?_⟩|exact .inl rfl|exact .inr (.inl rfl)|exact .inr (.inr rfl)|rfl)) ?_
        | refine ZY (ev_load rfl he rfl) (by (repeat' first|exact True.intro|refine ⟨?_, ?_⟩|exact .inl rfl|exact .inr (.inl rfl)|exact .inr (.inr rfl)|rfl)) ?_
        | refine ZY (ev_load rfl ht rfl) (by (repeat' first|exact True.intro|refine ⟨?_, ?_⟩|exact .inl rfl|exact .inr (.inl rfl)|exact .inr (.inr rfl)|rfl)) ?_
        | refine ZX rfl (ev_eql_t rfl rfl (by omega)) ?_
        | refine ZX rfl (ev_eql_f rfl rfl (by omega)) ?_
        | refine ZX rfl (ev_gtr_t rfl rfl (by omega)) ?_
        | refine ZX rfl (ev_gtr_f rfl rfl (by omega)) ?_
        | refine ZX rfl (ev_add rfl rfl (by omega) (by omega)) ?_
        | refine ZX rfl (ev_sub rfl rfl (by omega) (by omega)) ?_
        | refine ZY (ev_idx rfl rfl (by omega) ht1 rfl) (by (repeat' first|exact True.intro|refine ⟨?_, ?_⟩|exact .inl rfl|exact .inr (.inl rfl)|exact .inr (.inr rfl)|rfl)) ?_
        | refine ZY (ev_idx rfl rfl (by omega) ht2 rfl) (by (repeat' first|exact True.intro|refine ⟨?_, ?_⟩|exact .inl rfl|exact .inr (.inl rfl)|exact .inr (.inr rfl)|rfl)) ?_
        | refine ZY (ev_idx rfl rfl (by omega) hc' rfl) (by (repeat' first|exact True.intro|refine ⟨?_, ?_⟩|exact .inl rfl|exact .inr (.inl rfl)|exact .inr (.inr rfl)|rfl)) ?_
        | refine ZY (ev_pcall (hcl325 _) rfl hs1 rfl rfl) (by (repeat' first|exact True.intro|refine ⟨?_, ?_⟩|exact .inl rfl|exact .inr (.inl rfl)|exact .inr (.inr rfl)|rfl)) ?_
        | refine ZY (ev_pcall (hcl325 _) rfl hs2 rfl rfl) (by (repeat' first|exact True.intro|refine ⟨?_, ?_⟩|exact .inl rfl|exact .inr (.inl rfl)|exact .inr (.inr rfl)|rfl)) ?_
        | refine ZX rfl (ev_eqs_t rfl rfl rfl) ?_
        | (with_reducible first|apply ZS|apply ZT)|((with_reducible apply ZU);rfl)|((with_reducible apply ZV);rfl;decide)|((with_reducible apply ZW);rfl)|refine ZX rfl rfl ?_|refine ZY rfl (by (repeat' first|exact True.intro|refine ⟨?_, ?_⟩|exact .inl rfl|exact .inr (.inl rfl)|exact .inr (.inr rfl)|rfl)) ?_
        | refine ZB rfl ?_|refine ZC rfl ?_
    | true =>
      simp only [Bool.true_and]
      cases s2 with
      | false =>
        simp only [Bool.false_and]
        have tl := tl false
        repeat' first
          | ((with_reducible apply weak_keep [4, 8, 9]); rfl; exact tl)
          | refine ZB (ev_load rfl hz rfl) ?_
          | refine ZB (ev_eql_t rfl rfl hk) ?_
          | refine ZB (ev_eql_f rfl rfl (by omega)) ?_
          | refine GoH ?_
          | (with_reducible first | apply ZS | apply ZT)
          | refine ZY (ev_lenT hkl rfl) (by (repeat' first|exact True.intro|refine ⟨?_, ?_⟩|exact .inl rfl|exact .inr (.inl rfl)|exact .inr (.inr rfl)|rfl)) ?_
          | refine ZY (ev_load rfl hz rfl) (by (repeat' first|exact True.intro|refine ⟨?_, ?_⟩|exact .inl rfl|exact .inr (.inl rfl)|exact .inr (.inr rfl)|rfl)) ?_
          | refine ZY (ev_load rfl hl rfl) (by (repeat' first|exact True.intro|refine ⟨?_, ?_⟩|exact .inl rfl|exact .inr (.inl rfl)|exact .inr (.inr rfl)|rfl)) ?_
          | refine ZY (ev_load rfl he rfl) (by (repeat' first|exact True.intro|refine ⟨?_, ?_⟩|exact .inl rfl|exact .inr (.inl rfl)|exact .inr (.inr rfl)|rfl)) ?_
          | refine ZY (ev_load rfl ht rfl) (by (repeat' first|exact True.intro|refine ⟨?_, ?_⟩|exact .inl rfl|exact .inr (.inl rfl)|exact .inr (.inr rfl)|rfl)) ?_
          | refine ZX rfl (ev_eql_t rfl rfl (by omega)) ?_
          | refine ZX rfl (ev_eql_f rfl rfl (by omega)) ?_
          | refine ZX rfl (ev_gtr_t rfl rfl (by omega)) ?_
          | refine ZX rfl (ev_gtr_f rfl rfl (by omega)) ?_
          | refine ZX rfl (ev_add rfl rfl (by omega) (by omega)) ?_
          | refine ZX rfl (ev_sub rfl rfl (by omega) (by omega)) ?_
          | refine ZY (ev_idx rfl rfl (by omega) ht1 rfl) (by (repeat' first|exact True.intro|refine ⟨?_, ?_⟩|exact .inl rfl|exact .inr (.inl rfl)|exact .inr (.inr rfl)|rfl)) ?_
          | refine ZY (ev_idx rfl rfl (by omega) ht2 rfl) (by (repeat' first|exact True.intro|refine ⟨?_, ?_⟩|exact .inl rfl|exact .inr (.inl rfl)|exact .inr (.inr rfl)|rfl)) ?_
          | refine ZY (ev_idx rfl rfl (by omega) hc' rfl) (by (repeat' first|exact True.intro|refine ⟨?_, ?_⟩|exact .inl rfl|exact .inr (.inl rfl)|exact .inr (.inr rfl)|rfl)) ?_
          | refine ZY (ev_pcall (hcl325 _) rfl hs1 rfl rfl) (by (repeat' first|exact True.intro|refine ⟨?_, ?_⟩|exact .inl rfl|exact .inr (.inl rfl)|exact .inr (.inr rfl)|rfl)) ?_
          | refine ZY (ev_pcall (hcl325 _) rfl hs2 rfl rfl) (by (repeat' first|exact True.intro|refine ⟨?_, ?_⟩|exact .inl rfl|exact .inr (.inl rfl)|exact .inr (.inr rfl)|rfl)) ?_
          | refine ZX rfl (ev_eqs_t rfl rfl rfl) ?_
          | (with_reducible first|apply ZS|apply ZT)|((with_reducible apply ZU);rfl)|((with_reducible apply ZV);rfl;decide)|((with_reducible apply ZW);rfl)|refine ZX rfl rfl ?_|refine ZY rfl (by (repeat' first|exact True.intro|refine ⟨?_, ?_⟩|exact .inl rfl|exact .inr (.inl rfl)|exact .inr (.inr rfl)|rfl)) ?_
          | refine ZB rfl ?_|refine ZC rfl ?_
      | true =>
        simp only [Bool.true_and]
        by_cases q4 : ca = na + 1
        rotate_left
        · rw [decide_eq_false q4]
          simp only [Bool.false_and]
          have tl := tl false
          repeat' first
            | ((with_reducible apply weak_keep [4, 8, 9]); rfl; exact tl)
            | refine ZB (ev_load rfl hz rfl) ?_
            | refine ZB (ev_eql_t rfl rfl hk) ?_
            | refine ZB (ev_eql_f rfl rfl (by omega)) ?_
            | refine GoH ?_
            | (with_reducible first | apply ZS | apply ZT)
            | refine ZY (ev_lenT hkl rfl) (by (repeat' first|exact True.intro|refine ⟨?_, ?_⟩|exact .inl rfl|exact .inr (.inl rfl)|exact .inr (.inr rfl)|rfl)) ?_
            | refine ZY (ev_load rfl hz rfl) (by (repeat' first|exact True.intro|refine ⟨?_, ?_⟩|exact .inl rfl|exact .inr (.inl rfl)|exact .inr (.inr rfl)|rfl)) ?_
            | refine ZY (ev_load rfl hl rfl) (by (repeat' first|exact True.intro|refine ⟨?_, ?_⟩|exact .inl rfl|exact .inr (.inl rfl)|exact .inr (.inr rfl)|rfl)) ?_
            | refine ZY (ev_load rfl he rfl) (by (repeat' first|exact True.intro|refine ⟨?_, ?_⟩|exact .inl rfl|exact .inr (.inl rfl)|exact .inr (.inr rfl)|rfl)) ?_
            | refine ZY (ev_load rfl ht rfl) (by (repeat' first|exact True.intro|refine ⟨?_, ?_⟩|exact .inl rfl|exact .inr (.inl rfl)|exact .inr (.inr rfl)|rfl)) ?_
            | refine ZX rfl (ev_eql_t rfl rfl (by omega)) ?_
            | refine ZX rfl (ev_eql_f rfl rfl (by omega)) ?_
            | refine ZX rfl (ev_gtr_t rfl rfl (by omega)) ?_
            | refine ZX rfl (ev_gtr_f rfl rfl (by omega)) ?_
            | refine ZX rfl (ev_add rfl rfl (by omega) (by omega)) ?_
            | refine ZX rfl (ev_sub rfl rfl (by omega) (by omega)) ?_
            | refine ZY (ev_idx rfl rfl (by omega) ht1 rfl) (by (repeat' first|exact True.intro|refine ⟨?_, ?_⟩|exact .inl rfl|exact .inr (.inl rfl)|exact .inr (.inr rfl)|rfl)) ?_
            | refine ZY (ev_idx rfl rfl (by omega) ht2 rfl) (by (repeat' first|exact True.intro|refine ⟨?_, ?_⟩|exact .inl rfl|exact .inr (.inl rfl)|exact .inr (.inr rfl)|rfl)) ?_
            | refine ZY (ev_idx rfl rfl (by omega) hc' rfl) (by (repeat' first|exact True.intro|refine ⟨?_, ?_⟩|exact .inl rfl|exact .inr (.inl rfl)|exact .inr (.inr rfl)|rfl)) ?_
            | refine ZY (ev_pcall (hcl325 _) rfl hs1 rfl rfl) (by (repeat' first|exact True.intro|refine ⟨?_, ?_⟩|exact .inl rfl|exact .inr (.inl rfl)|exact .inr (.inr rfl)|rfl)) ?_
            | refine ZY (ev_pcall (hcl325 _) rfl hs2 rfl rfl) (by (repeat' first|exact True.intro|refine ⟨?_, ?_⟩|exact .inl rfl|exact .inr (.inl rfl)|exact .inr (.inr rfl)|rfl)) ?_
            | refine ZX rfl (ev_eqs_t rfl rfl rfl) ?_
            | (with_reducible first|apply ZS|apply ZT)|((with_reducible apply ZU);rfl)|((with_reducible apply ZV);rfl;decide)|((with_reducible apply ZW);rfl)|refine ZX rfl rfl ?_|refine ZY rfl (by (repeat' first|exact True.intro|refine ⟨?_, ?_⟩|exact .inl rfl|exact .inr (.inl rfl)|exact .inr (.inr rfl)|rfl)) ?_
            | refine ZB rfl ?_|refine ZC rfl ?_
        rw [decide_eq_true q4]
        simp only [Bool.true_and]
        by_cases q5 : cb = nb - 1
        · rw [decide_eq_true q5]
          have tl := tl true
          repeat' first
            | ((with_reducible apply weak_keep [4, 8, 9]); rfl; exact tl)
            | refine ZB (ev_load rfl hz rfl) ?_
            | refine ZB (ev_eql_t rfl rfl hk) ?_
            | refine ZB (ev_eql_f rfl rfl (by omega)) ?_
            | refine GoH ?_
            | (with_reducible first | apply ZS | apply ZT)
            | refine ZY (ev_lenT hkl rfl) (by (repeat' first|exact True.intro|refine ⟨?_, ?_⟩|exact .inl rfl|exact .inr (.inl rfl)|exact .inr (.inr rfl)|rfl)) ?_
            | refine ZY (ev_load rfl hz rfl) (by (repeat' first|exact True.intro|refine ⟨?_, ?_⟩|exact .inl rfl|exact .inr (.inl rfl)|exact .inr (.inr rfl)|rfl)) ?_
            | refine ZY (ev_load rfl hl rfl) (by (repeat' first|exact True.intro|refine ⟨?_, ?_⟩|exact .inl rfl|exact .inr (.inl rfl)|exact .inr (.inr rfl)|rfl)) ?_
            | refine ZY (ev_load rfl he rfl) (by (repeat' first|exact True.intro|refine ⟨?_, ?_⟩|exact .inl rfl|exact .inr (.inl rfl)|exact .inr (.inr rfl)|rfl)) ?_
            | refine ZY (ev_load rfl ht rfl) (by (repeat' first|exact True.intro|refine ⟨?_, ?_⟩|exact .inl rfl|exact .inr (.inl rfl)|exact .inr (.inr rfl)|rfl)) ?_
            | refine ZX rfl (ev_eql_t rfl rfl (by omega)) ?_
            | refine ZX rfl (ev_eql_f rfl rfl (by omega)) ?_
            | refine ZX rfl (ev_gtr_t rfl rfl (by omega)) ?_
            | refine ZX rfl (ev_gtr_f rfl rfl (by omega)) ?_
            | refine ZX rfl (ev_add rfl rfl (by omega) (by omega)) ?_
            | refine ZX rfl (ev_sub rfl rfl (by omega) (by omega)) ?_
            | refine ZY (ev_idx rfl rfl (by omega) ht1 rfl) (by (repeat' first|exact True.intro|refine ⟨?_, ?_⟩|exact .inl rfl|exact .inr (.inl rfl)|exact .inr (.inr rfl)|rfl)) ?_
            | refine ZY (ev_idx rfl rfl (by omega) ht2 rfl) (by (repeat' first|exact True.intro|refine ⟨?_, ?_⟩|exact .inl rfl|exact .inr (.inl rfl)|exact .inr (.inr rfl)|rfl)) ?_
            | refine ZY (ev_idx rfl rfl (by omega) hc' rfl) (by (repeat' first|exact True.intro|refine ⟨?_, ?_⟩|exact .inl rfl|exact .inr (.inl rfl)|exact .inr (.inr rfl)|rfl)) ?_
            | refine ZY (ev_pcall (hcl325 _) rfl hs1 rfl rfl) (by (repeat' first|exact True.intro|refine ⟨?_, ?_⟩|exact .inl rfl|exact .inr (.inl rfl)|exact .inr (.inr rfl)|rfl)) ?_
            | refine ZY (ev_pcall (hcl325 _) rfl hs2 rfl rfl) (by (repeat' first|exact True.intro|refine ⟨?_, ?_⟩|exact .inl rfl|exact .inr (.inl rfl)|exact .inr (.inr rfl)|rfl)) ?_
            | refine ZX rfl (ev_eqs_t rfl rfl rfl) ?_
            | (with_reducible first|apply ZS|apply ZT)|((with_reducible apply ZU);rfl)|((with_reducible apply ZV);rfl;decide)|((with_reducible apply ZW);rfl)|refine ZX rfl rfl ?_|refine ZY rfl (by (repeat' first|exact True.intro|refine ⟨?_, ?_⟩|exact .inl rfl|exact .inr (.inl rfl)|exact .inr (.inr rfl)|rfl)) ?_
            | refine ZB rfl ?_|refine ZC rfl ?_
        · rw [decide_eq_false q5]
          have tl := tl false
          repeat' first
            | ((with_reducible apply weak_keep [4, 8, 9]); rfl; exact tl)
            | refine ZB (ev_load rfl hz rfl) ?_
            | refine ZB (ev_eql_t rfl rfl hk) ?_
            | refine ZB (ev_eql_f rfl rfl (by omega)) ?_
            | refine GoH ?_
            | (with_reducible first | apply ZS | apply ZT)
            | refine ZY (ev_lenT hkl rfl) (by (repeat' first|exact True.intro|refine ⟨?_, ?_⟩|exact .inl rfl|exact .inr (.inl rfl)|exact .inr (.inr rfl)|rfl)) ?_
            | refine ZY (ev_load rfl hz rfl) (by (repeat' first|exact True.intro|refine ⟨?_, ?_⟩|exact .inl rfl|exact .inr (.inl rfl)|exact .inr (.inr rfl)|rfl)) ?_
            | refine ZY (ev_load rfl hl rfl) (by (repeat' first|exact True.intro|refine ⟨?_, ?_⟩|exact .inl rfl|exact .inr (.inl rfl)|exact .inr (.inr rfl)|rfl)) ?_
            | refine ZY (ev_load rfl he rfl) (by (repeat' first|exact True.intro|refine ⟨?_, ?_⟩|exact .inl rfl|exact .inr (.inl rfl)|exact .inr (.inr rfl)|rfl)) ?_
            | refine ZY (ev_load rfl ht rfl) (by (repeat' first|exact True.intro|refine ⟨?_, ?_⟩|exact .inl rfl|exact .inr (.inl rfl)|exact .inr (.inr rfl)|rfl)) ?_
            | refine ZX rfl (ev_eql_t rfl rfl (by omega)) ?_
            | refine ZX rfl (ev_eql_f rfl rfl (by omega)) ?_
            | refine ZX rfl (ev_gtr_t rfl rfl (by omega)) ?_
            | refine ZX rfl (ev_gtr_f rfl rfl (by omega)) ?_
            | refine ZX rfl (ev_add rfl rfl (by omega) (by omega)) ?_
            | refine ZX rfl (ev_sub rfl rfl (by omega) (by omega)) ?_
            | refine ZY (ev_idx rfl rfl (by omega) ht1 rfl) (by (repeat' first|exact True.intro|refine ⟨?_, ?_⟩|exact .inl rfl|exact .inr (.inl rfl)|exact .inr (.inr rfl)|rfl)) ?_
            | refine ZY (ev_idx rfl rfl (by omega) ht2 rfl) (by (repeat' first|exact True.intro|refine ⟨?_, ?_⟩|exact .inl rfl|exact .inr (.inl rfl)|exact .inr (.inr rfl)|rfl)) ?_
            | refine ZY (ev_idx rfl rfl (by omega) hc' rfl) (by (repeat' first|exact True.intro|refine ⟨?_, ?_⟩|exact .inl rfl|exact .inr (.inl rfl)|exact .inr (.inr rfl)|rfl)) ?_
            | refine ZY (ev_pcall (hcl325 _) rfl hs1 rfl rfl) (by (repeat' first|exact True.intro|refine ⟨?_, ?_⟩|exact .inl rfl|exact .inr (.inl rfl)|exact .inr (.inr rfl)|rfl)) ?_
            | refine ZY (ev_pcall (hcl325 _) rfl hs2 rfl rfl) (by (repeat' first|exact True.intro|refine ⟨?_, ?_⟩|exact .inl rfl|exact .inr (.inl rfl)|exact .inr (.inr rfl)|rfl)) ?_
            | refine ZX rfl (ev_eqs_t rfl rfl rfl) ?_
            | (with_reducible first|apply ZS|apply ZT)|((with_reducible apply ZU);rfl)|((with_reducible apply ZV);rfl;decide)|((with_reducible apply ZW);rfl)|refine ZX rfl rfl ?_|refine ZY rfl (by (repeat' first|exact True.intro|refine ⟨?_, ?_⟩|exact .inl rfl|exact .inr (.inl rfl)|exact .inr (.inr rfl)|rfl)) ?_
            | refine ZB rfl ?_|refine ZC rfl ?_
  by_cases hk3 : nk = 3
  · subst hk3
    have hb : X.is i ⟨3, ns, na, nb, nn⟩ K = operS X.T X.ops (fitsOf partE X.f) X.toks ⟨3, ns, na, nb, nn⟩ K := rfl
    rw [hb]
    generalize operS X.T X.ops (fitsOf partE X.f) X.toks ⟨3, ns, na, nb, nn⟩ K = bo at h326 ⊢
    have tl := tl bo
    simp only [ndD] at h326
    unfold envD at h326
    repeat' first
      | ((with_reducible apply weak_keep [4, 8, 9]); rfl; exact tl)
      | refine GoH ?_
      | refine ZB (ev_load rfl hz rfl) ?_
      | refine ZB (ev_load rfl hl rfl) ?_
      | refine ZB (ev_load rfl he rfl) ?_
      | refine ZB (ev_load rfl ht rfl) ?_
      | ((with_reducible apply Z1 (f := 23)); exact hcl326 _; rfl; rfl; exact h326; rfl)
      | refine ZB rfl ?_|refine ZC rfl ?_
  · have hb : X.is i ⟨nk, ns, na, nb, nn⟩ K = false := by unfold RX.is; simp only; rw [if_neg hk, if_neg hk2, if_neg hk3]
    rw [hb]
    have tl := tl false
    repeat' first
      | ((with_reducible apply weak_keep [4, 8, 9]); rfl; exact tl)
      | refine GoH ?_
      | refine ZB (ev_load rfl hz rfl) ?_
      | refine ZB (ev_eql_f rfl rfl hk) ?_
      | refine ZB (ev_eql_f rfl rfl hk2) ?_
      | refine ZB (ev_eql_f rfl rfl hk3) ?_
      | refine ZB rfl ?_|refine ZC rfl ?_
end Go.Am
namespace Go.Am
open Go
set_option maxRecDepth 8000 in
set_option maxHeartbeats 8000000 in
theorem w323 {m : Nat} (h : Q323 m) : Q323 (m + 1) := by
  intro X nx ob i fu ok M hi hm hf
  obtain ⟨fu, rfl⟩ : ∃ k, fu = k + 1 := ⟨fu - 1, by omega⟩
  have hn : X.T[i]? = some X.T[i] := List.getElem?_eq_getElem hi
  have hn' := nd_at hn
  have ht := M.ht
  have hl := M.hl
  have h4 := M.h4
  have htl : (X.toks.map tkD).length = X.toks.length := List.length_map ..
  have htk := ok.toks
  have hTl := ok.T
  obtain ⟨sz, hkr, hsz⟩ := kidsR_eq X.T i
  have h324 := T324_eq (sz := X.tsz) (T := X.T) (i := i) ⟨hTl, by omega⟩
  rw [hkr] at h324
  have hR : X.rightF (fu + 1) i = if (X.T[i]).a < 0 ∨ (X.T[i]).b ≤ (X.T[i]).a ∨ (X.toks.length : Nat) < (X.T[i]).b ∨ (X.T[i]).n < 0 then false else X.is i X.T[i] (kidsT X.T i) && !(kidsT X.T i).any (fun k => !X.rightF fu k) := by
    conv => lhs; unfold RX.rightF
    rw [hn]
  rw [hR]
  generalize X.T[i] = n at hn hn' hR ⊢
  clear hR
  unfold wpOf
  by_cases g : n.a < 0 ∨ n.b ≤ n.a ∨ (X.toks.length : Nat) < n.b ∨ n.n < 0
  · rw [if_pos g]
    obtain ⟨nk, ns, na, nb, nn⟩ := n
    simp only at g
    have hn' : (X.T.map ndD)[((i : Nat) : Int).toNat]? = some [.int .i64 nk, .str ns, .int .i64 na, .int .i64 nb, .int .i64 nn] := hn'
    have g : na < 0 ∨ (¬ na < 0 ∧ nb ≤ na) ∨ (¬ na < 0 ∧ ¬ nb ≤ na ∧ (X.toks.length : Nat) < nb) ∨ (¬ na < 0 ∧ ¬ nb ≤ na ∧ ¬ ((X.toks.length : Nat) : Int) < nb ∧ nn < 0) := by omega
    unfold c323r
    rcases g with g | ⟨g1, g⟩ | ⟨g1, g2, g⟩ | ⟨g1, g2, g3, g⟩
    all_goals
      repeat' first
        | refine GoH ?_
        | refine ZB (ev_load rfl ht rfl) ?_
        | refine ZB (ev_idx rfl rfl (by omega) hn' rfl) ?_
        | ((with_reducible apply step_allocA); intro ob1 hb1 hk1)
        | ((with_reducible apply step_storeA); rfl; rfl; rfl; exact hb1; rfl; intro ob2 hb2 hk2; have hl2 := (hk2 1 (by omega)).trans ((hk1 1 (by omega)).trans hl))
        | refine ZB (ev_load rfl hb2 rfl) ?_
        | refine ZB (ev_load rfl hl2 rfl) ?_
        | refine ZB (ev_lss_t rfl rfl g) ?_
        | refine ZB (ev_lss_f rfl rfl (by omega)) ?_
        | refine ZB (ev_leq_t rfl rfl g) ?_
        | refine ZB (ev_leq_f rfl rfl (by omega)) ?_
        | refine ZB (ev_gtr_t rfl rfl (by omega)) ?_
        | refine ZB (ev_gtr_f rfl rfl (by omega)) ?_
        | refine ZB rfl ?_|refine ZC rfl ?_
      exact ⟨_, rfl, rfl, Nat.le_succ _, fun y hy => (hk2 y (by omega)).trans (hk1 y hy)⟩
  · rw [if_neg g]
    have tl := fun nx1 ob1 z hz (M1 : RM X nx1 ob1) h0 hk0 => w323d h (nx0 := nx) (nx := nx1) (z := z) (ob0 := ob) (ob := ob1) (i := i) (fu := fu) (sz := sz) (n := n) ok M1 h0 hk0 hm hf hz hi hsz g
    generalize (X.is i n (kidsT X.T i) && !(kidsT X.T i).any (fun k => !X.rightF fu k)) = bb at tl ⊢
    generalize (kidsT X.T i).map natD = kk at *
    obtain ⟨nk, ns, na, nb, nn⟩ := n
    simp only [not_or] at g
    obtain ⟨g1, g2, g3, g4⟩ := g
    have hn' : (X.T.map ndD)[((i : Nat) : Int).toNat]? = some [.int .i64 nk, .str ns, .int .i64 na, .int .i64 nb, .int .i64 nn] := hn'
    unfold c323r at *
    dsimp only [ACode.tail] at tl
    repeat' first
      | ((with_reducible apply weak_keep [0, 1, 2, 3, 4, 7, 8, 9]); rfl; exact tl _ _ _ hb2 (M.keep (Nat.le_succ _) (fun y hy => (hk2 y (by omega)).trans (hk1 y hy))) (Nat.le_succ _) (fun y hy => (hk2 y (by omega)).trans (hk1 y hy)))
      | refine GoH ?_
      | refine ZB (ev_load rfl ht rfl) ?_
      | refine ZB (ev_idx rfl rfl (by omega) hn' rfl) ?_
      | ((with_reducible apply step_allocA); intro ob1 hb1 hk1)
      | ((with_reducible apply step_storeA); rfl; rfl; rfl; exact hb1; rfl; intro ob2 hb2 hk2; have hl2 := (hk2 1 (by omega)).trans ((hk1 1 (by omega)).trans hl); have ht2 := (hk2 2 (by omega)).trans ((hk1 2 (by omega)).trans ht))
      | refine ZB (ev_load rfl hb2 rfl) ?_
      | refine ZB (ev_load rfl hl2 rfl) ?_
      | refine ZB (ev_load rfl ht2 rfl) ?_
      | refine ZB (ev_lss_f rfl rfl (by omega)) ?_
      | refine ZB (ev_leq_f rfl rfl (by omega)) ?_
      | refine ZB (ev_gtr_f rfl rfl (by omega)) ?_
      | ((with_reducible apply Z1 (f := 20)); exact hcl324 _; rfl; rfl; exact h324; rfl)
      | refine ZB rfl ?_|refine ZC rfl ?_
theorem wR : ∀ m, Q323 m
  | 0 => fun X nx ob i fu ok M hi hm hf => by omega
  | m + 1 => w323 (wR m)
def RX.args (X : RX) : List DV := [.agg (envD X.esz X.ops X.f), .c (.list X.lsz (X.toks.map tkD)), .c (.list X.tsz (X.T.map ndD))]
noncomputable def T314 : List DV → Option DV := fam RX.args RX.ok (fun X => .c (.bool X.right))
theorem is_congr {X Y : RX} (h1 : X.ops = Y.ops) (h2 : X.toks = Y.toks) (h3 : X.T = Y.T) (h4 : fitsOf partE X.f = fitsOf partE Y.f) (h5 : ∀ t, X.leaf t = Y.leaf t) (i : Nat) (n : Nd5) (ks : List Nat) : X.is i n ks = Y.is i n ks := by
  unfold RX.is
  rw [h1, h2, h3, h4, h5]
theorem rightF_congr {X Y : RX} (h1 : X.ops = Y.ops) (h2 : X.toks = Y.toks) (h3 : X.T = Y.T) (h4 : fitsOf partE X.f = fitsOf partE Y.f) (h5 : ∀ t, X.leaf t = Y.leaf t) : ∀ m i, X.rightF m i = Y.rightF m i
  | 0, _ => rfl
  | m + 1, i => by
    unfold RX.rightF
    simp only [is_congr h1 h2 h3 h4 h5, rightF_congr h1 h2 h3 h4 h5 m, h2, h3]
theorem right_congr {X Y : RX} (h1 : X.ops = Y.ops) (h2 : X.toks = Y.toks) (h3 : X.T = Y.T) (h4 : fitsOf partE X.f = fitsOf partE Y.f) (h5 : ∀ t, X.leaf t = Y.leaf t) : X.right = Y.right := by
  unfold RX.right
  rw [h3, h2]
  cases Y.T with
  | nil => rfl
  | cons n r => simp only [rightF_congr h1 h2 h3 h4 h5]
theorem T314_eq (X : RX) (h : X.ok) : T314 X.args = some (.c (.bool X.right)) := by
  refine fam_eq (ι := RX) X h ?_
  intro Y _ e
  simp only [RX.args, List.cons.injEq, DV.agg.injEq, DV.c.injEq, D.list.injEq, and_true] at e
  obtain ⟨h1, ⟨_, h2⟩, _, h3⟩ := e
  obtain ⟨h4, h6⟩ := envD_inj h1
  have h2 := tks_inj h2
  have h3 := nds_inj h3
  have h7 : ∀ x, x < 10 → Y.f x = X.f x := fun x hx => by first | exact h6 x hx | exact (h6 x hx).symm
  have h8 : Y.right = X.right := right_congr h4 h2 h3 (fitsOf_rows h7) fun t => by
    unfold RX.leaf
    rw [h4]
    simp only [entsOf]
    rw [List.map_congr_left (fun o _ => entD_eq h7 o)]
  rw [h8]
noncomputable def cl314 : Call := tblh [(18, T322 1000001)] [(19, wpOf (clR 1000001) c323r [.t 6])]
theorem optI_eq {o : Option Nat} {n : Nat} : optI o = (n : Nat) ↔ o = some n := by
  cases o with
  | none => exact ⟨fun h => (by have h : (-1 : Int) = (n : Nat) := h; omega), fun h => (by cases h)⟩
  | some k => exact ⟨fun h => (by have h : ((k : Nat) : Int) = (n : Nat) := h; rw [show k = n by omega]), fun h => (by cases h; rfl)⟩
set_option maxRecDepth 8000 in
set_option maxHeartbeats 8000000 in
theorem w314 (X : RX) (ok : X.ok) : awp cl314 c314r (PureQ [.t 6] (.c (.bool X.right))) ⟨argE 0 (dvArgs X.args), ⟨0, []⟩⟩ := by
  have hw := wR 1000001 X
  have he := T322_eq (M := 1000001) (sz := X.tsz) (i := 0) (T := X.T) ⟨ok.T, by omega, by have := ok.T; omega⟩
  have hTl := ok.T
  obtain ⟨esz, ops, f, lsz, toks, tsz, T⟩ := X
  simp only [RX.args] at he hTl ⊢
  have hml : (toks.map tkD).length = toks.length := List.length_map ..
  have htl : (T.map ndD).length = T.length := List.length_map ..
  have hoe := @optI_eq (endT T 0) T.length
  unfold RX.right
  simp only
  cases T with
  | nil =>
    simp only
    unfold cl314 c314r
    unfold envD
    repeat' first
      | refine GoH ?_
      | (with_reducible first | apply ZS | apply ZT)
      | (with_reducible first|apply ZS|apply ZT)|((with_reducible apply ZU);rfl)|((with_reducible apply ZV);rfl;decide)|((with_reducible apply ZW);rfl)|refine ZX rfl rfl ?_|refine ZY rfl (by (repeat' first|exact True.intro|refine ⟨?_, ?_⟩|exact .inl rfl|exact .inr (.inl rfl)|exact .inr (.inr rfl)|rfl)) ?_
      | refine ZB rfl ?_|refine ZC rfl ?_
    exact ⟨_, rfl, rfl⟩
  | cons n r =>
    have hw := fun nx ob M => hw nx ob 0 (n :: r).length ok M (by simp) (by show (n :: r).length - 0 ≤ _; omega) (by show (n :: r).length - 0 ≤ _; omega)
    simp only
    generalize RX.rightF ⟨esz, ops, f, lsz, toks, tsz, n :: r⟩ (n :: r).length 0 = bb at hw ⊢
    generalize endT (n :: r) 0 = oe at he hoe ⊢
    generalize optI oe = ov at he hoe
    have h0 : ((n :: r).map ndD)[((0 : Int)).toNat]? = some [.int .i64 n.k, .str n.s, .int .i64 n.a, .int .i64 n.b, .int .i64 n.n] := rfl
    have hpos : 0 < (n :: r).length := by simp
    obtain ⟨nk, ns, na, nb, nn⟩ := n
    simp only at h0 ⊢
    generalize hT : (⟨nk, ns, na, nb, nn⟩ :: r : List Nd5) = T at *
    have hcase : (¬ ov = ((T.length : Nat) : Int)) ∨ (ov = ((T.length : Nat) : Int) ∧ na ≠ 0) ∨ (ov = ((T.length : Nat) : Int) ∧ na = 0 ∧ nb ≠ ((toks.length : Nat) : Int)) ∨ (ov = ((T.length : Nat) : Int) ∧ na = 0 ∧ nb = ((toks.length : Nat) : Int)) := by omega
    have hc2 : (decide (oe = some T.length) && decide (na = 0) && decide (nb = ((toks.length : Nat) : Int)) && bb) = if ov = ((T.length : Nat) : Int) ∧ na = 0 ∧ nb = ((toks.length : Nat) : Int) then bb else false := by
      by_cases e1 : ov = ((T.length : Nat) : Int)
      · rw [decide_eq_true (hoe.1 e1)]
        by_cases e2 : na = 0
        · rw [decide_eq_true e2]
          by_cases e3 : nb = ((toks.length : Nat) : Int)
          · rw [decide_eq_true e3, if_pos ⟨e1, e2, e3⟩]; rfl
          · rw [decide_eq_false e3, if_neg (fun h => e3 h.2.2)]; rfl
        · rw [decide_eq_false e2, if_neg (fun h => e2 h.2.1)]; rfl
      · rw [decide_eq_false (fun h => e1 (hoe.2 h)), if_neg (fun h => e1 h.1)]; rfl
    rw [hc2]
    clear hc2 hoe
    unfold cl314 c314r
    unfold envD
    rcases hcase with q | ⟨q1, q⟩ | ⟨q1, q2, q⟩ | ⟨q1, q2, q⟩
    · rw [if_neg (fun h => q h.1)]
      repeat' first
        | refine GoH ?_
        | (with_reducible first | apply ZS | apply ZT)
        | refine ZY (ev_lenT htl rfl) (by (repeat' first|exact True.intro|refine ⟨?_, ?_⟩|exact .inl rfl|exact .inr (.inl rfl)|exact .inr (.inr rfl)|rfl)) ?_
        | refine ZY (ev_lenT hml rfl) (by (repeat' first|exact True.intro|refine ⟨?_, ?_⟩|exact .inl rfl|exact .inr (.inl rfl)|exact .inr (.inr rfl)|rfl)) ?_
        | refine ZY (ev_pcall rfl rfl he rfl rfl) (by (repeat' first|exact True.intro|refine ⟨?_, ?_⟩|exact .inl rfl|exact .inr (.inl rfl)|exact .inr (.inr rfl)|rfl)) ?_
        | refine ZY (ev_idx rfl rfl (by omega) h0 rfl) (by (repeat' first|exact True.intro|refine ⟨?_, ?_⟩|exact .inl rfl|exact .inr (.inl rfl)|exact .inr (.inr rfl)|rfl)) ?_
        | refine ZX rfl (ev_eql_f rfl rfl (by omega)) ?_
        | refine ZX rfl (ev_neq_t rfl rfl q) ?_
        | refine ZX rfl (ev_neq_f rfl rfl (by omega)) ?_
        | (with_reducible first|apply ZS|apply ZT)|((with_reducible apply ZU);rfl)|((with_reducible apply ZV);rfl;decide)|((with_reducible apply ZW);rfl)|refine ZX rfl rfl ?_|refine ZY rfl (by (repeat' first|exact True.intro|refine ⟨?_, ?_⟩|exact .inl rfl|exact .inr (.inl rfl)|exact .inr (.inr rfl)|rfl)) ?_
        | refine ZB rfl ?_|refine ZC rfl ?_
      exact ⟨_, rfl, rfl⟩
    · rw [if_neg (fun h => q h.2.1)]
      repeat' first
        | refine GoH ?_
        | (with_reducible first | apply ZS | apply ZT)
        | refine ZY (ev_lenT htl rfl) (by (repeat' first|exact True.intro|refine ⟨?_, ?_⟩|exact .inl rfl|exact .inr (.inl rfl)|exact .inr (.inr rfl)|rfl)) ?_
        | refine ZY (ev_lenT hml rfl) (by (repeat' first|exact True.intro|refine ⟨?_, ?_⟩|exact .inl rfl|exact .inr (.inl rfl)|exact .inr (.inr rfl)|rfl)) ?_
        | refine ZY (ev_pcall rfl rfl he rfl rfl) (by (repeat' first|exact True.intro|refine ⟨?_, ?_⟩|exact .inl rfl|exact .inr (.inl rfl)|exact .inr (.inr rfl)|rfl)) ?_
        | refine ZY (ev_idx rfl rfl (by omega) h0 rfl) (by (repeat' first|exact True.intro|refine ⟨?_, ?_⟩|exact .inl rfl|exact .inr (.inl rfl)|exact .inr (.inr rfl)|rfl)) ?_
        | refine ZX rfl (ev_eql_f rfl rfl (by omega)) ?_
        | refine ZX rfl (ev_neq_t rfl rfl q) ?_
        | refine ZX rfl (ev_neq_f rfl rfl (by omega)) ?_
        | (with_reducible first|apply ZS|apply ZT)|((with_reducible apply ZU);rfl)|((with_reducible apply ZV);rfl;decide)|((with_reducible apply ZW);rfl)|refine ZX rfl rfl ?_|refine ZY rfl (by (repeat' first|exact True.intro|refine ⟨?_, ?_⟩|exact .inl rfl|exact .inr (.inl rfl)|exact .inr (.inr rfl)|rfl)) ?_
        | refine ZB rfl ?_|refine ZC rfl ?_
      exact ⟨_, rfl, rfl⟩
    · rw [if_neg (fun h => q h.2.2)]
      repeat' first
        | refine GoH ?_
        | (with_reducible first | apply ZS | apply ZT)
        | refine ZY (ev_lenT htl rfl) (by (repeat' first|exact True.intro|refine ⟨?_, ?_⟩|exact .inl rfl|exact .inr (.inl rfl)|exact .inr (.inr rfl)|rfl)) ?_
        | refine ZY (ev_lenT hml rfl) (by (repeat' first|exact True.intro|refine ⟨?_, ?_⟩|exact .inl rfl|exact .inr (.inl rfl)|exact .inr (.inr rfl)|rfl)) ?_
        | refine ZY (ev_pcall rfl rfl he rfl rfl) (by (repeat' first|exact True.intro|refine ⟨?_, ?_⟩|exact .inl rfl|exact .inr (.inl rfl)|exact .inr (.inr rfl)|rfl)) ?_
        | refine ZY (ev_idx rfl rfl (by omega) h0 rfl) (by (repeat' first|exact True.intro|refine ⟨?_, ?_⟩|exact .inl rfl|exact .inr (.inl rfl)|exact .inr (.inr rfl)|rfl)) ?_
        | refine ZX rfl (ev_eql_f rfl rfl (by omega)) ?_
        | refine ZX rfl (ev_neq_t rfl rfl q) ?_
        | refine ZX rfl (ev_neq_f rfl rfl (by omega)) ?_
        | (with_reducible first|apply ZS|apply ZT)|((with_reducible apply ZU);rfl)|((with_reducible apply ZV);rfl;decide)|((with_reducible apply ZW);rfl)|refine ZX rfl rfl ?_|refine ZY rfl (by (repeat' first|exact True.intro|refine ⟨?_, ?_⟩|exact .inl rfl|exact .inr (.inl rfl)|exact .inr (.inr rfl)|rfl)) ?_
        | refine ZB rfl ?_|refine ZC rfl ?_
      exact ⟨_, rfl, rfl⟩
    · rw [if_pos ⟨q1, q2, q⟩]
      have hw := hw 4 [(3, .cells [.clo 19 [.ptr 2 0, .ptr 1 0, .ptr 0 0, .ptr 3 0]]), (2, .cells [.d (.list tsz (T.map ndD))]), (1, .cells [.d (.list lsz (toks.map tkD))]), (0, .cells (.d (.list esz (ops.map opD)) :: rowsC f))] ⟨rfl, rfl, rfl, rfl, by omega⟩
      repeat' first
        | refine GoH ?_
        | (with_reducible first | apply ZS | apply ZT)
        | refine ZY (ev_lenT htl rfl) (by (repeat' first|exact True.intro|refine ⟨?_, ?_⟩|exact .inl rfl|exact .inr (.inl rfl)|exact .inr (.inr rfl)|rfl)) ?_
        | refine ZY (ev_lenT hml rfl) (by (repeat' first|exact True.intro|refine ⟨?_, ?_⟩|exact .inl rfl|exact .inr (.inl rfl)|exact .inr (.inr rfl)|rfl)) ?_
        | refine ZY (ev_pcall rfl rfl he rfl rfl) (by (repeat' first|exact True.intro|refine ⟨?_, ?_⟩|exact .inl rfl|exact .inr (.inl rfl)|exact .inr (.inr rfl)|rfl)) ?_
        | refine ZY (ev_idx rfl rfl (by omega) h0 rfl) (by (repeat' first|exact True.intro|refine ⟨?_, ?_⟩|exact .inl rfl|exact .inr (.inl rfl)|exact .inr (.inr rfl)|rfl)) ?_
        | refine ZX rfl (ev_eql_f rfl rfl (by omega)) ?_
        | refine ZX rfl (ev_neq_t rfl rfl q) ?_
        | refine ZX rfl (ev_neq_f rfl rfl (by omega)) ?_
        | (with_reducible first|apply ZS|apply ZT)|((with_reducible apply ZU);rfl)|((with_reducible apply ZV);rfl;decide)|((with_reducible apply ZW);rfl)|refine ZX rfl rfl ?_|refine ZY rfl (by (repeat' first|exact True.intro|refine ⟨?_, ?_⟩|exact .inl rfl|exact .inr (.inl rfl)|exact .inr (.inr rfl)|rfl)) ?_
        | ((with_reducible apply step_vR); rfl; rfl; exact fun _ _ _ hk => wpOf_one (fineR _) hk; exact hw; rintro v nx2 ob2 ⟨rfl, e2, e3⟩; simp only at e2 e3)
        | refine ZB rfl ?_|refine ZC rfl ?_
      exact ⟨_, rfl, rfl⟩
theorem pok341 (m : Int) (M : Nat) (h : HeapOk Go.Proofs.Tryd.prog (glb m) 25 (wpOf (clA (clR M)) c328r [.t 3])) : HeapOk Go.Proofs.Tryd.prog (glb m) 51 (wpOf (clB (clR M)) c341r [.t 4]) := wpOf_ok (fn341r m) (callh_cons h (callh_nil (callOk_nil _ _)))
theorem pureR_ok (m : Int) (h29 : PureOk Go.Proofs.Tryd.prog (glb m) 21 (T29 partE)) (h326 : PureOk Go.Proofs.Tryd.prog (glb m) 23 T326) : CallOk Go.Proofs.Tryd.prog (glb m) (tbl [(20, T324), (21, T29 partE), (22, T325), (23, T326)]) := callOk_cons (pok324 m) (callOk_cons h29 (callOk_cons (pok325 m) (callOk_cons h326 (callOk_nil _ _))))
theorem pok323 (m : Int) (h29 : PureOk Go.Proofs.Tryd.prog (glb m) 21 (T29 partE)) (h326 : PureOk Go.Proofs.Tryd.prog (glb m) 23 T326) : ∀ M, HeapOk Go.Proofs.Tryd.prog (glb m) 19 (wpOf (clR M) c323r [.t 6])
  | 0 => wpOf_ok (fn323r m) (callh_nil (pureR_ok m h29 h326))
  | M + 1 => wpOf_ok (fn323r m) (callh_cons (wpOf_ok (fn327r m) (callh_cons (pok341 m M (wpOf_ok (fn328r m) (callh_cons (pok323 m h29 h326 M) (callh_nil (callOk_nil _ _))))) (callh_nil (callOk_nil _ _)))) (callh_nil (pureR_ok m h29 h326)))
theorem pok314 (m : Int) (h29 : PureOk Go.Proofs.Tryd.prog (glb m) 21 (T29 partE)) (h326 : PureOk Go.Proofs.Tryd.prog (glb m) 23 T326) : PureOk Go.Proofs.Tryd.prog (glb m) 11 T314 := .inl (fam_ok (fn314r m) (callh_cons (pok323 m h29 h326 _) (callh_nil (callOk_cons (pok322 m _) (callOk_nil _ _)))) w314)
end Go.Am
namespace Go.Am
open Go
def rowT (sg : List UInt8) : Nat → List UInt8
  | 0 => [97, 48]
  | n + 1 => rowT sg n ++ [32] ++ sg ++ [32, 97] ++ [UInt8.ofNat (48 + (n + 1) % 10)]
def chE (g a : Nat) : List Op3 := [⟨[95, 43, 95], 1 + (g : Int), (a : Int)⟩]
def noNd : Nd5 := ⟨0, [], 0, 0, 0⟩
def chI (t : List Nd5) (k a i : Nat) : Bool := (!(a == 2) || (decide ((t.getD (2 * i) noNd).k = 3) && decide ((t.getD (2 * i) noNd).a = 2 * (i : Int)))) &&
  (!(a == 1) || (decide ((t.getD i noNd).k = 3) && decide ((t.getD i noNd).a = 0) && decide ((t.getD i noNd).b = (2 * (k : Int) + 1) - 2 * (i : Int))))
def chX (g a : Nat) (toks : List Tk5) (t : List Nd5) : RX := ⟨3, chE g a, liftF startF, 5, toks, 5, t⟩
def chB (k a g : Nat) : Bool := ((lexT (rowT [43] k)).length == 2 * k + 1) && match (drvOf (chE g a) (liftF startF) (lexT (rowT [43] k))).allZ 0 (2 * k + 1) with
  | [] => (a == 0) && decide (1 < k)
  | [t] => !((a == 0) && decide (1 < k)) && (t.length == 2 * k + 1) && (chX g a (lexT (rowT [43] k)) t).right && (List.range k).all (chI t k a)
  | _ => false
theorem ch_all : ∀ k < 8, ∀ a < 3, ∀ g < 9, chB k a g = true := by decide +kernel
def chA (g a : Nat) : Bool := mayOf partE [95, 43, 95] (1 + (g : Int)) (a : Int) == 0
theorem chA_all : ∀ g < 9, ∀ a < 3, chA g a = true := by decide +kernel
end Go.Am
namespace Go.Am
open Go
theorem rowT_len (sg : List UInt8) : ∀ n, (rowT sg n).length = 2 + n * (4 + sg.length)
  | 0 => by simp [rowT]
  | n + 1 => by
    unfold rowT
    simp only [List.length_append, rowT_len sg n, List.length_cons, List.length_nil]
    rw [Nat.succ_mul]
    omega
theorem rowT_succ (sg : List UInt8) (n : Nat) : rowT sg (n + 1) = rowT sg n ++ [32] ++ sg ++ [32, 97] ++ [UInt8.ofNat (48 + (n + 1) % 10)] := rfl
theorem ev_toU8 {cl : Call} {e : Env} {h : Hp} {x : Opd} {k : IntKind} {n : Int} (hx : ev e x = .c (.d (.int k n))) (h0 : 0 ≤ n) (h1 : n < 256) : eval cl e h (.toInt .u8 x) = some (.c (.d (.int .u8 n)), h) := by
  have hw : IntKind.u8.wrap n = n := wrap8 h0 h1
  simp only [eval, hx, hw]
noncomputable def T313 : List DV → Option DV := fam (fun x : List UInt8 × Nat => [.c (.str x.1), .c (.int .i64 (x.2 : Nat))]) (fun x => x.1.length ≤ 10 ∧ x.2 ≤ 8) (fun x => .c (.list 5 ((lexT (rowT x.1 x.2)).map tkD)))
theorem T313_eq {sg : List UInt8} {k : Nat} (h1 : sg.length ≤ 10) (h2 : k ≤ 8) : T313 [.c (.str sg), .c (.int .i64 (k : Nat))] = some (.c (.list 5 ((lexT (rowT sg k)).map tkD))) := by
  refine fam_eq (ι := List UInt8 × Nat) (sg, k) ⟨h1, h2⟩ ?_
  rintro ⟨sg', k'⟩ _ e
  simp only [List.cons.injEq, DV.c.injEq, D.str.injEq, D.int.injEq, true_and, and_true] at e
  obtain ⟨rfl, e⟩ := e
  rw [show k' = k by omega]
set_option maxRecDepth 8000 in
set_option maxHeartbeats 4000000 in
theorem w313 (x : List UInt8 × Nat) (hx : x.1.length ≤ 10 ∧ x.2 ≤ 8) : awp (tbl [(9, onB FAll)]) c313r (PureQ [.t 4] (.c (.list 5 ((lexT (rowT x.1 x.2)).map tkD)))) ⟨argE 0 (dvArgs [.c (.str x.1), .c (.int .i64 (x.2 : Nat))]), ⟨0, []⟩⟩ := by
  obtain ⟨sg, k⟩ := x
  obtain ⟨h1, h2⟩ := hx
  simp only at h1 h2 ⊢
  have hlen : ∀ j, j ≤ 8 → (rowT sg j).length ≤ 200 := fun j hj => by
    rw [rowT_len]
    have : j * (4 + sg.length) ≤ 8 * 14 := Nat.mul_le_mul hj (by omega)
    omega
  have x1 := onB_eq (F := FAll) (sz := 1) (s := rowT sg k) (.inl rfl) (by have := hlen k h2; unfold room; omega)
  rw [FAll_T] at x1
  generalize (lexT (rowT sg k)).map tkD = t1 at x1 ⊢
  have hk := hlen k h2
  unfold c313r
  repeat' first | refine GoH ?_ | refine ZB rfl ?_|refine ZC rfl ?_
  refine awp_loop (fun q st => ∃ (j nx : Nat) (ob : List (Nat × Ob)), j ≤ k ∧ k - j < q ∧
    st = ⟨[(0, .c (.d (.str sg))), (1, .c (.d (.int .i64 (k : Nat)))), (5, .c (.d (.str (rowT sg j)))), (6, .c (.d (.int .i64 ((j + 1 : Nat) : Int))))], ⟨nx, ob⟩⟩) (k + 1) ?_ (by rintro st ⟨j, _, _, _, h, _⟩; omega) ?_
  · exact weak_keep [0, 1, 5, 6] rfl ⟨0, _, _, by omega, by omega, rfl⟩
  · rintro q K hK st ⟨j, nx, ob, hj, hq, rfl⟩
    by_cases hend : j = k
    · subst hend
      repeat' first
        | refine GoH ?_
        | refine ZB (ev_leq_f rfl rfl (by omega)) ?_
        | refine ZB (ev_s2b0 rfl (Nat.le_trans hk (by unfold room; decide))) ?_
        | ((with_reducible apply Z1 (f := 9));rfl;rfl;rfl;exact x1;rfl)
        | refine ZB rfl ?_|refine ZC rfl ?_
      exact ⟨_, rfl, rfl⟩
    · have hl := hlen j (by omega)
      have hm : (j + 1) % 10 < 10 := Nat.mod_lt _ (by decide)
      have hs := rowT_succ sg j
      generalize rowT sg j = s at *
      repeat' first
        | refine GoH ?_
        | refine ZB (ev_leq_t rfl rfl (by omega)) ?_
        | refine ZB (ev_addsL rfl rfl (by omega) (by decide)) ?_
        | refine ZB (ev_addsL rfl rfl (by simp only [List.length_append, List.length_cons, List.length_nil]; omega) (by omega)) ?_
        | refine ZB (ev_addsL rfl rfl (by simp only [List.length_append, List.length_cons, List.length_nil]; omega) (by decide)) ?_
        | refine ZB (ev_remN2 (b := 10) rfl rfl (by decide)) ?_
        | refine ZB (ev_toU8 rfl (by omega) (by omega)) ?_
        | ((with_reducible apply step_lit1); rfl; omega; omega; intro c hc)
        | ((with_reducible apply ZR); rfl)
        | refine ZB (ev_addsL rfl rfl (by simp only [List.length_append, List.length_cons, List.length_nil]; omega) (by simp)) ?_
        | refine ZB (ev_add1N rfl rfl (by omega)) ?_
        | refine ZB (ev_add rfl rfl (by omega) (by omega)) ?_
        | refine ZB rfl ?_|refine ZC rfl ?_
      have hce : UInt8.ofNat (48 + (j + 1) % 10) = c := by
        have : c.toNat = 48 + (j + 1) % 10 := by omega
        rw [← this, UInt8.ofNat_toNat]
      rw [hce] at hs
      rw [← hs]
      exact hK _ (weak_keep [0, 1, 5, 6] rfl ⟨j + 1, nx, ob, by omega, by omega, rfl⟩)
theorem pok313 (m : Int) : PureOk Go.Proofs.Tryd.prog (glb m) 10 T313 := .inl (fam_ok (fn313r m) (callOk_cons (pe37 m) (callOk_nil _ _)) w313)
noncomputable def cl304 : Call := tbl [(6, G310), (7, T311), (8, T312), (10, T313), (11, T314)]
def chC (k a g : Nat) (n : Int) (sz : Nat) (E : List (List D)) (toks : List Tk5) : Prop := (a = 0 ∧ 1 < k ∧ n = 0) ∨
  (¬ (a = 0 ∧ 1 < k) ∧ n = 1 ∧ sz = 5 ∧ ∃ t : List Nd5, E = t.map ndD ∧ t.length = 2 * k + 1 ∧ (chX g a toks t).right = true ∧ ∀ i < k, chI t k a i = true)
theorem nd_get {t : List Nd5} {i : Nat} (h : i < t.length) : t[i]? = some (t.getD i noNd) := by
  rw [List.getD_eq_getElem?_getD, List.getElem?_eq_getElem h]
  rfl
set_option maxRecDepth 8000 in
set_option maxHeartbeats 8000000 in
theorem w304l {k a nx : Nat} {t : List Nd5} {toks : List Tk5} {ob : List (Nat × Ob)} (hk : k < 8) (ha : a < 3) (htl : toks.length = 2 * k + 1) (hl : t.length = 2 * k + 1) (hI : ∀ i < k, chI t k a i = true) :
    awp cl304 (c304r.tail 9) (PureQ [.t 6] (.c (.bool true))) ⟨[(7, .c (.d (.bool true))), (8, .c (.d (.int .i64 (k : Nat)))), (9, .c (.d (.int .i64 (a : Nat)))), (11, .c (.d (.list 5 (toks.map tkD)))), (13, .c (.d (.list 5 (t.map ndD))))], ⟨nx, ob⟩⟩ := by
  have hml : (toks.map tkD).length = 2 * k + 1 := by rw [List.length_map, htl]
  unfold c304r
  dsimp only [ACode.tail]
  repeat' first | refine GoH ?_ | refine ZB rfl ?_|refine ZC rfl ?_
  refine awp_loop (fun q st => ∃ (i nx : Nat) (ob : List (Nat × Ob)), i ≤ k ∧ k - i < q ∧
    st = ⟨[(7, .c (.d (.bool true))), (8, .c (.d (.int .i64 (k : Nat)))), (9, .c (.d (.int .i64 (a : Nat)))), (11, .c (.d (.list 5 (toks.map tkD)))), (13, .c (.d (.list 5 (t.map ndD)))), (14, .c (.d (.int .i64 (i : Nat))))], ⟨nx, ob⟩⟩) (k + 1) ?_ (by rintro st ⟨i, _, _, _, h, _⟩; omega) ?_
  · exact weak_keep [7, 8, 9, 11, 13, 14] rfl ⟨0, _, _, by omega, by omega, rfl⟩
  · rintro q K hK st ⟨i, nx1, ob1, hi, hq, rfl⟩
    by_cases hend : i = k
    · subst hend
      repeat' first
        | refine GoH ?_
        | refine ZB (ev_lss_f rfl rfl (by omega)) ?_
        | refine ZB rfl ?_|refine ZC rfl ?_
      exact ⟨_, rfl, rfl⟩
    · have hc := hI i (by omega)
      have n1 := nd_at (nd_get (t := t) (i := i) (by omega))
      have n2 := nd_at (nd_get (t := t) (i := 2 * i) (by omega))
      unfold chI at hc
      generalize t.getD i noNd = x at n1 hc
      generalize t.getD (2 * i) noNd = y at n2 hc
      obtain ⟨xk, xs, xa, xb, xn⟩ := x
      obtain ⟨yk, ys, ya, yb, yn⟩ := y
      have n1 : (t.map ndD)[((i : Nat) : Int).toNat]? = some [.int .i64 xk, .str xs, .int .i64 xa, .int .i64 xb, .int .i64 xn] := n1
      have n2 : (t.map ndD)[((2 * i : Nat) : Int).toNat]? = some [.int .i64 yk, .str ys, .int .i64 ya, .int .i64 yb, .int .i64 yn] := n2
      simp only [Bool.and_eq_true, Bool.or_eq_true, Bool.not_eq_true', beq_eq_false_iff_ne, ne_eq, decide_eq_true_eq] at hc
      obtain ⟨c2, c1⟩ := hc
      have hcase : (a ≠ 2 ∧ a ≠ 1) ∨ (a = 2 ∧ yk = 3 ∧ ya = 2 * (i : Int)) ∨ (a = 1 ∧ xk = 3 ∧ xa = 0 ∧ xb = (2 * (k : Int) + 1) - 2 * (i : Int)) := by
        rcases Nat.lt_or_ge a 1 with h | h
        · exact .inl ⟨by omega, by omega⟩
        · rcases Nat.lt_or_ge a 2 with h2 | h2
          · have : a = 1 := by omega
            rcases c1 with c1 | c1
            · exact absurd this c1
            · exact .inr (.inr ⟨this, c1.1.1, c1.1.2, c1.2⟩)
          · have : a = 2 := by omega
            rcases c2 with c2 | c2
            · exact absurd this c2
            · exact .inr (.inl ⟨this, c2.1, c2.2⟩)
      clear c1 c2 hI
      rcases hcase with ⟨q1, q2⟩ | ⟨q1, q2, q3⟩ | ⟨q1, q2, q3, q4⟩
      all_goals
        repeat' first
          | refine GoH ?_
          | refine ZB (ev_lss_t rfl rfl (by omega)) ?_
          | refine ZB (ev_eql_t rfl rfl (by omega)) ?_
          | refine ZB (ev_eql_f rfl rfl (by omega)) ?_
          | refine ZB (ev_mulN (a := 2) rfl rfl (by omega)) ?_
          | refine ZB (ev_idx rfl rfl (by omega) n1 rfl) ?_
          | refine ZB (ev_idx rfl rfl (by omega) n2 rfl) ?_
          | refine ZB (ev_neq_f rfl rfl (by omega)) ?_
          | refine ZB (ev_lenT hml rfl) ?_
          | refine ZB (ev_sub rfl rfl (by omega) (by omega)) ?_
          | refine ZB (ev_add1N rfl rfl (by omega)) ?_
          | refine ZB rfl ?_|refine ZC rfl ?_
        exact hK _ (weak_keep [7, 8, 9, 11, 13, 14] rfl ⟨i + 1, nx1, ob1, by omega, by omega, rfl⟩)
set_option maxRecDepth 8000 in
set_option maxHeartbeats 8000000 in
theorem w304c {k a g z nx sz : Nat} {n : Int} {E : List (List D)} {toks : List Tk5} {ob : List (Nat × Ob)} (hk : k < 8) (ha : a < 3) (htl : toks.length = 2 * k + 1) (hc : chC k a g n sz E toks) (hz : look ob z = some (.cells ((envD 3 (chE g a) (liftF startF)).map .d))) :
    awp cl304 (c304r.tail 7) (PureQ [.t 6] (.c (.bool true))) ⟨[(7, .c (.d (.bool true))), (8, .c (.d (.int .i64 (k : Nat)))), (9, .c (.d (.int .i64 (a : Nat)))), (10, .c (.ptr z 0)), (11, .c (.d (.list 5 (toks.map tkD)))), (12, .c (.d (.int .i64 n))), (13, .c (.d (.list sz E)))], ⟨nx, ob⟩⟩ := by
  rcases hc with ⟨q1, q2, rfl⟩ | ⟨q1, rfl, rfl, t, rfl, hl, hr, hI⟩
  · unfold c304r
    dsimp only [ACode.tail]
    repeat' first
      | refine GoH ?_
      | refine ZB (ev_eql_t rfl rfl (by omega)) ?_
      | refine ZB (ev_gtr_t rfl rfl (by omega)) ?_
      | refine ZB rfl ?_|refine ZC rfl ?_
    exact ⟨_, rfl, rfl⟩
  · have tl := fun nx ob => w304l (nx := nx) (ob := ob) hk ha htl hl hI
    have hml : (t.map ndD).length = 2 * k + 1 := by rw [List.length_map, hl]
    have h314 := T314_eq (chX g a toks t) ⟨by show 1 ≤ 1000; decide, by show toks.length ≤ _; omega, by show t.length ≤ _; omega⟩
    rw [hr] at h314
    simp only [RX.args, chX] at h314
    unfold envD at h314
    unfold cl304 c304r at *
    dsimp only [ACode.tail] at *
    by_cases q2 : a = 0
    all_goals
      repeat' first
        | ((with_reducible apply weak_keep [7, 8, 9, 11, 13]); rfl; exact tl _ _)
        | refine GoH ?_
        | refine ZB (ev_eql_t rfl rfl (by omega)) ?_
        | refine ZB (ev_eql_f rfl rfl (by omega)) ?_
        | refine ZB (ev_gtr_f rfl rfl (by omega)) ?_
        | refine ZB (ev_load rfl hz rfl) ?_
        | ((with_reducible apply Z1 (f := 11));rfl;rfl;rfl;exact h314;rfl)
        | refine ZB (ev_lenT hml rfl) ?_
        | refine ZB (ev_mulN (a := 2) rfl rfl (by omega)) ?_
        | refine ZB (ev_addN2 (b := 1) rfl rfl (by omega)) ?_
        | refine ZB (ev_neq_f rfl rfl (by omega)) ?_
        | refine ZB rfl ?_|refine ZC rfl ?_
theorem ch_with {g a : Nat} (hg : g < 9) (ha : a < 3) : withL (chE g a) [] = chE g a := by
  have hA := chA_all g hg a ha
  unfold chA at hA
  rw [beq_iff_eq] at hA
  show addTo _ [] = _
  rw [addTo_one hA]
  rfl
theorem ch_cnt {k a g : Nat} (hk : k < 8) (ha : a < 3) (hg : g < 9) : (lexT (rowT [43] k)).length = 2 * k + 1 ∧ ∃ (c : Int) (sz : Nat) (E : List (List D)), (∀ e s, T312 [.agg (envD e (chE g a) (liftF startF)), .c (.list s ((lexT (rowT [43] k)).map tkD))] = some (.tup [.c (.int .i64 c), .c (.list sz E)])) ∧ chC k a g c sz E (lexT (rowT [43] k)) := by
  have hB := ch_all k hk a ha g hg
  unfold chB at hB
  generalize lexT (rowT [43] k) = toks at hB ⊢
  rw [Bool.and_eq_true, beq_iff_eq] at hB
  obtain ⟨hl, hB⟩ := hB
  refine ⟨hl, ?_⟩
  have key : ∀ (L : List (List Nd5)), (drvOf (chE g a) (liftF startF) toks).allZ 0 (2 * k + 1) = L → ∀ e s, T312 [.agg (envD e (chE g a) (liftF startF)), .c (.list s (toks.map tkD))] = some (resL L) := by
    intro L hL e s
    rw [T312_eq ⟨by show 1 ≤ 1000; decide, by omega⟩]
    congr 1
    have hn' : (drvOf (chE g a) (liftF startF) toks).toks.length = 2 * k + 1 := hl
    exact cnt_res (by rw [hn', ← allZ_eq, hL]) (by omega)
  generalize (drvOf (chE g a) (liftF startF) toks).allZ 0 (2 * k + 1) = L at hB key
  have key := key L rfl
  match L, hB, key with
  | [], hB, key =>
    refine ⟨0, 0, [], key, .inl ?_⟩
    simp at hB
    exact ⟨hB.1, hB.2, rfl⟩
  | [t], hB, key =>
    refine ⟨1, 5, t.map ndD, key, .inr ?_⟩
    simp only [Bool.and_eq_true, Bool.not_eq_true', Bool.and_eq_false_iff, beq_iff_eq, List.all_eq_true, List.mem_range] at hB
    obtain ⟨⟨⟨h1, h2⟩, h3⟩, h4⟩ := hB
    refine ⟨?_, rfl, rfl, t, rfl, h2, h3, h4⟩
    rintro ⟨e1, e2⟩
    rcases h1 with h1 | h1
    · simp [e1] at h1
    · simp [e2] at h1
noncomputable def T304 : List DV → Option DV := fam (fun x : Nat × Nat × Nat => [.c (.int .u8 (x.1 : Nat)), .c (.int .u8 (x.2.1 : Nat)), .c (.int .u8 (x.2.2 : Nat))]) (fun x => x.1 < 256 ∧ x.2.1 < 256 ∧ x.2.2 < 256) (fun _ => .c (.bool true))
theorem T304_eq {a b c : Nat} (ha : a < 256) (hb : b < 256) (hc : c < 256) : T304 [.c (.int .u8 (a : Nat)), .c (.int .u8 (b : Nat)), .c (.int .u8 (c : Nat))] = some (.c (.bool true)) := by
  refine fam_eq (ι := Nat × Nat × Nat) (a, b, c) ⟨ha, hb, hc⟩ ?_
  intro _ _ _
  rfl
set_option maxRecDepth 8000 in
set_option maxHeartbeats 8000000 in
theorem w304 (x : Nat × Nat × Nat) (hx : x.1 < 256 ∧ x.2.1 < 256 ∧ x.2.2 < 256) : awp cl304 c304r (PureQ [.t 6] (.c (.bool true))) ⟨argE 0 (dvArgs [.c (.int .u8 (x.1 : Nat)), .c (.int .u8 (x.2.1 : Nat)), .c (.int .u8 (x.2.2 : Nat))]), ⟨0, []⟩⟩ := by
  obtain ⟨A, B, C⟩ := x
  obtain ⟨hA, hB, hC⟩ := hx
  simp only at hA hB hC ⊢
  have h310 : G310 [] = some (.c (.bool true)) := rfl
  have hk : A % 8 < 8 := Nat.mod_lt _ (by decide)
  have ha : B % 3 < 3 := Nat.mod_lt _ (by decide)
  have hg : C % 9 < 9 := Nat.mod_lt _ (by decide)
  have h311 := T311_eq (sz := 3) (L := chE (C % 9) (B % 3)) (by show 1 ≤ 500; decide)
  rw [ch_with hg ha] at h311
  have h313 := T313_eq (sg := [43]) (k := A % 8) (by decide) (by omega)
  obtain ⟨htl, n, sz, E, hcnt, hc⟩ := ch_cnt hk ha hg
  have hcnt := hcnt 3 5
  generalize lexT (rowT [43] (A % 8)) = toks at *
  have tl := fun nx ob z hz => w304c (nx := nx) (ob := ob) (z := z) hk ha htl hc hz
  clear hc
  unfold cl304 at *
  unfold envD zs chE at *
  simp only at h311
  unfold c304r at *
  dsimp only [ACode.tail] at tl
  repeat' first
    | ((with_reducible apply weak_keep [7, 8, 9, 10, 11, 12, 13]); rfl; exact tl _ _ _ rfl)
    | refine GoH ?_
    | ((with_reducible apply Z1 (f := 6));rfl;rfl;rfl;exact h310;rfl)
    | ((with_reducible apply Z1 (f := 7));rfl;rfl;rfl;exact h311;rfl)
    | ((with_reducible apply Z1 (f := 10));rfl;rfl;rfl;exact h313;rfl)
    | ((with_reducible apply Z1 (f := 8));rfl;rfl;rfl;exact hcnt;rfl)
    | refine ZB (ev_toI64 rfl (by omega)) ?_
    | refine ZB (ev_remN2 (b := 8) rfl rfl (by decide)) ?_
    | refine ZB (ev_remN2 (b := 3) rfl rfl (by decide)) ?_
    | refine ZB (ev_remN2 (b := 9) rfl rfl (by decide)) ?_
    | refine ZB (ev_add rfl rfl (by omega) (by omega)) ?_
    | refine ZB rfl ?_|refine ZC rfl ?_
theorem deriveChain_ok (m : Int) : PureFn Go.Proofs.Tryd.prog (glb m) 5 T304 := fam_ok (fn304r m) (callOk_cons (pok310 m) (callOk_cons (pok311 (p42E m)) (callOk_cons (pok312 m) (callOk_cons (pok313 m) (callOk_cons (pok314 m (pok29 (p19E m)) (pok326 m (pok23 (p19E m)) (p19E m))) (callOk_nil _ _)))))) w304
end Go.Am
namespace Go.Proofs.YtpidbhbmamjbpaaDoor
open Go Go.Am Go.ChangeShapes Go.WideShapes Go.ChangeAt Go.RowKit Go.Lib
theorem laidOut : laidOutB Tryd.prog = true := by kernel_rfl
theorem own : ownKnob Tryd.prog.godebug = none := by kernel_rfl
theorem laidRows_met (os : Os) (args : Array Value) : laidMet Tryd.prog Rows.deriveChainRow.laid ((laidWorld os).forCall (fun _ _ => 0) ⟨#[], args, []⟩).memory :=
  (LaidIn.of_run (l := Rows.deriveChainRow.laid) [0, 3, 2] 8 (by kernel_rfl) (by kernel_rfl) (by kernel_rfl) (by kernel_rfl)).met
theorem glob_row {W : World} (hL : laidMetH Tryd.prog Rows.deriveChainRow.laid W) (hs : W.ShapedOpen Tryd.prog) : ∃ m, GlobOk (glb m) W (fun _ => False) := by
  rw [MakeChecks.laidMetH_plain _ _ _ (by kernel_rfl)] at hL
  obtain ⟨ps, ⟨g, t, cs, fuel, p, q, h1, h2, h3, h4, _, _⟩, _⟩ := hL
  obtain ⟨m, hm⟩ := maxLen_of hs
  refine ⟨m, fun g' ds hg => ?_⟩
  unfold glb at hg
  split at hg
  · rename_i e
    subst e
    cases hg
    exact glob_of_laid (k := 8) (t := 123) gMembers (by kernel_rfl) (by kernel_rfl) ⟨g, t, cs, fuel, p, h1, h2, h3, h4⟩
  · split at hg
    · rename_i e
      subst e
      cases hg
      exact .lptr _ 0 1 0 (fun _ => .int .i64 m) (fun _ h => h) (fun i hi => by
        have : i = 0 := by simpa using hi
        subst this
        exact hm) (fun i d hd => by
        cases i with
        | zero => cases hd; exact .int _ _
        | succ i => simp at hd)
    · cases hg
theorem witness_row_law (os : Os) {H : Type} (enc : TypeId × Value → H) :
    (OpenSpec.ofChange Rows.deriveChainSpec).preRow enc Tryd.prog Tryd.f5 Rows.deriveChainRow.domain false Rows.deriveChainRow.laid ((laidWorld os).forCall (fun _ _ => 0) ⟨#[], #[.int .u8 0, .int .u8 0, .int .u8 0], []⟩).memory #[.int .u8 0, .int .u8 0, .int .u8 0] := by
  have hw : (DataW.whole enc Tryd.prog ((laidWorld os).forCall (fun _ _ => 0) ⟨#[], #[.int .u8 0, .int .u8 0, .int .u8 0], []⟩).memory Tryd.f5.params.toList (OpenSpec.ofChange Rows.deriveChainSpec).vars false (#[.int .u8 0, .int .u8 0, .int .u8 0] : Array Value).toList 8).map (fun x => (x.1, x.2.1)) =
      some ([.lit (.int .u8 0), .lit (.int .u8 0), .lit (.int .u8 0)], []) := by kernel_rfl
  obtain ⟨⟨x1, x2, x3⟩, hx, hx1⟩ := Option.map_eq_some_iff.1 hw
  simp only [Prod.mk.injEq] at hx1
  obtain ⟨rfl, rfl⟩ := hx1
  exact OpenSpec.preRow_of_cond 8 hx (by kernel_rfl) (fun k hk => by cases hk) (by kernel_rfl) (laidRows_met os _)
set_option maxRecDepth 100000 in
set_option maxHeartbeats 2000000 in
theorem law_lifted (os : Os) (started : os.Started) (H : Type) (enc : TypeId × Value → H) (F : Stop.Interp) :
    ReturnsInHanded {} Tryd.checked os 5 .any ((OpenSpec.ofChange Rows.deriveChainSpec).preRow enc Tryd.prog Tryd.f5 Rows.deriveChainRow.domain false Rows.deriveChainRow.laid) (((OpenSpec.ofChange Rows.deriveChainSpec).at F).post enc Tryd.prog Tryd.f5 false true false false) := by
  refine returnsInHanded_of_row (C := Tryd.checked) (s := OpenSpec.ofChange Rows.deriveChainSpec) own started (by kernel_rfl) Tryd.func5
    (witness_row_atRef (enc := enc) (C := Tryd.checked) false (laidWorld os) #[.int .u8 0, .int .u8 0, .int .u8 0] rfl (by kernel_rfl) (by kernel_rfl) (by kernel_rfl) (witness_row_law os enc)) ?_
  intro W base args ds gs before hval0 hW _ _ hwt hL hsh _
  have hval : ∀ (j : Nat) t v, Tryd.f5.params[j]? = some t → args[j]? = some v → Value.okWide Tryd.prog W .any base t v := hval0
  have hW' := hW
  obtain ⟨p, q, hA0, hV0, rfl, _, _⟩ := hW
  have hA : DataW.TrodAll enc Tryd.prog W 0 (fun _ => true) true Tryd.f5.params.toList args.toList ds p := hA0
  rw [Tryd.params5] at hA hval
  obtain ⟨v0, v1, v2, d0, d1, d2, p0, p1, p2, rfl, rfl, rfl, h0, h1, h2⟩ := trodAll_three hA
  obtain ⟨rfl, rfl⟩ := trodVars_none hV0
  have hwt2 : (DataW.weightsEach Tryd.prog ([5, 5, 5] : List TypeId) [d0, d1, d2]).all (· ≤ reachBytes) = true := hwt
  simp only [DataW.weightsEach, List.append_nil, List.all_append, Bool.and_eq_true, List.all_eq_true, decide_eq_true_eq] at hwt2
  obtain ⟨g0, g1, g2⟩ := hwt2
  obtain ⟨a0, rfl⟩ := okWide_int Tryd.underlying5 (hval 0 5 v0 rfl rfl)
  have k0 := h0
  obtain ⟨n0, hn0⟩ := h0
  have lt0 : ∀ x ∈ p0, x.block < W.heap.size := DataW.trod_lt n0 _ _ _ hn0
  obtain ⟨e0, o0, r0⟩ := arg_rep 8 hn0 (show tyOf Tryd.prog 8 5 = some (.int .u8) by kernel_rfl) g0
  obtain ⟨w0, rfl, q0⟩ := u8_is o0
  obtain ⟨a1, rfl⟩ := okWide_int Tryd.underlying5 (hval 1 5 v1 rfl rfl)
  have k1 := h1
  obtain ⟨n1, hn1⟩ := h1
  have lt1 : ∀ x ∈ p1, x.block < W.heap.size := DataW.trod_lt n1 _ _ _ hn1
  obtain ⟨e1, o1, r1⟩ := arg_rep 8 hn1 (show tyOf Tryd.prog 8 5 = some (.int .u8) by kernel_rfl) g1
  obtain ⟨w1, rfl, q1⟩ := u8_is o1
  obtain ⟨a2, rfl⟩ := okWide_int Tryd.underlying5 (hval 2 5 v2 rfl rfl)
  have k2 := h2
  obtain ⟨n2, hn2⟩ := h2
  have lt2 : ∀ x ∈ p2, x.block < W.heap.size := DataW.trod_lt n2 _ _ _ hn2
  obtain ⟨e2, o2, r2⟩ := arg_rep 8 hn2 (show tyOf Tryd.prog 8 5 = some (.int .u8) by kernel_rfl) g2
  obtain ⟨w2, rfl, q2⟩ := u8_is o2
  clear hA0 hV0 hval0
  obtain ⟨m, hg⟩ := glob_row hL hsh
  have hds : DsRep W (fun _ => False) [.c (.int .u8 (w0 : Nat)), .c (.int .u8 (w1 : Nat)), .c (.int .u8 (w2 : Nat))] [.int .u8 a0, .int .u8 a1, .int .u8 a2] :=
    DsRep.cons (rep_one r0) (DsRep.cons (rep_one r1) (DsRep.cons (rep_one r2) (⟨rfl, by simp⟩)))
  refine ((deriveChain_ok m).run W (fun _ => False) _ _ _ hg (fun _ h => h.elim) hds (T304_eq q0 q1 q2)).mono ?_
  intro e W' hb
  obtain ⟨v, rfl, hk, hv⟩ := back_mono (fun v w h => h) e W' hb
  obtain rfl := back_bool hv
  have bel : Below W.heap.size W W' := ⟨hk.os, hk.tape, hk.output, hk.size, fun b hb => hk.block b hb (fun h => h)⟩
  have e1 : ((OpenSpec.ofChange Rows.deriveChainSpec).at F).fn H ([d0, d1, d2] ++ []) = { results := [.lit (.bool true)], args := [d0, d1, d2] } := rfl
  refine ⟨_, rfl, _, _, _, [], (p0 ++ (p1 ++ p2)), [], hW', ?_, ?_, ?_, kept_frame hk _, fun h => by cases h⟩
  · rw [e1]; exact trodAll_mk1 (shut_bool Tryd.underlying4 _)
  · rw [e1]; exact trodAll_mk3 (Below.trod laidOut (by kernel_rfl) (of_decide_eq_true (by kernel_rfl)) k0 bel lt0) (Below.trod laidOut (by kernel_rfl) (of_decide_eq_true (by kernel_rfl)) k1 bel lt1) (Below.trod laidOut (by kernel_rfl) (of_decide_eq_true (by kernel_rfl)) k2 bel lt2)
  · rw [e1]; rfl
theorem deriveChain_row : Rows.DeriveChainSaid :=
  OpenClaim.holds_of_cond 5 Tryd.f5 rfl rfl rfl rfl rfl rfl rfl ⟨rfl, rfl, rfl, rfl, rfl⟩ rfl rfl rfl rfl rfl (by kernel_rfl) Tryd.func5 (by kernel_rfl)
    (of_decide_eq_true (by kernel_rfl)) (by unfold Func.isWrapper; rw [if_neg (of_decide_eq_false (by kernel_rfl))]; exact ⟨rfl, rfl⟩)
    (fun os started H enc _ F0 => by rw [OpenClaim.pre_eq_preRow]; exact law_lifted os started H enc F0)
end Go.Proofs.YtpidbhbmamjbpaaDoor
namespace Go.Proofs.YtpidbhbmamjbpaaDoor
open Go
theorem deriveChain_card : Rows.DeriveChainCardSaid :=
  Claim7.holds_tied_plain_at .later [] [.data, .data, .pinned] true (true, "212fba7cd7f83b53a9f867a1cb5c5bcf7e81c7cb6f61f907287e02ca1b9409b2") false
    deriveChain_row (fun _ h => by cases h) (by kernel_rfl) (fun _ h => by cases h) deriveChain_row_tie rfl ⟨rfl, rfl⟩ (by kernel_rfl) rfl
    (fun f fn hf hfn => by
      obtain rfl : f = 5 := Option.some.inj ((show Tryd.prog.funcNamed "tmesis/tmesislaw19.DeriveChain" = some 5 by kernel_rfl).symm.trans hf) |>.symm
      obtain rfl : fn = Tryd.f5 := (Option.some.inj (Tryd.func5.symm.trans hfn)).symm
      exact ⟨by kernel_rfl, fun j t ht => by
        rw [Tryd.params5] at ht
        rcases j with _ | _ | _ | j
        · have e : t = 5 := by simpa using ht.symm
          subst e
          exact (show Tryd.prog.wantsStandIn 5 = false by kernel_rfl)
        · have e : t = 5 := by simpa using ht.symm
          subst e
          exact (show Tryd.prog.wantsStandIn 5 = false by kernel_rfl)
        · have e : t = 5 := by simpa using ht.symm
          subst e
          exact (show Tryd.prog.wantsStandIn 5 = false by kernel_rfl)
        · simp at ht⟩)
    (by kernel_rfl)
#print axioms deriveChain_card
end Go.Proofs.YtpidbhbmamjbpaaDoor
