/-
  tree.End, tree.Kids of the program: where a subtree ends, where those below begin.
-/
import Derived.Test.YtpidbhbmamjbpaaDoorSHR
import Derived.Test.YtpidbhbmamjbpaaDoorSMD
import Derived.Test.YtpidbhbmamjbpaaDoorSMC
import Derived.Test.YtpidbhbmamjbpaaDoorSMB
import Derived.Test.YtpidbhbmamjbpaaDoorSMA
import Derived.Laws.Rows
import Derived.Laws.AppendOwn
import Derived.Calls
import Derived.Tactics
import Derived.Below
import Derived.Laws.RangeString
import Derived.Laws.Strings
import Derived.Laws.BytesArg
import Derived.Laws.CopyRow
import Derived.Laws.StructEq
import Derived.ChangeKeysEq
import Derived.WideKeyRuns
import Derived.Orders
import Derived.ScopeJumps
import Derived.KernelRfl
import Derived.Test.YtpidbhbmamjbpaaDoorProg
import Derived.Test.YtpidbhbmamjbpaaDoorSV7
import Derived.Test.YtpidbhbmamjbpaaDoorSV6
import Derived.Test.YtpidbhbmamjbpaaDoorSV5
import Derived.Test.YtpidbhbmamjbpaaDoorSV4
import Derived.Test.YtpidbhbmamjbpaaDoorSV3
import Derived.Test.YtpidbhbmamjbpaaDoorSV2
import Derived.Test.YtpidbhbmamjbpaaDoorSV1
import Derived.Test.YtpidbhbmamjbpaaDoorSQD
import Derived.Test.YtpidbhbmamjbpaaDoorSQA
import Derived.Test.YtpidbhbmamjbpaaDoorSMY
import Derived.Test.YtpidbhbmamjbpaaDoorSMV
import Derived.Test.YtpidbhbmamjbpaaDoorSCU
import Derived.Test.YtpidbhbmamjbpaaDoorSME
import Derived.Test.YtpidbhbmamjbpaaDoorSCX
import Derived.Lib.BytesEntry
import Derived.Laws.Externs
import Derived.Lib.IndexLaws
import Derived.Test.YtpidbhbmamjbpaaDoorSQU
import Derived.Test.YtpidbhbmamjbpaaDoorSMG
import Derived.Shelf.Strings.Split
import Derived.Test.YtpidbhbmamjbpaaDoorSMF
import Derived.Test.YtpidbhbmamjbpaaDoorSMI
import Derived.Test.YtpidbhbmamjbpaaDoorSMH
import Derived.Test.YtpidbhbmamjbpaaDoorSCE
import Derived.Test.YtpidbhbmamjbpaaDoorSHQ
import Derived.Test.YtpidbhbmamjbpaaDoorSNC
import Derived.Test.YtpidbhbmamjbpaaDoorSML
namespace Go.Am
open Go K
set_option maxRecDepth 100000
theorem mixedG : Go.Proofs.Tryd.prog.follows .mixedOrders = true := by kernel_rfl
def c322r : ACode :=
 (S (R [q 4 (.move (i 0))]) (S (S (R [m 6 1, q 7 (.bin .lss (t 6) (i 0)), m 8 7, rm 9 8 1, rm 10 8 0, r 11 8 (.len (t 10)), r 12 8 (.bin .geq (t 9) (t 11)), q 13 (.pick (t 8) T (t 12))]) (I (t 13) (S (R [q 4 (.move (i (-1)))]) Z) X)) (S (R [m 14 1, q 15 (.bin .add (t 14) (i 1)), m 5 15]) (S (S (R [m 16 0, m 17 1, q 18 (.idxAddr 5 (t 16) (t 17)), q 19 (fa 18 4), q 20 (l 19), q 21 (.max (t 20) (i 0)), q 22 (.move (i 0))]) (B 0 (L (S (R [q 23 (.bin .lss (t 22) (t 21))]) (S (I (t 23) X (E 0)) (S (B 1 (S (R [m 24 0, m 25 5, q 26 (.pcall 18 [(t 24), (t 25)]), m 5 26]) (S (R [m 27 5, q 28 (.bin .lss (t 27) (i 0))]) (I (t 28) (S (R [q 4 (.move (i (-1)))]) Z) X)))) (R [q 29 (.bin .add (t 22) (i 1)), m 22 29]))))))) (S (R [m 30 5, m 4 30]) Z)))))
theorem fn322r (m : Int) : FnOk Go.Proofs.Tryd.prog ⟨[], [], HR, glb m⟩ 18 31 c322r [.t 4] := fnk mixedG Go.Proofs.Tryd.f18
def c324r : ACode :=
 (S (R [q 4 (.move (.k (.c .nil)))]) (S (S (R [m 7 0, m 8 1, q 9 (.pcall 18 [(t 7), (t 8)]), q 10 (.bin .lss (t 9) (i 0))]) (I (t 10) (S (R [q 4 (.move (.k (.c .nil)))]) Z) X)) (S (R [q 5 (.newRow 1)]) (S (S (R [m 11 1, q 12 (.bin .add (t 11) (i 1)), m 6 12]) (B 0 (L (S (S (R [m 13 5, q 14 (.len (t 13)), m 15 0, m 16 1, q 17 (.idxAddr 5 (t 15) (t 16)), q 18 (fa 17 4), q 19 (l 18), q 20 (.bin .lss (t 14) (t 19))]) (I (t 20) X (E 0))) (S (B 1 (R [m 24 5, m 25 6, q 26 (.lit 1 1 [(.int .i64 0)] [(0, (t 25))] false), q 27 (.append (t 24) (t 26) 1), m 5 27])) (R [m 21 0, m 22 6, q 23 (.pcall 18 [(t 21), (t 22)]), m 6 23])))))) (S (R [m 28 5, m 4 28]) Z)))))
theorem fn324r (m : Int) : FnOk Go.Proofs.Tryd.prog ⟨[], [5], HR, glb m⟩ 20 29 c324r [.t 4] := fnk mixedG Go.Proofs.Tryd.f20
def c325r : ACode :=
 (S (R [q 2 (.box (t 0)), q 4 (.move F)]) (S (R [q 5 (fa 2 0), q 6 (l 5), q 7 (.bin .eql (t 6) (i 6)), m 8 7, p 9 8 (fa 2 3), p 10 8 (l 9), pm 11 8 1, p 12 8 (.bin .eql (t 10) (t 11)), q 13 (.pick (t 8) (t 12) F), m 4 13]) Z))
theorem fn325r (m : Int) : FnOk Go.Proofs.Tryd.prog ⟨[], [], HR, glb m⟩ 22 14 c325r [.t 4] := fnk mixedG Go.Proofs.Tryd.f22
def c327r : ACode :=
 (S (R [q 4 (.move F)]) (S (R [m 5 0, m 6 1, q 7 (.hcall 51 [(t 5), (t 6)]), q 8 (.bin .geq (t 7) (i 0)), m 4 8]) Z))
theorem fn327r (m : Int) : FnOk Go.Proofs.Tryd.prog ⟨[], [], HR, glb m⟩ 24 9 c327r [.t 4] := fnk mixedG Go.Proofs.Tryd.f24
def c341r : ACode :=
 (S (R [q 4 (.move (i 0))]) (S (S (R [m 6 0, q 7 (.len (t 6)), q 8 (.move (i 0))]) (B 0 (L (S (R [q 9 (.bin .lss (t 8) (t 7))]) (S (I (t 9) X (E 0)) (S (B 1 (S (R [m 10 8, m 5 10]) (S (R [m 11 1, m 12 0, m 13 5, q 14 (.idxAddr 1 (t 12) (t 13)), q 15 (l 14), q 16 (.vcall (t 11) [(t 15)])]) (I (t 16) (S (R [m 17 5, m 4 17]) Z) X)))) (R [q 18 (.bin .add (t 8) (i 1)), m 8 18]))))))) (S (R [q 4 (.move (i (-1)))]) Z)))
theorem fn341r (m : Int) : FnOk Go.Proofs.Tryd.prog ⟨[], [], HR, glb m⟩ 51 19 c341r [.t 4] := fnk mixedG Go.Proofs.Tryd.f51
def c345r : ACode :=
 (S (R [q 2 (.box (t 0)), q 3 (.move F)]) (S (R [q 4 (fa 2 0), q 5 (l 4), q 6 (l 1), q 7 (.bin .eql (t 5) (t 6)), m 3 7]) Z))
theorem fn345r (m : Int) : FnOk Go.Proofs.Tryd.prog ⟨[], [], HR, glb m⟩ 71 8 c345r [.t 3] := fnk mixedG Go.Proofs.Tryd.f71
def c339r : ACode :=
 (S (R [q 2 (.box (t 0)), q 3 (.box (t 1)), q 4 (.alloc [e, o, o]), q 5 (.move F)]) (S (R [q 7 (fa 2 0), q 8 (l 7), q 9 (.mkFunc 71 [(t 3)]), q 10 (.hcall 28 [(t 8), (t 9)]), m 6 10]) (S (S (R [m 11 6, q 12 (.bin .lss (t 11) (i 0))]) (I (t 12) (S (R [q 13 (.build [e, o, o] []), n (st 4 13 3), q 5 (.move F)]) Z) X)) (S (R [q 14 (fa 2 0), q 15 (l 14), m 16 6, q 17 (.idxAddr 3 (t 15) (t 16)), q 18 (la 17 3), n (st 4 18 3), q 5 (.move T)]) Z))))
theorem fn339r (m : Int) : FnOk Go.Proofs.Tryd.prog ⟨[], [], HR, glb m⟩ 47 19 c339r [.cell 4 3 true, .t 5] := fnk mixedG Go.Proofs.Tryd.f47
def c340r : ACode :=
 (S (R [q 9 (.move F)]) (S (S (G [q 13 (l 2), q 14 (.len (t 13)), q 15 (.bin .eql (t 14) (i 0)), m 16 15, r 17 16 (l 3), r 18 16 (l 2), r 19 16 (.idxAddr 1 (t 18) (i 0)), r 20 16 (l 19), r 21 16 (.idxAddr 5 (t 17) (t 20)), r 22 16 (fa 21 2), r 23 16 (l 22), r 24 16 (l 4), r 25 16 (.bin .neq (t 23) (t 24)), q 26 (.pick (t 16) T (t 25))] [0, 1, 3, 7, 15, 15, 47, 111, 255, 511, 1023, 15, 4095, 8191]) (I (t 26) (S (R [q 9 (.move F)]) Z) X)) (S (G [q 27 (l 3), q 28 (l 2), q 29 (.idxAddr 1 (t 28) (i 0)), q 30 (l 29), q 31 (.idxAddr 5 (t 27) (t 30)), q 32 (la 31 5), q 10 (.alloc [o, e, o, o, o]), n (st 10 32 5)] [0, 0, 2, 6, 15, 31, 0, 127]) (S (G [q 33 (l 2), q 34 (.slice 1 (t 33) (some (i 1)) none none), q 35 (fa 10 3), q 36 (l 35), n (st 2 34 1), n (st 4 36 1)] [0, 1, 0, 4, 3, 31]) (S (S (R [m 37 0, q 38 (.not (t 37)), m 39 38, r 40 39 (fa 10 0), r 41 39 (l 40), r 42 39 (.bin .neq (t 41) (i 3)), q 43 (.pick (t 39) T (t 42))]) (I (t 43) (S (R [q 9 (.move T)]) Z) X)) (S (R [q 45 (la 5 11), q 46 (fa 10 1), q 47 (l 46), q 48 (.pcall 47 [(t 45), (t 47)]), m 44 48, q 49 (ex 44 0), q 50 (ex 44 1), q 11 (.alloc [e, o, o]), n (st 11 49 3), m 12 50]) (S (R [m 51 12, m 52 51, p 53 52 (fa 5 1), p 54 52 (la 53 10), p 55 52 (la 6 3), p 56 52 (la 11 3), pm 57 52 1, p 58 52 (.pcall 49 [(t 54), (t 55), (t 56), (t 57)]), q 59 (.pick (t 52) (t 58) F), m 9 59]) Z)))))))
theorem fn340r (m : Int) : FnOk Go.Proofs.Tryd.prog ⟨[], [], HR, glb m⟩ 48 60 c340r [.t 9] := fnk mixedG Go.Proofs.Tryd.f48
def c326r : ACode :=
 (S (R [q 5 (.box (t 0)), q 7 (.box (t 2)), q 8 (.box (t 3)), q 9 (.box (t 4)), q 10 (.move F)]) (S (R [q 20 (la 5 11), q 21 (fa 8 1), q 22 (l 21), q 23 (.pcall 47 [(t 20), (t 22)]), m 19 23, q 24 (ex 19 0), q 25 (ex 19 1), q 11 (.alloc [e, o, o]), n (st 11 24 3), m 12 25]) (S (R [q 27 (fa 11 0), q 28 (l 27), q 29 (.pcall 14 [(t 28)]), m 26 29, q 30 (ex 26 0), q 31 (ex 26 1), q 13 (.alloc [.nil, z, z]), n (st 13 30 3), m 14 31]) (S (S (R [m 32 12, q 33 (.not (t 32)), m 34 33, rm 35 34 14, r 36 34 (.bin .neq (t 35) (i 0)), q 37 (.pick (t 34) T (t 36))]) (I (t 37) (S (R [q 10 (.move F)]) Z) X)) (S (R [q 38 (fa 8 2), q 39 (l 38), q 15 (.alloc [o]), n (st 15 39 1)]) (S (R [q 40 (.mkFunc 48 [(t 9), (t 7), (t 15), (t 5), (t 11)]), m 16 40]) (S (S (R [q 41 (fa 13 1), q 42 (l 41), m 43 42, pm 44 43 16, p 45 43 (.vcall (t 44) [T, F]), p 46 43 (.not (t 45)), q 47 (.pick (t 43) (t 46) F)]) (I (t 47) (S (R [q 10 (.move F)]) Z) X)) (S (S (R [q 48 (fa 13 0), q 49 (l 48), q 50 (.len (t 49)), q 51 (.move (i 0))]) (B 0 (L (S (R [q 52 (.bin .lss (t 51) (t 50))]) (S (I (t 52) X (E 0)) (S (B 1 (S (R [m 53 51, q 54 (.idxAddr 1 (t 49) (t 51)), q 55 (l 54), m 17 53, m 18 55]) (S (S (R [m 56 17, q 57 (.bin .gtr (t 56) (i 0)), m 58 57, pm 59 58 16, p 60 58 (.vcall (t 59) [F, F]), p 61 58 (.not (t 60)), q 62 (.pick (t 58) (t 61) F)]) (I (t 62) (S (R [q 10 (.move F)]) Z) X)) (S (S (R [q 63 (l 15), q 64 (.bin .lss (t 63) (i 0)), m 65 64, r 66 65 (l 15), r 67 65 (fa 8 3), r 68 65 (l 67), r 69 65 (.bin .geq (t 66) (t 68)), q 70 (.pick (t 65) T (t 69)), m 71 70, rm 72 71 1, r 73 71 (l 15), r 74 71 (.idxAddr 5 (t 72) (t 73)), r 75 71 (la 74 5), rm 76 71 18, r 77 71 (.pcall 50 [(t 75), (t 76)]), r 78 71 (.not (t 77)), q 79 (.pick (t 71) T (t 78))]) (I (t 79) (S (R [q 10 (.move F)]) Z) X)) (R [q 80 (l 15), q 81 (.bin .add (t 80) (i 1)), n (st 15 81 1)]))))) (R [q 82 (.bin .add (t 51) (i 1)), m 51 82]))))))) (S (S (R [q 83 (fa 13 2), q 84 (l 83), m 85 84, pm 86 85 16, p 87 85 (.vcall (t 86) [T, T]), p 88 85 (.not (t 87)), q 89 (.pick (t 85) (t 88) F)]) (I (t 89) (S (R [q 10 (.move F)]) Z) X)) (S (R [q 90 (l 9), q 91 (.len (t 90)), q 92 (.bin .eql (t 91) (i 0)), m 93 92, p 94 93 (l 15), p 95 93 (fa 8 3), p 96 93 (l 95), p 97 93 (.bin .eql (t 94) (t 96)), q 98 (.pick (t 93) (t 97) F), m 10 98]) Z))))))))))
theorem fn326r (m : Int) : FnOk Go.Proofs.Tryd.prog ⟨[], [], HR, glb m⟩ 23 99 c326r [.t 10] := fnk mixedG Go.Proofs.Tryd.f23
def c328r : ACode :=
 (S (R [q 3 (.move F)]) (S (R [q 4 (l 1), m 5 0, q 6 (.vcall (t 4) [(t 5)]), q 7 (.not (t 6)), m 3 7]) Z))
theorem fn328r (m : Int) : FnOk Go.Proofs.Tryd.prog ⟨[], [], HR, glb m⟩ 25 8 c328r [.t 3] := fnk mixedG Go.Proofs.Tryd.f25
def c323r : ACode :=
 (S (R [q 6 (.move F)]) (S (R [q 10 (l 1), m 11 0, q 12 (.idxAddr 5 (t 10) (t 11)), q 13 (la 12 5), q 7 (.alloc [o, e, o, o, o]), n (st 7 13 5)]) (S (S (R [q 14 (fa 7 2), q 15 (l 14), q 16 (.bin .lss (t 15) (i 0)), m 17 16, r 18 17 (fa 7 3), r 19 17 (l 18), r 20 17 (fa 7 2), r 21 17 (l 20), r 22 17 (.bin .leq (t 19) (t 21)), q 23 (.pick (t 17) T (t 22)), m 24 23, r 25 24 (fa 7 3), r 26 24 (l 25), r 27 24 (l 2), r 28 24 (.len (t 27)), r 29 24 (.bin .gtr (t 26) (t 28)), q 30 (.pick (t 24) T (t 29)), m 31 30, r 32 31 (fa 7 4), r 33 31 (l 32), r 34 31 (.bin .lss (t 33) (i 0)), q 35 (.pick (t 31) T (t 34))]) (I (t 35) (S (R [q 6 (.move F)]) Z) X)) (S (R [q 36 (l 1), m 37 0, q 38 (.pcall 20 [(t 36), (t 37)]), m 8 38]) (S (R [q 9 (.move F)]) (S (S (R [q 39 (fa 7 0), q 40 (l 39)]) (B 0 (S (R [q 42 (.bin .eql (t 40) (i 1)), m 41 42]) (I (t 41) (G [m 43 8, q 44 (.len (t 43)), q 45 (.bin .eql (t 44) (i 0)), m 46 45, p 47 46 (fa 7 3), p 48 46 (l 47), p 49 46 (fa 7 2), p 50 46 (l 49), p 51 46 (.bin .add (t 50) (i 1)), p 52 46 (.bin .eql (t 48) (t 51)), q 53 (.pick (t 46) (t 52) F), m 54 53, p 55 54 (la 3 11), p 56 54 (l 2), p 57 54 (fa 7 2), p 58 54 (l 57), p 59 54 (.idxAddr 5 (t 56) (t 58)), p 60 54 (la 59 5), p 61 54 (.pcall 21 [(t 55), (t 60)]), q 62 (.pick (t 54) (t 61) F), m 63 62, p 64 63 (l 2), p 65 63 (fa 7 2), p 66 63 (l 65), p 67 63 (.idxAddr 5 (t 64) (t 66)), p 68 63 (fa 67 3), p 69 63 (l 68), p 70 63 (fa 7 1), p 71 63 (l 70), p 72 63 (.bin .eql (t 69) (t 71)), q 73 (.pick (t 63) (t 72) F), m 9 73] [0, 1, 3, 7, 15, 31, 15, 79, 207, 511, 1023, 2047, 4095, 4095, 4095, 20479, 61439, 126975, 262143, 524287, 1048575, 2097151, 2097151, 6291455, 16777215, 33554431, 67108863, 2097151, 136314879, 536870911, 1073741823, 2147483647]) (S (R [q 75 (.bin .eql (t 40) (i 2)), m 74 75]) (I (t 74) (G [m 76 8, q 77 (.len (t 76)), q 78 (.bin .eql (t 77) (i 1)), m 79 78, p 80 79 (fa 7 1), p 81 79 (l 80), p 82 79 (.bin .eql (t 81) (s [])), q 83 (.pick (t 79) (t 82) F), m 84 83, p 85 84 (fa 7 3), p 86 84 (l 85), p 87 84 (fa 7 2), p 88 84 (l 87), p 89 84 (.bin .sub (t 86) (t 88)), p 90 84 (.bin .gtr (t 89) (i 2)), q 91 (.pick (t 84) (t 90) F), m 92 91, p 93 92 (l 2), p 94 92 (fa 7 2), p 95 92 (l 94), p 96 92 (.idxAddr 5 (t 93) (t 95)), p 97 92 (la 96 5), p 98 92 (.pcall 22 [(t 97), (s [40])]), q 99 (.pick (t 92) (t 98) F), m 100 99, p 101 100 (l 2), p 102 100 (fa 7 3), p 103 100 (l 102), p 104 100 (.bin .sub (t 103) (i 1)), p 105 100 (.idxAddr 5 (t 101) (t 104)), p 106 100 (la 105 5), p 107 100 (.pcall 22 [(t 106), (s [41])]), q 108 (.pick (t 100) (t 107) F), m 109 108, p 110 109 (l 1), pm 111 109 0, p 112 109 (.bin .add (t 111) (i 1)), p 113 109 (.idxAddr 5 (t 110) (t 112)), p 114 109 (fa 113 2), p 115 109 (l 114), p 116 109 (fa 7 2), p 117 109 (l 116), p 118 109 (.bin .add (t 117) (i 1)), p 119 109 (.bin .eql (t 115) (t 118)), q 120 (.pick (t 109) (t 119) F), m 121 120, p 122 121 (l 1), pm 123 121 0, p 124 121 (.bin .add (t 123) (i 1)), p 125 121 (.idxAddr 5 (t 122) (t 124)), p 126 121 (fa 125 3), p 127 121 (l 126), p 128 121 (fa 7 3), p 129 121 (l 128), p 130 121 (.bin .sub (t 129) (i 1)), p 131 121 (.bin .eql (t 127) (t 130)), q 132 (.pick (t 121) (t 131) F), m 9 132] [0, 1, 3, 7, 15, 31, 63, 127, 255, 511, 1023, 511, 2559, 8191, 16383, 32767, 65535, 131071, 131071, 393215, 1048575, 2097151, 4194303, 8388607, 16777215, 33554431, 33554431, 100663295, 234881023, 536870911, 1073741823, 2147483647, 4294967295, 8589934591, 17179869183, 17179869183, 51539607551, 137438953471, 274877906943, 549755813887, 17179869183, 1116691496959, 3315714752511, 8796093022207, 17592186044415, 35184372088831, 70368744177663, 70368744177663, 211106232532991, 562949953421311, 1125899906842623, 2251799813685247, 70368744177663, 4573968371548159, 13581167626289151, 36028797018963967, 72057594037927935, 144115188075855871]) (S (R [q 134 (.bin .eql (t 40) (i 3)), m 133 134]) (I (t 133) (R [q 135 (la 3 11), q 136 (l 2), q 137 (l 1), q 138 (la 7 5), m 139 8, q 140 (.pcall 23 [(t 135), (t 136), (t 137), (t 138), (t 139)]), m 9 140]) X)))))))) (S (R [m 141 9, m 142 141, pm 143 142 8, p 144 142 (.mkFunc 25 [(t 4)]), p 145 142 (.hcall 24 [(t 143), (t 144)]), p 146 142 (.not (t 145)), q 147 (.pick (t 142) (t 146) F), m 6 147]) Z)))))))
theorem fn323r (m : Int) : FnOk Go.Proofs.Tryd.prog ⟨[], [], HR, glb m⟩ 19 148 c323r [.t 6] := fnk mixedG Go.Proofs.Tryd.f19
def c314r : ACode :=
 (S (R [q 3 (.box (t 0)), q 4 (.box (t 1)), q 5 (.box (t 2)), q 6 (.move F)]) (S (S (G [q 8 (l 5), q 9 (.len (t 8)), q 10 (.bin .eql (t 9) (i 0)), m 11 10, r 12 11 (l 5), r 13 11 (.pcall 18 [(t 12), (i 0)]), r 14 11 (l 5), r 15 11 (.len (t 14)), r 16 11 (.bin .neq (t 13) (t 15)), q 17 (.pick (t 11) T (t 16)), m 18 17, r 19 18 (l 5), r 20 18 (.idxAddr 5 (t 19) (i 0)), r 21 18 (fa 20 2), r 22 18 (l 21), r 23 18 (.bin .neq (t 22) (i 0)), q 24 (.pick (t 18) T (t 23)), m 25 24, r 26 25 (l 5), r 27 25 (.idxAddr 5 (t 26) (i 0)), r 28 25 (fa 27 3), r 29 25 (l 28), r 30 25 (l 4), r 31 25 (.len (t 30)), r 32 25 (.bin .neq (t 29) (t 31)), q 33 (.pick (t 25) T (t 32))] [0, 1, 3, 7, 15, 31, 15, 79, 255, 511, 1023, 2047, 4095, 8191, 16383, 32767, 65535, 131071, 262143, 524287, 1048575, 2097151, 262143, 4456447, 16777215, 33554431]) (I (t 33) (S (R [q 6 (.move F)]) Z) X)) (S (R [q 7 (.alloc [(.d .nilf)])]) (S (R [q 34 (.mkFunc 19 [(t 5), (t 4), (t 3), (t 7)]), n (st 7 34 1)]) (S (R [q 35 (l 7), q 36 (.vcall (t 35) [(i 0)]), m 6 36]) Z)))))
theorem fn314r (m : Int) : FnOk Go.Proofs.Tryd.prog ⟨[], [], HR, glb m⟩ 11 37 c314r [.t 6] := fnk mixedG Go.Proofs.Tryd.f11
end Go.Am
namespace Go.Am
open Go
def endK (q : Nat → Option Nat) : Nat → Nat → Option Nat
  | 0, a => some a
  | k + 1, a => match q a with
    | some b => endK q k b
    | none => none
def endF (T : List Nd5) : Nat → Nat → Option Nat
  | 0, _ => none
  | n + 1, i => match T[i]? with
    | some x => endK (endF T n) x.n.toNat (i + 1)
    | none => none
def endT (T : List Nd5) (i : Nat) : Option Nat := endF T (T.length - i) i
theorem endK_le {q : Nat → Option Nat} (h : ∀ a b, q a = some b → a < b) : ∀ {k a e : Nat}, endK q k a = some e → a + k ≤ e
  | 0, a, e, he => by cases he; exact Nat.le_refl _
  | k + 1, a, e, he => by
    unfold endK at he
    cases hq : q a with
    | none => rw [hq] at he; cases he
    | some b =>
      rw [hq] at he
      have := endK_le h he
      have := h a b hq
      omega
theorem endF_lt {T : List Nd5} : ∀ (n : Nat) (i e : Nat), endF T n i = some e → i < e
  | 0, _, _, h => by cases h
  | n + 1, i, e, h => by
    unfold endF at h
    cases hx : T[i]? with
    | none => rw [hx] at h; cases h
    | some x =>
      rw [hx] at h
      have := endK_le (endF_lt n) h
      omega
theorem endK_congr {q q' : Nat → Option Nat} {lo : Nat} (hq : ∀ a, lo ≤ a → q a = q' a) (hl : ∀ a b, q a = some b → a < b) : ∀ {k a : Nat}, lo ≤ a → endK q k a = endK q' k a
  | 0, _, _ => rfl
  | k + 1, a, h => by
    unfold endK
    rw [← hq a h]
    cases hb : q a with
    | none => rfl
    | some b =>
      have := hl a b hb
      exact endK_congr hq hl (by omega)
theorem endF_stable {T : List Nd5} : ∀ (n m i : Nat), T.length - i ≤ n → T.length - i ≤ m → endF T n i = endF T m i
  | 0, m, i, h, _ => by
    have hx : T[i]? = none := List.getElem?_eq_none (by omega)
    cases m with
    | zero => rfl
    | succ m => unfold endF; rw [hx]
  | n + 1, 0, i, _, h => by
    have hx : T[i]? = none := List.getElem?_eq_none (by omega)
    unfold endF; rw [hx]
  | n + 1, m + 1, i, h1, h2 => by
    unfold endF
    cases hx : T[i]? with
    | none => rfl
    | some x => exact endK_congr (lo := i + 1) (fun a ha => endF_stable n m a (by omega) (by omega)) (endF_lt n) (Nat.le_refl _)
theorem endT_lt {T : List Nd5} {i e : Nat} (h : endT T i = some e) : i < e := endF_lt _ _ _ h
theorem endT_out {T : List Nd5} {i : Nat} (h : T.length ≤ i) : endT T i = none := by
  unfold endT
  rw [show T.length - i = 0 by omega]
  rfl
theorem endT_eq {T : List Nd5} {i : Nat} {x : Nd5} (h : T[i]? = some x) : endT T i = endK (endT T) x.n.toNat (i + 1) := by
  have hlt := (List.getElem?_eq_some_iff.1 h).1
  unfold endT
  rw [show T.length - i = (T.length - i - 1) + 1 by omega]
  show (match T[i]? with | some x => endK (endF T (T.length - i - 1)) x.n.toNat (i + 1) | none => none) = _
  rw [h]
  exact endK_congr (lo := i + 1) (fun a ha => endF_stable _ _ a (by omega) (by omega)) (endF_lt _) (Nat.le_refl _)
theorem endT_top {T : List Nd5} : ∀ {i e : Nat}, endT T i = some e → e ≤ T.length := by
  have key : ∀ n i e, T.length - i ≤ n → endT T i = some e → e ≤ T.length := by
    intro n
    induction n with
    | zero =>
      intro i e hn h
      rw [endT_out (by omega)] at h
      cases h
    | succ n ih =>
      intro i e hn h
      by_cases hi : T.length ≤ i
      · rw [endT_out hi] at h
        cases h
      · have hx : T[i]? = some T[i] := List.getElem?_eq_getElem (by omega)
        rw [endT_eq hx] at h
        -- the chain of those below
        have go : ∀ k a e, i + 1 ≤ a → a ≤ T.length → endK (endT T) k a = some e → e ≤ T.length := by
          intro k
          induction k with
          | zero => intro a e _ ha he; cases he; exact ha
          | succ k ihk =>
            intro a e h1 ha he
            unfold endK at he
            cases hb : endT T a with
            | none => rw [hb] at he; cases he
            | some b =>
              rw [hb] at he
              have := endT_lt hb
              exact ihk b e (by omega) (ih a b (by omega) hb) he
        exact go _ _ _ (Nat.le_refl _) (by omega) h
  intro i e h
  exact key _ i e (Nat.le_refl _) h
def optI : Option Nat → Int
  | some n => (n : Nat)
  | none => -1
noncomputable def T322 (M : Nat) : List DV → Option DV := fam (fun x : (Nat × List Nd5) × Nat => [.c (.list x.1.1 (x.1.2.map ndD)), .c (.int .i64 (x.2 : Nat))]) (fun x => x.1.2.length ≤ 1000000 ∧ x.2 ≤ 1000000 ∧ x.1.2.length - x.2 < M) (fun x => .c (.int .i64 (optI (endT x.1.2 x.2))))
theorem ndD_inj {a b : Nd5} (h : ndD a = ndD b) : a = b := by
  cases a
  cases b
  simp only [ndD, List.cons.injEq, D.int.injEq, D.str.injEq, true_and, and_true] at h
  obtain ⟨rfl, rfl, rfl, rfl, rfl⟩ := h
  rfl
theorem nds_inj : ∀ {l l' : List Nd5}, l.map ndD = l'.map ndD → l = l'
  | [], [], _ => rfl
  | [], _ :: _, h => by cases h
  | _ :: _, [], h => by cases h
  | a :: r, b :: r', h => by
    simp only [List.map_cons, List.cons.injEq] at h
    rw [ndD_inj h.1, nds_inj h.2]
theorem T322_eq {M sz i : Nat} {T : List Nd5} (h : T.length ≤ 1000000 ∧ i ≤ 1000000 ∧ T.length - i < M) : T322 M [.c (.list sz (T.map ndD)), .c (.int .i64 (i : Nat))] = some (.c (.int .i64 (optI (endT T i)))) := by
  refine fam_eq (ι := (Nat × List Nd5) × Nat) ((sz, T), i) h ?_
  rintro ⟨⟨sz', T'⟩, i'⟩ _ e
  simp only [List.cons.injEq, DV.c.injEq, D.list.injEq, D.int.injEq, true_and, and_true] at e
  obtain ⟨⟨_, h1⟩, h2⟩ := e
  rw [nds_inj h1, show i' = i by omega]
theorem ev_max0 {cl : Call} {e : Env} {h : Hp} {x y : Opd} {a : Int} (hx : ev e x = .c (.d (.int .i64 a))) (hy : ev e y = .c (.d (.int .i64 0))) : eval cl e h (.max x y) = some (.c (.d (.int .i64 (a.toNat : Nat))), h) := by
  simp only [eval, hx, hy]
  congr 5
  split <;> omega
theorem nd_at {T : List Nd5} {i : Nat} {x : Nd5} (h : T[i]? = some x) : (T.map ndD)[((i : Nat) : Int).toNat]? = some (ndD x) := by
  rw [Int.toNat_natCast, List.getElem?_map, h]
  rfl
set_option maxRecDepth 8000 in
set_option maxHeartbeats 4000000 in
theorem w322 (M : Nat) (x : (Nat × List Nd5) × Nat) (hx : x.1.2.length ≤ 1000000 ∧ x.2 ≤ 1000000 ∧ x.1.2.length - x.2 < M + 1) :
    awp (tbl [(18, T322 M)]) c322r (PureQ [.t 4] (.c (.int .i64 (optI (endT x.1.2 x.2))))) ⟨argE 0 (dvArgs [.c (.list x.1.1 (x.1.2.map ndD)), .c (.int .i64 (x.2 : Nat))]), ⟨0, []⟩⟩ := by
  obtain ⟨⟨sz, T⟩, i⟩ := x
  obtain ⟨h1, h2, h3⟩ := hx
  simp only at h1 h2 h3 ⊢
  have hml : (T.map ndD).length = T.length := List.length_map ..
  by_cases hi : T.length ≤ i
  · rw [endT_out hi]
    unfold c322r
    repeat' first
      | refine GoH ?_
      | refine ZB (ev_lss_f rfl rfl (by omega)) ?_
      | refine ZB (ev_geq_t rfl rfl (by omega)) ?_
      | refine ZB rfl ?_|refine ZC rfl ?_
    exact ⟨_, rfl, rfl⟩
  · have hn : T[i]? = some T[i] := List.getElem?_eq_getElem (by omega)
    have hn' := nd_at hn
    rw [endT_eq hn]
    generalize T[i] = nd at hn hn'
    obtain ⟨k, s, a, b, n⟩ := nd
    simp only
    generalize hN : n.toNat = N
    obtain ⟨R, hR⟩ : ∃ R, R = endK (endT T) N (i + 1) := ⟨_, rfl⟩
    rw [← hR]
    unfold c322r
    repeat' first
      | refine GoH ?_
      | refine ZB (ev_lss_f rfl rfl (by omega)) ?_
      | refine ZB (ev_geq_f rfl rfl (by omega)) ?_
      | refine ZB (ev_idx rfl rfl (by omega) hn' rfl) ?_
      | refine ZB ((ev_max0 rfl rfl).trans (by rw [hN])) ?_
      | refine ZB (ev_add rfl rfl (by omega) (by omega)) ?_
      | refine ZB rfl ?_|refine ZC rfl ?_
    refine awp_loop (fun q st => ∃ (j at_ nx : Nat) (ob : List (Nat × Ob)), j ≤ N ∧ at_ ≤ T.length ∧ i + 1 + j ≤ at_ ∧ T.length - j < q ∧ endK (endT T) (N - j) at_ = R ∧
      st = ⟨[(0, .c (.d (.list sz (T.map ndD)))), (5, .c (.d (.int .i64 (at_ : Nat)))), (21, .c (.d (.int .i64 (N : Nat)))), (22, .c (.d (.int .i64 (j : Nat))))], ⟨nx, ob⟩⟩) (T.length + 1) ?_ (by rintro st ⟨j, at_, _, _, _, _, _, h, _⟩; omega) ?_
    · exact weak_keep [0, 5, 21, 22] rfl ⟨0, i + 1, _, _, by omega, by omega, by omega, by omega, hR.symm, rfl⟩
    · rintro q K hK st ⟨j, at_, nx, ob, hj, ha1, ha2, hq, he, rfl⟩
      by_cases hend : j = N
      · subst hend
        rw [Nat.sub_self] at he
        rw [← he]
        repeat' first
          | refine GoH ?_
          | refine ZB (ev_lss_f rfl rfl (by omega)) ?_
          | refine ZB rfl ?_|refine ZC rfl ?_
        exact ⟨_, rfl, rfl⟩
      · have hr := T322_eq (M := M) (sz := sz) (i := at_) (T := T) ⟨h1, by omega, by omega⟩
        rw [show N - j = (N - (j + 1)) + 1 by omega] at he
        unfold endK at he
        cases hb : endT T at_ with
        | none =>
          rw [hb] at he hr
          simp only at he
          rw [← he]
          repeat' first
            | refine GoH ?_
            | ((with_reducible apply Z1 (f := 18));rfl;rfl;rfl;exact hr;rfl)
            | refine ZB (ev_lss_t rfl rfl (by omega)) ?_
            | refine ZB rfl ?_|refine ZC rfl ?_
          exact ⟨_, rfl, rfl⟩
        | some e =>
          rw [hb] at he hr
          simp only at he
          have hr : T322 M [.c (.list sz (T.map ndD)), .c (.int .i64 (at_ : Nat))] = some (.c (.int .i64 (e : Nat))) := hr
          have hlt := endT_lt hb
          have htop := endT_top hb
          repeat' first
            | refine GoH ?_
            | ((with_reducible apply Z1 (f := 18));rfl;rfl;rfl;exact hr;rfl)
            | refine ZB (ev_lss_t rfl rfl (by omega)) ?_
            | refine ZB (ev_lss_f rfl rfl (by omega)) ?_
            | refine ZB (ev_add rfl rfl (by omega) (by omega)) ?_
            | refine ZB rfl ?_|refine ZC rfl ?_
          exact hK _ (weak_keep [0, 5, 21, 22] rfl ⟨j + 1, e, nx, ob, by omega, htop, by omega, by omega, he, rfl⟩)
theorem pok322 (m : Int) : ∀ M, PureOk Go.Proofs.Tryd.prog (glb m) 18 (T322 M)
  | 0 => .inl (fam_ok (fn322r m) (callOk_nil _ _) (fun _ hx => absurd hx.2.2 (Nat.not_lt_zero _)))
  | M + 1 => .inl (fam_ok (fn322r m) (callOk_cons (pok322 m M) (callOk_nil _ _)) (w322 M))
end Go.Am
