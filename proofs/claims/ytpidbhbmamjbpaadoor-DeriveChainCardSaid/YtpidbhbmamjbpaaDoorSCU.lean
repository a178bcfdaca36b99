/- The abstract code of functions: printed by gen.py; checked by the kernel. -/
import Derived.Test.YtpidbhbmamjbpaaDoorSMD
import Derived.Test.YtpidbhbmamjbpaaDoorProg
namespace Go.Am
open Go K
set_option maxRecDepth 100000
theorem mixedU : Go.Proofs.Tryd.prog.follows .mixedOrders = true := by kernel_rfl
def c64 : ACode :=
 (S (R [q 0 (.alloc [o, o, o, o, o, o, o, o, o, o])]) (S (R [q 1 (.alloc [o, o, o, o, o, o, o, o, o, o])]) (S (S (R [q 3 (.move (i 0))]) (B 0 (L (S (R [q 4 (.bin .lss (t 3) (i 5))]) (S (I (t 4) X (E 0)) (S (B 1 (S (R [m 5 3, m 2 5]) (R [m 6 2, q 7 (.bin .add (t 6) (i 1)), m 8 2, q 9 (.bin .add (t 8) (i 1)), q 10 (.bin .shl (i 1) (t 9)), q 11 (.bin .sub (t 10) (i 2)), q 12 (.arrAddr (t 1) (t 7) 1 10), n (st 12 11 1)]))) (R [q 13 (.bin .add (t 3) (i 1)), m 3 13]))))))) (S (R [q 14 (la 1 10), n (st 0 14 10)]) Z))))
theorem fn64 (m : Int) : FnOk Go.Proofs.Tryd.prog ⟨[], [], HP, glb m⟩ 26 15 c64 [.cell 0 10 true] := fnk mixedU Go.Proofs.Tryd.f26
def c51 : ACode :=
 (S (R [q 3 (.box (t 0)), q 6 (.move F)]) (S (R [m 7 1, q 8 (.bin .eql (t 7) (i 0)), m 9 8, rm 10 9 1, r 11 9 (.pcall 86 [(t 10)]), q 12 (.pick (t 9) T (t 11)), m 13 12, pm 14 13 2, p 15 13 (.bin .eql (t 14) (i 0)), pm 16 13 15, rm 17 16 2, r 18 16 (.pcall 86 [(t 17)]), p 19 13 (.pick (t 16) T (t 18)), q 20 (.pick (t 13) (t 19) F), m 21 20, pm 22 21 1, p 23 21 (.arrAddr (t 3) (t 22) 1 10), p 24 21 (l 23), pm 25 21 2, p 26 21 (.bin .shr (t 24) (t 25)), p 27 21 (.bin .and (t 26) (i 1)), p 28 21 (.bin .eql (t 27) (i 1)), q 29 (.pick (t 21) (t 28) F), m 6 29]) Z))
theorem fn51 (m : Int) : FnOk Go.Proofs.Tryd.prog ⟨[], [], HP, glb m⟩ 72 30 c51 [.t 6] := fnk mixedU Go.Proofs.Tryd.f72
def c69 : ACode :=
 (S (R [q 2 (.move F)]) (S (R [m 3 0, q 4 (.bin .gtr (t 3) (i 0)), m 5 4, pm 6 5 0, p 7 5 (.bin .lss (t 6) (i 10)), q 8 (.pick (t 5) (t 7) F), m 2 8]) Z))
theorem fn69 (m : Int) : FnOk Go.Proofs.Tryd.prog ⟨[], [], HP, glb m⟩ 86 9 c69 [.t 2] := fnk mixedU Go.Proofs.Tryd.f86
def c48 : ACode :=
 (S (R [q 0 (.alloc [.nil, o, o, o, o, o, o, o, o, o, o])]) (S (R [q 1 (.pcall 26 []), q 2 (.build [.nil, o, o, o, o, o, o, o, o, o, o] [(1, 10, (t 1))]), n (st 0 2 11)]) Z))
theorem fn48 (m : Int) : FnOk Go.Proofs.Tryd.prog ⟨[], [], HP, glb m⟩ 12 3 c48 [.cell 0 11 true] := fnk mixedU Go.Proofs.Tryd.f12
def c23 : ACode :=
 (S (R [q 4 (.box (t 0)), q 5 (.box (t 1)), q 6 (.box (t 2)), q 8 (.move F)]) (S (R [q 16 (fa 5 0), q 17 (l 16), q 18 (.pcall 14 [(t 17)]), m 15 18, q 19 (ex 15 0), q 20 (ex 15 1), q 9 (.alloc [.nil, z, z]), n (st 9 19 3), m 10 20]) (S (R [q 22 (fa 6 0), q 23 (l 22), q 24 (.pcall 14 [(t 23)]), m 21 24, q 25 (ex 21 0), q 26 (ex 21 1), q 11 (.alloc [.nil, z, z]), n (st 11 25 3), m 12 26]) (S (R [q 27 (fa 9 1), q 28 (l 27), m 13 28, q 14 (.move (i 1))]) (S (S (R [m 29 3]) (I (t 29) (R [q 30 (fa 9 2), q 31 (l 30), m 13 31, q 14 (.move (i 2))]) X)) (S (B 0 (S (S (R [m 33 10, q 34 (.bin .neq (t 33) (i 0)), m 32 34]) (I (t 32) X (S (R [m 35 12, q 36 (.bin .neq (t 35) (i 0)), m 32 36]) (I (t 32) X (R [m 37 13, q 38 (.not (t 37)), m 32 38]))))) (I (t 32) (S (R [q 8 (.move F)]) Z) (S (S (R [q 40 (fa 11 1), q 41 (l 40), q 42 (.not (t 41)), m 43 42, p 44 43 (fa 11 2), p 45 43 (l 44), p 46 43 (.not (t 45)), q 47 (.pick (t 43) (t 46) F), m 39 47]) (I (t 39) X (R [q 48 (la 4 10), q 49 (fa 5 1), q 50 (l 49), q 51 (fa 6 1), q 52 (l 51), q 53 (.pcall 72 [(t 48), (t 50), (t 52)]), m 39 53]))) (I (t 39) (S (R [q 8 (.move T)]) Z) X))))) (S (R [q 54 (fa 5 1), q 55 (l 54), q 56 (fa 6 1), q 57 (l 56), q 58 (.bin .eql (t 55) (t 57)), m 59 58, p 60 59 (fa 5 2), p 61 59 (l 60), pm 62 59 14, p 63 59 (.bin .eql (t 61) (t 62)), q 64 (.pick (t 59) (t 63) F), m 65 64, p 66 65 (fa 6 2), p 67 65 (l 66), pm 68 65 14, p 69 65 (.bin .eql (t 67) (t 68)), q 70 (.pick (t 65) (t 69) F), m 8 70]) Z)))))))
theorem fn23 (m : Int) : FnOk Go.Proofs.Tryd.prog ⟨[], [], HP, glb m⟩ 49 71 c23 [.t 8] := fnk mixedU Go.Proofs.Tryd.f49
def c70 : ACode :=
 (S (R [q 4 (.move F)]) (S (R [m 5 0, m 6 1, q 7 (.pcall 85 [(t 5), (t 6)]), q 8 (.bin .geq (t 7) (i 0)), m 4 8]) Z))
theorem fn70 (m : Int) : FnOk Go.Proofs.Tryd.prog ⟨[], [], HP, glb m⟩ 69 9 c70 [.t 4] := fnk mixedU Go.Proofs.Tryd.f69
def c86 : ACode :=
 (S (R [q 4 (.move (i 0))]) (S (S (R [m 6 0, q 7 (.len (t 6)), q 8 (.move (i 0))]) (B 0 (L (S (R [q 9 (.bin .lss (t 8) (t 7))]) (S (I (t 9) X (E 0)) (S (B 1 (S (R [m 10 8, m 5 10]) (S (R [m 11 1, m 12 0, m 13 5, q 14 (.idxAddr 1 (t 12) (t 13)), q 15 (l 14), q 16 (.bin .eql (t 11) (t 15))]) (I (t 16) (S (R [m 17 5, m 4 17]) Z) X)))) (R [q 18 (.bin .add (t 8) (i 1)), m 8 18]))))))) (S (R [q 4 (.move (i (-1)))]) Z)))
theorem fn86 (m : Int) : FnOk Go.Proofs.Tryd.prog ⟨[], [], HP, glb m⟩ 85 19 c86 [.t 4] := fnk mixedU Go.Proofs.Tryd.f85
def c53 : ACode :=
 (S (R [q 2 (.box (t 0)), q 4 (.move F)]) (S (R [m 5 1, q 6 (fa 2 0), q 7 (l 6), q 8 (.pcall 69 [(t 5), (t 7)]), m 4 8]) Z))
theorem fn53 (m : Int) : FnOk Go.Proofs.Tryd.prog ⟨[], [], HP, glb m⟩ 45 9 c53 [.t 4] := fnk mixedU Go.Proofs.Tryd.f45
def c27 : ACode :=
 (S (R [q 2 (.box (t 0)), q 4 (.move F)]) (S (R [q 5 (fa 2 3), q 6 (l 5), m 7 1, q 8 (.bin .eql (t 6) (t 7)), m 9 8, p 10 9 (la 2 5), p 11 9 (.lit 1 3 [(.int .i64 0)] [(0, (i 1)), (1, (i 2)), (2, (i 6))] false), p 12 9 (.pcall 45 [(t 10), (t 11)]), q 13 (.pick (t 9) (t 12) F), m 4 13]) Z))
theorem fn27 (m : Int) : FnOk Go.Proofs.Tryd.prog ⟨[], [], HP, glb m⟩ 50 14 c27 [.t 4] := fnk mixedU Go.Proofs.Tryd.f50
def c29 : ACode :=
 (S (R [q 2 (.box (t 0)), q 3 (.box (t 1)), q 4 (.move F)]) (S (S (R [q 5 (la 3 5), q 6 (.lit 1 3 [(.int .i64 0)] [(0, (i 3)), (1, (i 4)), (2, (i 5))] false), q 7 (.pcall 45 [(t 5), (t 6)])]) (I (t 7) (S (R [q 4 (.move T)]) Z) X)) (S (R [q 8 (la 3 5), q 9 (.lit 1 2 [(.int .i64 0)] [(0, (i 1)), (1, (i 2))] false), q 10 (.pcall 45 [(t 8), (t 9)]), m 11 10, p 12 11 (la 2 11), p 13 11 (fa 3 3), p 14 11 (l 13), p 15 11 (.pcall 46 [(t 12), (t 14)]), p 16 11 (.len (t 15)), p 17 11 (.bin .eql (t 16) (i 0)), q 18 (.pick (t 11) (t 17) F), m 4 18]) Z)))
theorem fn29 (m : Int) : FnOk Go.Proofs.Tryd.prog ⟨[], [], HP, glb m⟩ 21 19 c29 [.t 4] := fnk mixedU Go.Proofs.Tryd.f21
def c56 : ACode :=
 (S (R [q 1 (.box (t 0)), q 2 (.move (.k (.c .nil)))]) (S (R [q 6 (fa 1 0), q 7 (l 6), q 8 (.pcall 14 [(t 7)]), m 5 8, q 9 (ex 5 0), q 10 (ex 5 1), q 3 (.alloc [.nil, z, z]), n (st 3 9 3), m 4 10]) (S (R [q 11 (fa 3 0), q 12 (l 11), m 2 12]) Z)))
theorem fn56 (m : Int) : FnOk Go.Proofs.Tryd.prog ⟨[], [], HP, glb m⟩ 70 13 c56 [.t 2] := fnk mixedU Go.Proofs.Tryd.f70
end Go.Am
