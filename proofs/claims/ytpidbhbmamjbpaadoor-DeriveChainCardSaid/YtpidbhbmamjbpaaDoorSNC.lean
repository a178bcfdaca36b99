/-
  strings.Join, shape.Text.
-/
import Derived.Test.YtpidbhbmamjbpaaDoorSML
import Derived.Test.YtpidbhbmamjbpaaDoorSMH
import Derived.Test.YtpidbhbmamjbpaaDoorProg
import Derived.Shelf.Strings.OnBuilder
import Derived.Test.YtpidbhbmamjbpaaDoorSMI
import Derived.Test.YtpidbhbmamjbpaaDoorSMV
import Derived.Test.YtpidbhbmamjbpaaDoorSMD
import Derived.Test.YtpidbhbmamjbpaaDoorSQU
namespace Go.Am
open Go
def partE : List UInt8 → Bool := partV (onB FAll)
theorem ofStrs_inj {a b : List (List UInt8)} (h : ofStrs a = ofStrs b) : a = b := by
  have := strsOf_back a
  rw [h, strsOf_back] at this
  exact (Option.some.inj this).symm
end Go.Am
namespace Go.Proofs
open Go.Shelf
end Go.Proofs
namespace Go.Am
open Go
theorem ev_min {cl : Call} {e : Env} {h : Hp} {x y : Opd} {k k' : IntKind} {a b : Int} (hx : ev e x = .c (.d (.int k a))) (hy : ev e y = .c (.d (.int k' b))) : eval cl e h (.min x y) = some (.c (.d (.int k (if b < a then b else a))), h) := by
  simp only [eval, hx, hy]
theorem ev_adds {cl : Call} {e : Env} {h : Hp} {x y : Opd} {s t : List UInt8} (hx : ev e x = .c (.d (.str s))) (hy : ev e y = .c (.d (.str t))) (hl : s.length + t.length ≤ 9223372036854775807) : eval cl e h (.bin .add x y) = some (.c (.d (.str (s ++ t))), h) := by
  simp only [eval, hx, hy, binV, binD, binStr, if_pos hl]
def mayOf (part : List UInt8 → Bool) (pat : List UInt8) (g a : Int) : Int := match shapeOf part pat with
  | none => 23
  | some v => if g < 1 ∨ 10 ≤ g then 21 else if a = 0 ∨ (a = 1 ∧ v.left = true) ∨ (a = 2 ∧ v.right = true) then 0 else 24
end Go.Am
namespace Go.Am
open Go
def addL (o : Op3) (l : List Op3) : Option (List Op3) := match l.dropWhile (fun x => strLess x.pat o.pat) with
  | [] => if 16 ≤ l.length then none else some (l.takeWhile (fun x => strLess x.pat o.pat) ++ [o] ++ [])
  | x :: t => if x.pat = o.pat then some (l.takeWhile (fun x => strLess x.pat o.pat) ++ [o] ++ t) else if 16 ≤ l.length then none else some (l.takeWhile (fun x => strLess x.pat o.pat) ++ [o] ++ x :: t)
def addR (o : Op3) (l : List Op3) (r : Nat → Nat) : DV := if mayOf partE o.pat o.g o.a ≠ 0 then .tup [.agg zeroEnv, .c (.int .i64 (mayOf partE o.pat o.g o.a))] else match addL o l with
  | none => .tup [.agg zeroEnv, .c (.int .i64 5)]
  | some l' => .tup [.agg (envD 3 l' (liftF r)), .c (.int .i64 0)]
end Go.Am
namespace Go.Am
open Go
def simplesD : List D :=
  [.str [120, 102, 120], .bool true, .bool true, .int .i64 0, .str [120, 102, 121], .bool true, .bool true, .int .i64 2, .str [121, 102, 120], .bool true, .bool true, .int .i64 1, .str [102, 120], .bool false, .bool true, .int .i64 0,
   .str [102, 121], .bool false, .bool true, .int .i64 2, .str [120, 102], .bool true, .bool false, .int .i64 0, .str [121, 102], .bool true, .bool false, .int .i64 1]
def glbS (m : Int) : Nat → Option (List D) := fun g => if g = 99 then some simplesD else glb m g
theorem globS {m : Int} {w : World} {A : Nat → Prop} (h : GlobOk (glbS m) w A) : GlobOk (glb m) w A := by
  intro g ds hg
  refine h g ds ?_
  unfold glbS
  by_cases h0 : g = 99
  · subst h0; cases hg
  · rw [if_neg h0]; exact hg
theorem PureFn.more {P : Program} {gl gl' : Nat → Option (List D)} {f : FuncId} {G : List DV → Option DV} (h : PureFn P gl f G) (hg : ∀ w A, GlobOk gl' w A → GlobOk gl w A) : PureFn P gl' f G :=
  ⟨h.enters, fun w A ds vs r h1 h2 h3 h4 => h.run w A ds vs r (hg w A h1) h2 h3 h4⟩
theorem PureOk.more {P : Program} {gl gl' : Nat → Option (List D)} {f : FuncId} {G : List DV → Option DV} (h : PureOk P gl f G) (hg : ∀ w A, GlobOk gl' w A → GlobOk gl w A) : PureOk P gl' f G :=
  h.elim (fun h => .inl (h.more hg)) (fun h => .inr fun w A ds vs r h1 h2 h3 h4 => h w A ds vs r (hg w A h1) h2 h3 h4)
theorem PureOk.s {P : Program} {m : Int} {f : FuncId} {G : List DV → Option DV} (h : PureOk P (glb m) f G) : PureOk P (glbS m) f G := h.more fun _ _ => globS
end Go.Am
namespace Go.Am
open Go K
set_option maxRecDepth 100000
def c42 : ACode :=
 (S (R [q 1 (.box (t 0)), q 2 (.move (i 0))]) (S (R [q 6 (fa 1 0), q 7 (l 6), q 8 (.pcall 14 [(t 7)]), m 5 8, q 9 (ex 5 0), q 10 (ex 5 1), q 3 (.alloc [.nil, z, z]), n (st 3 9 3), m 4 10]) (S (S (R [m 11 4, q 12 (.bin .neq (t 11) (i 0))]) (I (t 12) (S (R [m 13 4, m 2 13]) Z) X)) (S (S (R [q 14 (fa 1 1), q 15 (l 14), q 16 (.bin .lss (t 15) (i 1)), m 17 16, r 18 17 (fa 1 1), r 19 17 (l 18), r 20 17 (.bin .geq (t 19) (i 10)), q 21 (.pick (t 17) T (t 20))]) (I (t 21) (S (R [q 2 (.move (i 21))]) Z) X)) (S (B 0 (S (S (R [q 23 (fa 1 2), q 24 (l 23), q 25 (.bin .eql (t 24) (i 0)), m 22 25]) (I (t 22) X (S (R [q 26 (fa 1 2), q 27 (l 26), q 28 (.bin .eql (t 27) (i 1)), m 29 28, p 30 29 (fa 3 1), p 31 29 (l 30), q 32 (.pick (t 29) (t 31) F), m 22 32]) (I (t 22) X (R [q 33 (fa 1 2), q 34 (l 33), q 35 (.bin .eql (t 34) (i 2)), m 36 35, p 37 36 (fa 3 2), p 38 36 (l 37), q 39 (.pick (t 36) (t 38) F), m 22 39]))))) (I (t 22) (S (R [q 2 (.move (i 0))]) Z) X))) (S (R [q 2 (.move (i 24))]) Z))))))
end Go.Am
namespace Go.Am
open Go
def G42 (part : List UInt8 → Bool) : List DV → Option DV
  | [.agg [.str pat, .int .i64 g, .int .i64 a]] => some (.c (.int .i64 (mayOf part pat g a)))
  | _ => none
set_option maxRecDepth 8000 in
set_option maxHeartbeats 4000000 in
theorem w42 (part : List UInt8 → Bool) (ds : List DV) (r : DV) (h : G42 part ds = some r) : awp (tbl [(14, G19 part)]) c42 (PureQ [.t 2] r) ⟨argE 0 (dvArgs ds), ⟨0, []⟩⟩ := by
  unfold G42 at h
  split at h
  · rename_i pat g a
    cases h
    unfold mayOf
    cases hS : shapeOf part pat with
    | none =>
      have h19 : G19 part [.c (.str pat)] = some (.tup [.agg [.list 0 [], .bool false, .bool false], .c (.int .i64 23)]) := by simp only [G19, hS]; rfl
      unfold c42
      repeat' first | ((with_reducible first|apply ZD|apply ZE|apply ZF|apply ZG|apply ZH|apply ZI);rfl;rfl;all_goals (intro hc;first|(exfalso;omega)|skip))|((with_reducible first|apply ZJ|apply ZK);rfl;rfl;all_goals (intro hc;first|contradiction|skip))|((with_reducible first|apply ZL|apply ZM);rfl;rfl;omega;omega)|((with_reducible first|apply ZN|apply ZO);rfl;rfl;omega;omega;intro c hget hc)|((with_reducible apply ZP);rfl;(first|exact .inl rfl|assumption);rfl;rfl;omega;omega;omega;intro s' hs' hl')|((with_reducible apply ZQ);rfl;rfl;rfl;omega;omega;omega;intro s' hs' hl')|((with_reducible apply ZR);rfl) | ((with_reducible apply Z1 (f := 14));rfl;rfl;rfl;exact h19;rfl) | refine GoH ?_|refine ZB rfl ?_|refine ZC rfl ?_
      exact ⟨_, rfl, rfl⟩
    | some v =>
      obtain ⟨ps, l, rr⟩ := v
      have h19 : G19 part [.c (.str pat)] = some (.tup [.agg [.list 1 (ofStrs ps), .bool l, .bool rr], .c (.int .i64 0)]) := by simp only [G19, hS]; rfl
      unfold c42
      cases l <;> cases rr <;> (try simp only [Bool.false_eq_true, and_false, and_true, or_false, false_or]) <;>
      (repeat' first | ((with_reducible first|apply ZD|apply ZE|apply ZF|apply ZG|apply ZH|apply ZI);rfl;rfl;all_goals (intro hc;first|(exfalso;omega)|skip))|((with_reducible first|apply ZJ|apply ZK);rfl;rfl;all_goals (intro hc;first|contradiction|skip))|((with_reducible first|apply ZL|apply ZM);rfl;rfl;omega;omega)|((with_reducible first|apply ZN|apply ZO);rfl;rfl;omega;omega;intro c hget hc)|((with_reducible apply ZP);rfl;(first|exact .inl rfl|assumption);rfl;rfl;omega;omega;omega;intro s' hs' hl')|((with_reducible apply ZQ);rfl;rfl;rfl;omega;omega;omega;intro s' hs' hl')|((with_reducible apply ZR);rfl) | ((with_reducible apply Z1 (f := 14));rfl;rfl;rfl;exact h19;rfl) | refine GoH ?_|refine ZB rfl ?_|refine ZC rfl ?_)
      all_goals first
        | (rw [if_pos (by omega)]; exact ⟨_, rfl, rfl⟩)
        | (rw [if_neg (by omega), if_pos (by omega)]; exact ⟨_, rfl, rfl⟩)
        | (rw [if_neg (by omega), if_neg (by omega)]; exact ⟨_, rfl, rfl⟩)
  · cases h
theorem toInt_64 {cl : Call} {e : Env} {h : Hp} {x : Opd} {k : IntKind} {n : Int} (hx : ev e x = .c (.d (.int k n))) (h0 : 0 ≤ n) (h1 : n < 9223372036854775808) : eval cl e h (.toInt .i64 x) = some (.c (.d (.int .i64 n)), h) := by
  simp only [eval, hx, wrap64 (n := n) (by omega) (by omega)]
end Go.Am
