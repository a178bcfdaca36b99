/-
  An operator added to an env, in plain words.
-/
import Derived.Test.YtjcllhljkfhjjaaGreatDoorSML
import Derived.Test.YtjcllhljkfhjjaaGreatDoorSMH
import Derived.Test.YtjcllhljkfhjjaaGreatDoorProg
import Derived.Shelf.Strings.OnBuilder
import Derived.Test.YtjcllhljkfhjjaaGreatDoorSMI
import Derived.Test.YtjcllhljkfhjjaaGreatDoorSMV
namespace Go.Am
open Go
def partE : List UInt8 → Bool := partV (onB FAll)
theorem ofStrs_inj {a b : List (List UInt8)} (h : ofStrs a = ofStrs b) : a = b := by
  have := strsOf_back a
  rw [h, strsOf_back] at this
  exact (Option.some.inj this).symm
end Go.Am
namespace Go.Proofs
open Go.Shelf
end Go.Proofs
namespace Go.Am
open Go
theorem ev_adds {cl : Call} {e : Env} {h : Hp} {x y : Opd} {s t : List UInt8} (hx : ev e x = .c (.d (.str s))) (hy : ev e y = .c (.d (.str t))) (hl : s.length + t.length ≤ 9223372036854775807) : eval cl e h (.bin .add x y) = some (.c (.d (.str (s ++ t))), h) := by
  simp only [eval, hx, hy, binV, binD, binStr, if_pos hl]
def joinOf (ss : List (List UInt8)) (sep : List UInt8) : List UInt8 := Lib.join ss sep
def joinOk (ss : List (List UInt8)) (sep : List UInt8) : Bool := decide (ss.length ≤ room) && decide ((joinOf ss sep).length ≤ room)
def textOf (v : SV) : List UInt8 := (if v.left then [95] else []) ++ joinOf v.parts [95] ++ (if v.right then [95] else [])
theorem join_cons2 (x y : List UInt8) (r : List (List UInt8)) : joinOf (x :: y :: r) [95] = x ++ 95 :: joinOf (y :: r) [95] := by
  simp [joinOf, Lib.join, List.intercalate, List.intersperse]
theorem join_single (x : List UInt8) : joinOf [x] [95] = x := by
  simp [joinOf, Lib.join, List.intercalate, List.intersperse]
theorem join_cut : ∀ s : List UInt8, joinOf (cutU 95 s) [95] = s
  | [] => by simp [cutU, join_single]
  | b :: r => by
    have ih := join_cut r
    unfold cutU
    by_cases h : b = 95
    · rw [if_pos h]
      cases hr : cutU 95 r with
      | nil => exact absurd hr (cutU_ne _ _)
      | cons x y =>
        rw [hr] at ih
        rw [join_cons2, ih, h]
        rfl
    · rw [if_neg h]
      cases hr : cutU 95 r with
      | nil => exact absurd hr (cutU_ne _ _)
      | cons x y =>
        rw [hr] at ih
        simp only
        cases y with
        | nil => rw [join_single] at ih ⊢; rw [ih]
        | cons z w => rw [join_cons2] at ih ⊢; rw [List.cons_append, ih]
theorem join_app : ∀ (q : List (List UInt8)), q ≠ [] → joinOf (q ++ [[]]) [95] = joinOf q [95] ++ [95]
  | [], h => (h rfl).elim
  | [x], _ => by rw [List.singleton_append, join_cons2, join_single, join_single]
  | x :: y :: r, _ => by
    have ih := join_app (y :: r) (by simp)
    rw [List.cons_append, List.cons_append, join_cons2, join_cons2]
    rw [List.cons_append] at ih
    rw [ih]
    simp
theorem text_trim {s : List UInt8} (h : (trim (cutU 95 s)).parts ≠ []) : textOf (trim (cutU 95 s)) = s := by
  have hj := join_cut s
  generalize hP : cutU 95 s = P at *
  cases P with
  | nil => exact absurd hP (cutU_ne _ _)
  | cons p0 rest =>
    unfold trim at h ⊢
    simp only at h ⊢
    have hL : (stripL (p0 :: rest)).2 ≠ [] → s = (if (stripL (p0 :: rest)).1 then [95] else []) ++ joinOf (stripL (p0 :: rest)).2 [95] := by
      intro hne
      rw [stripL_cons] at hne ⊢
      by_cases h0 : p0 = []
      · rw [if_pos h0] at hne ⊢
        simp only at hne ⊢
        cases rest with
        | nil => exact absurd rfl hne
        | cons y r => rw [h0, join_cons2] at hj; rw [← hj]; rfl
      · rw [if_neg h0]
        simp only
        rw [hj]
        rfl
    unfold textOf
    simp only
    rcases stripR_cases (stripL (p0 :: rest)).2 with ⟨q, hq1, hq2⟩ | hq
    · rw [hq2] at h ⊢
      simp only at h ⊢
      rw [hL (by rw [hq1]; simp), hq1, join_app q h]
      simp
    · rw [hq] at h ⊢
      simp only at h ⊢
      rw [hL h]
      simp
theorem text_len (v : SV) : (joinOf v.parts [95]).length ≤ (textOf v).length := by
  unfold textOf
  simp only [List.length_append]
  omega
def mayOf (part : List UInt8 → Bool) (pat : List UInt8) (g a : Int) : Int := match shapeOf part pat with
  | none => 23
  | some v => if g < 1 ∨ 10 ≤ g then 21 else if a = 0 ∨ (a = 1 ∧ v.left = true) ∨ (a = 2 ∧ v.right = true) then 0 else 24
end Go.Am
namespace Go.Am
open Go
def addL (o : Op3) (l : List Op3) : Option (List Op3) := match l.dropWhile (fun x => strLess x.pat o.pat) with
  | [] => if 16 ≤ l.length then none else some (l.takeWhile (fun x => strLess x.pat o.pat) ++ [o] ++ [])
  | x :: t => if x.pat = o.pat then some (l.takeWhile (fun x => strLess x.pat o.pat) ++ [o] ++ t) else if 16 ≤ l.length then none else some (l.takeWhile (fun x => strLess x.pat o.pat) ++ [o] ++ x :: t)
def addR (o : Op3) (l : List Op3) (r : Nat → Nat) : DV := if mayOf partE o.pat o.g o.a ≠ 0 then .tup [.agg zeroEnv, .c (.int .i64 (mayOf partE o.pat o.g o.a))] else match addL o l with
  | none => .tup [.agg zeroEnv, .c (.int .i64 5)]
  | some l' => .tup [.agg (envD 3 l' (liftF r)), .c (.int .i64 0)]
end Go.Am
