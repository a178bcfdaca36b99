/-
  Data of some types: envs, pairs of operators, tokens.
-/
import Derived.Test.YtnhalnblbfgbkaaDoorARead3
import Derived.Test.YtnhalnblbfgbkaaDoorAMV
import Derived.Test.YtnhalnblbfgbkaaDoorAQA
namespace Go.Am
open Go
def tOp : Ty := .tup [.str, .int .i64, .int .i64]
def tI10 : Ty := .tup [.int .i64, .int .i64, .int .i64, .int .i64, .int .i64, .int .i64, .int .i64, .int .i64, .int .i64, .int .i64]
def tEnv : Ty := .tup [.slice 3 tOp, tI10]
def tPair : Ty := .tup [tOp, tOp, .bool]
def tTk : Ty := .tup [.int .i64, .int .i64, .int .i64, .str, .int .i64]
theorem op_of {ds : List D} (h : tOp.ok ds) : ∃ o : Op3, ds = opD o ∧ o.pat.length ≤ 140737488351232 := by
  simp only [tOp, Ty.ok, Ty.oks] at h
  obtain ⟨_, _, rfl, ⟨s, rfl, hs⟩, _, _, rfl, ⟨g, rfl, _⟩, _, _, rfl, ⟨a, rfl, _⟩, rfl⟩ := h
  exact ⟨⟨s, g, a⟩, rfl, hs⟩
theorem list_of {α : Type} {f : α → List D} {Q : α → Prop} : ∀ {l : List (List D)}, (∀ x ∈ l, ∃ a, x = f a ∧ Q a) → ∃ r : List α, l = r.map f ∧ ∀ a ∈ r, Q a
  | [], _ => ⟨[], rfl, fun a h => by cases h⟩
  | x :: l, h => by
    obtain ⟨a, rfl, ha⟩ := h x (by simp)
    obtain ⟨r, rfl, hr⟩ := list_of (l := l) (fun y hy => h y (by simp [hy]))
    refine ⟨a :: r, rfl, fun b hb => ?_⟩
    rcases List.mem_cons.1 hb with rfl | hb
    · exact ha
    · exact hr b hb
theorem env_of {ds : List D} (h : tEnv.ok ds) : ∃ x : List Op3 × (Nat → Int), ds = envD 3 x.1 x.2 ∧ ∀ o ∈ x.1, o.pat.length ≤ 140737488351232 := by
  simp only [tEnv, tI10, Ty.ok, Ty.oks] at h
  obtain ⟨_, _, rfl, ⟨l, rfl, hl⟩, _, _, rfl, h10, rfl⟩ := h
  obtain ⟨l, rfl, hl'⟩ := list_of (fun x hx => op_of (hl x hx))
  obtain ⟨_, _, rfl, ⟨n0, rfl, _⟩, _, _, rfl, ⟨n1, rfl, _⟩, _, _, rfl, ⟨n2, rfl, _⟩, _, _, rfl, ⟨n3, rfl, _⟩, _, _, rfl, ⟨n4, rfl, _⟩, _, _, rfl, ⟨n5, rfl, _⟩, _, _, rfl, ⟨n6, rfl, _⟩, _, _, rfl, ⟨n7, rfl, _⟩, _, _, rfl, ⟨n8, rfl, _⟩, _, _, rfl, ⟨n9, rfl, _⟩, rfl⟩ := h10
  exact ⟨(l, fun i => match i with | 0 => n0 | 1 => n1 | 2 => n2 | 3 => n3 | 4 => n4 | 5 => n5 | 6 => n6 | 7 => n7 | 8 => n8 | _ => n9), rfl, hl'⟩
theorem opair_of {ds : List D} (h : tPair.ok ds) : ∃ x : Op3 × Op3 × Bool, ds = opD x.1 ++ opD x.2.1 ++ [.bool x.2.2] ∧ True := by
  simp only [tPair, Ty.ok, Ty.oks] at h
  obtain ⟨_, _, rfl, ha, _, _, rfl, hb, _, _, rfl, ⟨b, rfl⟩, rfl⟩ := h
  obtain ⟨o, rfl, _⟩ := op_of ha
  obtain ⟨k, rfl, _⟩ := op_of hb
  exact ⟨(o, k, b), by simp [opD], trivial⟩
theorem tk_of {ds : List D} (h : tTk.ok ds) : ∃ t : Tk5, ds = tkD t ∧ t.s.length ≤ 140737488351232 := by
  simp only [tTk, Ty.ok, Ty.oks] at h
  obtain ⟨_, _, rfl, ⟨k, rfl, _⟩, _, _, rfl, ⟨a, rfl, _⟩, _, _, rfl, ⟨b, rfl, _⟩, _, _, rfl, ⟨s, rfl, hs⟩, _, _, rfl, ⟨e, rfl, _⟩, rfl⟩ := h
  exact ⟨⟨k, a, b, s, e⟩, rfl, hs⟩
end Go.Am
