/-
  Data of some types: bytes, one byte, numbers of 32 bits.
-/
import Derived.Test.YtnhalnblbfgbkaaDoorARead3
namespace Go.Am
open Go
theorem u8w_of {n : Int} (h : (Lit.int .u8 n).wf = true) : ∃ k : Nat, n = (k : Int) ∧ k < 256 := by
  simp [Lit.wf, IntKind.min, IntKind.max, IntKind.signed, IntKind.bits] at h
  exact ⟨n.toNat, by omega, by omega⟩
theorem u8_is {ds : List D} (h : (Ty.int .u8).ok ds) : ∃ k : Nat, ds = [.int .u8 (k : Int)] ∧ k < 256 := by
  simp only [Ty.ok] at h
  obtain ⟨n, rfl, hn⟩ := h
  obtain ⟨k, rfl, hk⟩ := u8w_of hn
  exact ⟨k, rfl, hk⟩
theorem u32_is {ds : List D} (h : (Ty.int .u32).ok ds) : ∃ k : Nat, ds = [.int .u32 (k : Int)] ∧ k < 4294967296 := by
  simp only [Ty.ok] at h
  obtain ⟨n, rfl, hn⟩ := h
  simp [Lit.wf, IntKind.min, IntKind.max, IntKind.signed, IntKind.bits] at hn
  exact ⟨n.toNat, by simp; omega, by omega⟩
theorem bytes_is {ds : List D} (h : (Ty.slice 1 (Ty.int .u8)).ok ds) : ∃ s : List UInt8, ds = [.list 1 (encB s)] ∧ True := by
  simp only [Ty.ok] at h
  obtain ⟨l, rfl, hl⟩ := h
  have key : ∀ l : List (List D), (∀ x ∈ l, ∃ n, x = [D.int .u8 n] ∧ (Lit.int .u8 n).wf = true) → ∃ s : List UInt8, l = encB s := by
    intro l
    induction l with
    | nil => exact fun _ => ⟨[], rfl⟩
    | cons x l ih =>
      intro h
      obtain ⟨n, rfl, hn⟩ := h x (by simp)
      obtain ⟨k, rfl, hk⟩ := u8w_of hn
      obtain ⟨s, rfl⟩ := ih fun y hy => h y (by simp [hy])
      refine ⟨UInt8.ofNat k :: s, ?_⟩
      have : ((UInt8.ofNat k).toNat : Int) = k := by rw [UInt8.toNat_ofNat']; omega
      show _ = [D.int .u8 ((UInt8.ofNat k).toNat : Int)] :: encB s
      rw [this]
  obtain ⟨s, rfl⟩ := key l (fun x hx => by simpa only [Ty.ok] using hl x hx)
  exact ⟨s, rfl, trivial⟩
end Go.Am
