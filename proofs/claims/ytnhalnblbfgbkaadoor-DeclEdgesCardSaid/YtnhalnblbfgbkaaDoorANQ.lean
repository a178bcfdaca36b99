/-
  OperSimple: the law's function comes to true, whatever it is given.
-/
import Derived.Test.YtnhalnblbfgbkaaDoorANC
import Derived.Test.YtnhalnblbfgbkaaDoorAMJ
namespace Go.Am
open Go
theorem lower_class : ∀ n : Nat, n < 256 → 97 ≤ n → n ≤ 122 → classOf (UInt8.ofNat n) = 2 := by decide +kernel
theorem lower_is {b : UInt8} (h1 : 97 ≤ b.toNat) (h2 : b.toNat ≤ 122) : classOf b = 2 := by
  have := lower_class b.toNat (UInt8.toNat_lt b) h1 h2
  have e : UInt8.ofNat b.toNat = b := by simp
  rw [e] at this
  exact this
def lowW (w : List UInt8) : Prop := ∀ b ∈ w, 97 ≤ b.toNat ∧ b.toNat ≤ 122
theorem lowW_app {w : List UInt8} {c : UInt8} (h : lowW w) (h1 : 97 ≤ c.toNat) (h2 : c.toNat ≤ 122) : lowW (w ++ [c]) := by
  intro b hb
  rcases List.mem_append.1 hb with h3 | h3
  · exact h b h3
  · have : b = c := by simpa using h3
    subst this
    exact ⟨h1, h2⟩
theorem ev_rem8 {cl : Call} {e : Env} {h : Hp} {x y : Opd} {a b : Int} (hx : ev e x = .c (.d (.int .u8 a))) (hy : ev e y = .c (.d (.int .u8 b))) (h0 : 0 ≤ a) (hb : b ≠ 0) : eval cl e h (.bin .rem x y) = some (.c (.d (.int .u8 (a % b))), h) := by
  have : a.tmod b = a % b := Int.tmod_eq_emod_of_nonneg h0
  simp [eval, hx, hy, binV, binD, isShift, binInt, hb, this]
theorem wrap8 {n : Int} (h0 : 0 ≤ n) (h1 : n < 256) : IntKind.wrap .u8 n = n := by
  unfold IntKind.wrap
  have hs : IntKind.signed .u8 = false := rfl
  have hb : IntKind.bits .u8 = 8 := rfl
  simp only [hs, hb, Bool.false_and, Bool.false_eq_true, if_false]
  omega
theorem ev_add8 {cl : Call} {e : Env} {h : Hp} {x y : Opd} {a b : Int} (hx : ev e x = .c (.d (.int .u8 a))) (hy : ev e y = .c (.d (.int .u8 b))) (h0 : 0 ≤ a + b) (h1 : a + b < 256) : eval cl e h (.bin .add x y) = some (.c (.d (.int .u8 (a + b))), h) := by
  simp only [eval, hx, hy, binV, binD, isShift, binInt, wrap8 h0 h1]
  rfl
end Go.Am
