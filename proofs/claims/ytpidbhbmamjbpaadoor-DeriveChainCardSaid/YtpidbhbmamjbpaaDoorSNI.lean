/-
  Texts that are one token: what the plain lexer says of them.
-/
import Derived.Test.YtpidbhbmamjbpaaDoorSME
import Derived.Test.YtpidbhbmamjbpaaDoorSMD
import Derived.Test.YtpidbhbmamjbpaaDoorProg
import Derived.Test.YtpidbhbmamjbpaaDoorSML
import Derived.Test.YtpidbhbmamjbpaaDoorSMF
import Derived.Test.YtpidbhbmamjbpaaDoorSMG
import Derived.Test.YtpidbhbmamjbpaaDoorSQU
import Derived.Test.YtpidbhbmamjbpaaDoorSNC
namespace Go.Am
open Go
theorem numF_step {v : Int} {b : UInt8} {r : List UInt8} (h : v * 10 + ((b.toNat : Int) - 48) ≤ 2147483647) : numF v (b :: r) = numF (v * 10 + ((b.toNat : Int) - 48)) r := by
  simp only [numF]
  rw [if_neg (by omega)]
theorem numF_big {v : Int} {b : UInt8} {r : List UInt8} (h : 2147483647 < v * 10 + ((b.toNat : Int) - 48)) : numF v (b :: r) = none := by
  simp only [numF]
  rw [if_pos h]
theorem slice_take {s s' : List UInt8} {v : Int} {i k : Nat} (h : s' = (s.take v.toNat).drop (i : Int).toNat) (hv : v = i + k) : s' = (s.drop i).take k := by
  subst hv
  rw [h, show ((i : Int) + (k : Int)).toNat = i + k by omega, show ((i : Int)).toNat = i by omega, List.drop_take]
  congr 1
  omega
end Go.Am
namespace Go.Am
open Go
theorem class8_iff : ∀ c : UInt8, classOf c = 8 ↔ c.toNat = 37 := by
  have h : ∀ n : Nat, n < 256 → (classOf (UInt8.ofNat n) = 8 ↔ n = 37) := by decide +kernel
  intro c
  have := h c.toNat (UInt8.toNat_lt c)
  rw [UInt8.ofNat_toNat] at this
  exact this
theorem nameOf_all : ∀ {s : List UInt8}, (∀ b ∈ s, nameC b = true) → nameOf s = s.length
  | [], _ => rfl
  | b :: r, h => by
    have hb := h b (by simp)
    have hg : (b :: r)[0]? = some b := rfl
    have hT := take_low hg (nameC_low hb)
    rw [nameOf_go hg (by rw [hT]) (.inr hb), hT]
    simp only [List.drop_succ_cons, List.drop_zero, List.length_cons]
    rw [nameOf_all (fun x hx => h x (by simp [hx]))]
    omega
theorem single_tok {s : List UInt8} {k : Int} (h : single s k) : skipR s = (0, 0) ∧ tokOf s = ⟨k, s.length, s, 0⟩ ∧ 0 < s.length := by
  have hH := single_H78 h
  obtain ⟨c, hg, h⟩ := h
  have h0 : 0 < s.length := (List.getElem?_eq_some_iff.1 hg).1
  have hs : skipR s = (0, 0) := by
    rcases hH with rfl | ⟨c', hg', h1, h2, h3⟩
    · simp at h0
    · obtain rfl := Option.some.inj (hg.symm.trans hg')
      obtain ⟨_, _, hdr, _⟩ := at_of h0
      obtain ⟨c2, hg2, hdr2, _⟩ := at_of h0
      obtain rfl := Option.some.inj (hg.symm.trans hg2)
      have hat := skipR_at hdr2
      rw [List.drop_zero] at hat
      rw [hat, if_neg h1, if_neg (fun e => h2 ((class8_iff c).2 e)), if_neg (by rw [h3]; simp)]
  refine ⟨hs, ?_, h0⟩
  rcases h with ⟨hc, rfl, hall⟩ | ⟨hc, rfl, hne, hpre, hall⟩ | ⟨hc, rfl, h1⟩
  · rw [tok2 hg hc, nameOf_all hall, List.take_length]
  · have hr : runOf 5 s = s.length := runOf_all hall
    rw [tok5 hg hc, hr, List.take_length, if_neg]
    rintro ⟨e1, e2, _⟩
    match s, e1 with
    | [a], _ =>
      simp at hg
      subst hg
      exact hne (by rw [show a = 46 from UInt8.toNat_inj.1 e2])
  · rw [tok6 hg hc, ← h1, List.take_length]
theorem all_single {s : List UInt8} {k : Int} (h : single s k) : allOf s = [⟨k, 0, s.length, s, 0⟩] := by
  obtain ⟨h1, h2, h3⟩ := single_tok h
  have e1 : nextOf s 0 = some ⟨k, 0, s.length, s, 0⟩ := by
    unfold nextOf
    rw [List.drop_zero, h1]
    simp only [ne_eq, not_true_eq_false, if_false, Nat.zero_add, List.drop_zero]
    rw [if_neg (by omega), h2]
  have e2 : nextOf s s.length = none := by
    unfold nextOf
    rw [skip_end (Nat.le_refl _)]
    simp
  rw [allOf_R, allR_some (Nat.zero_le _) e1, allR_none (Nat.le_refl _) e2]
theorem kbE : KB R37 (onB FAll) := by
  intro sz s hz hr
  refine ⟨_, onB_eq hz hr, (allOf s).map tokC, rfl, fun e he => ?_, fun h0 => ?_, fun k hk => ?_⟩
  · obtain ⟨t, _, rfl⟩ := List.mem_map.1 he
    exact ⟨_, _, _, _, _, rfl⟩
  · subst h0
    rfl
  · rw [all_single hk]
    rfl
end Go.Am
