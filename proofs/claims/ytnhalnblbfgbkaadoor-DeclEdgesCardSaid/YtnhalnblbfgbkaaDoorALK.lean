/-
  The tokens of texts that are put together of words, numbers, signs: what the plain lexer says of them, piece by piece.
-/
import Derived.Test.YtnhalnblbfgbkaaDoorANI
namespace Go.Am
open Go
def kt (t : Tok) : Int × List UInt8 := (t.kind, t.text)
def lexK (s : List UInt8) : List (Int × List UInt8) := (allOf s).map kt
theorem nextOf_bad {s : List UInt8} {i : Nat} (h : (skipR (s.drop i)).2 ≠ 0) : nextOf s i = some ⟨8, i + (skipR (s.drop i)).1, s.length, [], (skipR (s.drop i)).2⟩ := by
  unfold nextOf; rw [if_pos h]
theorem lexK_at : ∀ (n : Nat) (s : List UInt8) (i : Nat), i ≤ s.length → s.length - i ≤ n → (allR s i).map kt = lexK (s.drop i) := by
  intro n
  induction n with
  | zero =>
    intro s i hi hn
    have : s.drop i = [] := List.drop_eq_nil_of_le (by omega)
    have e : nextOf s i = none := by
      unfold nextOf
      rw [this]
      have : skipR ([] : List UInt8) = (0, 0) := rfl
      rw [this]
      simp
      omega
    rw [allR_none hi e, this]
    rfl
  | succ n ih =>
    intro s i hi hn
    have hb := skipR_bd (s.drop i)
    have hl : (s.drop i).length = s.length - i := List.length_drop ..
    unfold lexK
    rw [allOf_R]
    by_cases hbad : (skipR (s.drop i)).2 ≠ 0
    · have e1 := nextOf_bad hbad
      have e2 := nextOf_bad (s := s.drop i) (i := 0) (by rw [List.drop_zero]; exact hbad)
      rw [allR_some hi e1, allR_some (Nat.zero_le _) e2]
      have z : ∀ t : List UInt8, allR t t.length = [] := fun t => allR_none (Nat.le_refl _) (by unfold nextOf; rw [List.drop_eq_nil_of_le (Nat.le_refl _)]; have : skipR ([] : List UInt8) = (0, 0) := rfl; rw [this]; simp)
      simp only [z]
      rfl
    · have h0 : (skipR (s.drop i)).2 = 0 := by simpa using hbad
      by_cases hend : i + (skipR (s.drop i)).1 = s.length
      · have e1 : nextOf s i = none := by unfold nextOf; rw [if_neg hbad, if_pos hend]
        have e2 : nextOf (s.drop i) 0 = none := by unfold nextOf; rw [List.drop_zero, if_neg hbad, if_pos (by rw [hl]; omega)]
        rw [allR_none hi e1, allR_none (Nat.zero_le _) e2]
      · have e1 : nextOf s i = some ⟨(tokOf (s.drop (i + (skipR (s.drop i)).1))).kind, i + (skipR (s.drop i)).1, i + (skipR (s.drop i)).1 + (tokOf (s.drop (i + (skipR (s.drop i)).1))).size, (tokOf (s.drop (i + (skipR (s.drop i)).1))).text, (tokOf (s.drop (i + (skipR (s.drop i)).1))).code⟩ := by unfold nextOf; rw [if_neg hbad, if_neg hend]
        have e2 : nextOf (s.drop i) 0 = some ⟨(tokOf (s.drop (i + (skipR (s.drop i)).1))).kind, (skipR (s.drop i)).1, (skipR (s.drop i)).1 + (tokOf (s.drop (i + (skipR (s.drop i)).1))).size, (tokOf (s.drop (i + (skipR (s.drop i)).1))).text, (tokOf (s.drop (i + (skipR (s.drop i)).1))).code⟩ := by
          unfold nextOf
          rw [List.drop_zero, if_neg hbad, if_neg (by rw [hl]; omega), Nat.zero_add, List.drop_drop]
        have b1 := nextOf_bd hi e1
        have b2 := nextOf_bd (Nat.zero_le _) e2
        rw [allR_some hi e1, allR_some (Nat.zero_le _) e2]
        simp only [List.map_cons] at b1 b2 ⊢
        congr 1
        rw [ih s _ b1.2 (by omega), ih (s.drop i) _ b2.2 (by omega), List.drop_drop]
        congr 2
        omega
theorem lexK_R (s : List UInt8) (i : Nat) (hi : i ≤ s.length) : (allR s i).map kt = lexK (s.drop i) := lexK_at _ s i hi (Nat.le_refl _)
theorem lexK_tok {s : List UInt8} {t : Tk} (hs : skipR s = (0, 0)) (hne : s ≠ []) (ht : tokOf s = t) : lexK s = (t.kind, t.text) :: lexK (s.drop t.size) := by
  have hl : 0 < s.length := List.length_pos_iff.2 hne
  have e : nextOf s 0 = some ⟨t.kind, 0, t.size, t.text, t.code⟩ := by
    unfold nextOf
    rw [List.drop_zero, hs]
    simp only [ne_eq, not_true_eq_false, if_false, Nat.zero_add, List.drop_zero]
    rw [if_neg (by omega), ht]
  have hb := nextOf_bd (Nat.zero_le _) e
  conv => lhs; unfold lexK
  rw [allOf_R, allR_some (Nat.zero_le _) e, List.map_cons, lexK_R _ _ hb.2]
  rfl
theorem lexK_skip {s : List UInt8} {n : Nat} (hn : n ≤ s.length) (hs : skipR s = addS n (skipR (s.drop n))) : lexK s = lexK (s.drop n) := by
  have hl : (s.drop n).length = s.length - n := List.length_drop ..
  have hb := skipR_bd (s.drop n)
  generalize hx : skipR (s.drop n) = x at hs hb
  obtain ⟨x1, x2⟩ := x
  simp only [addS] at hs hb
  by_cases hbad : x2 ≠ 0
  · have e1 := nextOf_bad (s := s) (i := 0) (by rw [List.drop_zero, hs]; exact hbad)
    have e2 := nextOf_bad (s := s.drop n) (i := 0) (by rw [List.drop_zero, hx]; exact hbad)
    unfold lexK
    rw [allOf_R, allOf_R, allR_some (Nat.zero_le _) e1, allR_some (Nat.zero_le _) e2]
    have z : ∀ t : List UInt8, allR t t.length = [] := fun t => allR_none (Nat.le_refl _) (by unfold nextOf; rw [List.drop_eq_nil_of_le (Nat.le_refl _)]; have : skipR ([] : List UInt8) = (0, 0) := rfl; rw [this]; simp)
    simp only [z]
    rfl
  · have h0 : x2 = 0 := by simpa using hbad
    subst h0
    by_cases hend : n + x1 = s.length
    · have e1 : nextOf s 0 = none := by unfold nextOf; rw [List.drop_zero, hs]; simp; omega
      have e2 : nextOf (s.drop n) 0 = none := by unfold nextOf; rw [List.drop_zero, hx]; simp; omega
      unfold lexK
      rw [allOf_R, allOf_R, allR_none (Nat.zero_le _) e1, allR_none (Nat.zero_le _) e2]
    · have e1 : nextOf s 0 = some ⟨(tokOf (s.drop (n + x1))).kind, n + x1, n + x1 + (tokOf (s.drop (n + x1))).size, (tokOf (s.drop (n + x1))).text, (tokOf (s.drop (n + x1))).code⟩ := by
        unfold nextOf
        rw [List.drop_zero, hs]
        simp only [ne_eq, not_true_eq_false, if_false, Nat.zero_add]
        rw [if_neg hend]
      have e2 : nextOf (s.drop n) 0 = some ⟨(tokOf (s.drop (n + x1))).kind, x1, x1 + (tokOf (s.drop (n + x1))).size, (tokOf (s.drop (n + x1))).text, (tokOf (s.drop (n + x1))).code⟩ := by
        unfold nextOf
        rw [List.drop_zero, hx]
        simp only [ne_eq, not_true_eq_false, if_false, Nat.zero_add]
        rw [if_neg (by rw [hl]; omega), List.drop_drop]
      have b1 := nextOf_bd (Nat.zero_le _) e1
      have b2 := nextOf_bd (Nat.zero_le _) e2
      conv => lhs; unfold lexK
      conv => rhs; unfold lexK
      rw [allOf_R, allOf_R, allR_some (Nat.zero_le _) e1, allR_some (Nat.zero_le _) e2, List.map_cons, List.map_cons, lexK_R _ _ b1.2, lexK_R _ _ b2.2, List.drop_drop]
      simp only [kt]
      congr 3
      omega
theorem lexK_sp {c : UInt8} {r : List UInt8} (h : classOf c = 1) : lexK (c :: r) = lexK r := by
  have := lexK_skip (s := c :: r) (n := 1) (by simp) (by rw [skipR_cons, if_pos h]; rfl)
  simpa using this
def startB (s : List UInt8) : Bool := match s with
  | [] => false
  | c :: _ => classOf c != 1 && c.toNat != 37 && !hasPre s [47, 42]
theorem skip_start {s : List UInt8} (h : startB s = true) : skipR s = (0, 0) ∧ s ≠ [] := by
  cases s with
  | nil => cases h
  | cons c r =>
    simp only [startB, Bool.and_eq_true, bne_iff_ne, ne_eq, Bool.not_eq_true'] at h
    obtain ⟨⟨h1, h2⟩, h3⟩ := h
    refine ⟨?_, by simp⟩
    rw [skipR_cons, if_neg h1, if_neg h2, if_neg (by rw [h3]; simp)]
theorem start_class {c : UInt8} {r : List UInt8} (h1 : classOf c ≠ 1) (h5 : classOf c ≠ 5) (h8 : classOf c ≠ 8) : startB (c :: r) = true := by
  have h47 : c ≠ 47 := by rintro rfl; exact h5 (by decide)
  have hp : hasPre (c :: r) [47, 42] = false := by
    unfold hasPre
    cases r with
    | nil => rfl
    | cons d r => simp [h47]
  have h37 : c.toNat ≠ 37 := fun e => h8 ((class8_iff c).2 e)
  simp [startB, h1, h37, hp]
def stopN (r : List UInt8) : Bool := match r with
  | [] => true
  | c :: _ => decide (c.toNat < 128) && !nameC c
theorem nameOf_app : ∀ {w r : List UInt8}, (∀ b ∈ w, nameC b = true) → stopN r = true → nameOf (w ++ r) = w.length
  | [], [], _, _ => rfl
  | [], c :: r, _, hr => by
    simp only [stopN, Bool.and_eq_true, decide_eq_true_eq, Bool.not_eq_true'] at hr
    have hg : (c :: r)[0]? = some c := rfl
    have hT := take_low hg hr.1
    show nameOf (c :: r) = 0
    exact nameOf_stop hg (.inr ⟨by rw [hT], hr.2⟩)
  | b :: w, r, h, hr => by
    have hb := h b (by simp)
    have hg : (b :: (w ++ r))[0]? = some b := rfl
    have hT := take_low hg (nameC_low hb)
    show nameOf (b :: (w ++ r)) = _
    rw [nameOf_go hg (by rw [hT]) (.inr hb), hT]
    simp only [List.drop_succ_cons, List.drop_zero, List.length_cons]
    rw [nameOf_app (fun x hx => h x (by simp [hx])) hr]
    omega
theorem lexK_name {c : UInt8} {w r : List UInt8} (hc : classOf c = 2) (hw : ∀ b ∈ w, nameC b = true) (hr : stopN r = true) : lexK (c :: (w ++ r)) = (1, c :: w) :: lexK r := by
  have hn : nameOf ((c :: w) ++ r) = (c :: w).length := nameOf_app (fun b hb => by
    rcases List.mem_cons.1 hb with rfl | hb
    · simp [nameC, hc]
    · exact hw b hb) hr
  have hs := skip_start (start_class (c := c) (r := w ++ r) (by omega) (by omega) (by omega))
  have ht := tok2 (s := c :: (w ++ r)) (c := c) rfl hc
  have hn' : nameOf (c :: (w ++ r)) = (c :: w).length := hn
  rw [hn'] at ht
  rw [lexK_tok hs.1 hs.2 ht]
  have e1 : (c :: (w ++ r)).take (c :: w).length = c :: w := by rw [← List.cons_append, List.take_left]
  have e2 : (c :: (w ++ r)).drop (c :: w).length = r := by rw [← List.cons_append, List.drop_left]
  simp only [e1, e2]
theorem lexK_solo {c : UInt8} {r : List UInt8} (hc : classOf c = 6) : lexK (c :: r) = (6, [c]) :: lexK r := by
  have hs := skip_start (start_class (c := c) (r := r) (by omega) (by omega) (by omega))
  have ht := tok6 (s := c :: r) (c := c) rfl hc
  rw [lexK_tok hs.1 hs.2 ht]
  rfl
def stopR (k : Int) (r : List UInt8) : Bool := match r with
  | [] => true
  | c :: _ => decide ((classOf c : Int) ≠ k)
theorem runOf_app {k : Int} : ∀ {w r : List UInt8}, (∀ b ∈ w, (classOf b : Int) = k) → stopR k r = true → runOf k (w ++ r) = w.length
  | [], [], _, _ => rfl
  | [], c :: r, _, hr => by
    simp only [stopR, decide_eq_true_eq] at hr
    show runOf k (c :: r) = 0
    unfold runOf
    rw [if_neg hr]
  | b :: w, r, h, hr => by
    show runOf k (b :: (w ++ r)) = _
    unfold runOf
    rw [if_pos (h b (by simp)), runOf_app (fun x hx => h x (by simp [hx])) hr]
    rfl
theorem lexK_sym {c : UInt8} {w r : List UInt8} (hc : classOf c = 5) (hw : ∀ b ∈ w, classOf b = 5) (hr : stopR 5 r = true) (hst : startB (c :: (w ++ r)) = true) (hdot : ¬ (w = [] ∧ c = 46)) : lexK (c :: (w ++ r)) = (2, c :: w) :: lexK r := by
  have hn : runOf 5 ((c :: w) ++ r) = (c :: w).length := runOf_app (fun b hb => by
    rcases List.mem_cons.1 hb with rfl | hb
    · rw [hc]; rfl
    · rw [hw b hb]; rfl) hr
  have hs := skip_start hst
  have ht := tok5 (s := c :: (w ++ r)) (c := c) rfl hc
  have hn' : runOf 5 (c :: (w ++ r)) = (c :: w).length := hn
  rw [hn', if_neg (by
    rintro ⟨h1, h2, _⟩
    refine hdot ⟨?_, ?_⟩
    · cases w with | nil => rfl | cons _ _ => simp at h1
    · rw [← UInt8.toNat_inj, h2]; rfl)] at ht
  rw [lexK_tok hs.1 hs.2 ht]
  have e1 : (c :: (w ++ r)).take (c :: w).length = c :: w := by rw [← List.cons_append, List.take_left]
  have e2 : (c :: (w ++ r)).drop (c :: w).length = r := by rw [← List.cons_append, List.drop_left]
  simp only [e1, e2]
theorem lexK_num {c : UInt8} {w r : List UInt8} {v : Int} (hc : classOf c = 4) (hw : ∀ b ∈ w, classOf b = 4) (hr : stopR 4 r = true) (hv : numF 0 (c :: w) = some v) : lexK (c :: (w ++ r)) = (4, c :: w) :: lexK r := by
  have hn : runOf 4 ((c :: w) ++ r) = (c :: w).length := runOf_app (fun b hb => by
    rcases List.mem_cons.1 hb with rfl | hb
    · rw [hc]; rfl
    · rw [hw b hb]; rfl) hr
  have hs := skip_start (start_class (c := c) (r := w ++ r) (by omega) (by omega) (by omega))
  have hn' : runOf 4 (c :: (w ++ r)) = (c :: w).length := hn
  have e1 : (c :: (w ++ r)).take (c :: w).length = c :: w := by rw [← List.cons_append, List.take_left]
  have e2 : (c :: (w ++ r)).drop (c :: w).length = r := by rw [← List.cons_append, List.drop_left]
  have hnum : numOf (c :: (w ++ r)) = (v, (c :: w).length, 0) := by
    unfold numOf
    rw [hn', if_neg (by simp), e1, hv]
  have ht := tok4 (s := c :: (w ++ r)) (c := c) rfl hc (by rw [hnum])
  rw [hnum] at ht
  rw [lexK_tok hs.1 hs.2 ht]
  simp only [e1, e2]
def plainQ (w : List UInt8) : Bool := w.all fun c => decide (32 ≤ c.toNat) && decide (c.toNat < 127) && decide (c.toNat ≠ 39) && decide (c.toNat ≠ 92)
theorem quoteR_plain : ∀ {w r : List UInt8}, plainQ w = true → nxt r 0 ≠ 39 → quoteR (w ++ 39 :: r) = (w, w.length + 1, 0)
  | [], r, _, hr => by
    show quoteR (39 :: r) = _
    rw [quoteR_cons, if_neg (by decide), if_pos (by decide), if_neg hr]
    rfl
  | c :: w, r, h, hr => by
    simp only [plainQ, List.all_cons, Bool.and_eq_true, decide_eq_true_eq] at h
    obtain ⟨⟨⟨⟨h1, h2⟩, h3⟩, h4⟩, hw⟩ := h
    have hT := take_low (s := c :: (w ++ 39 :: r)) (c := c) rfl (by omega)
    show quoteR (c :: (w ++ 39 :: r)) = _
    rw [quoteR_cons, if_neg (by omega), if_neg h3, if_neg h4, if_neg (by omega), hT, if_pos rfl]
    simp only [List.drop_succ_cons, List.drop_zero, List.take_succ_cons, List.take_zero]
    rw [quoteR_plain (by simpa [plainQ] using hw) hr]
    simp [addQ]
    omega
theorem lexK_quote {w r : List UInt8} (hw : plainQ w = true) (hr : nxt r 0 ≠ 39) : lexK (39 :: (w ++ 39 :: r)) = (5, w) :: lexK r := by
  have hc : classOf 39 = 7 := by decide
  have hs := skip_start (start_class (c := 39) (r := w ++ 39 :: r) (by decide) (by decide) (by decide))
  have hq : quoteOf (39 :: (w ++ 39 :: r)) = (w, 1 + (w.length + 1), 0) := by
    simp only [quoteOf]
    rw [if_pos (by decide), quoteR_plain hw hr]
    rfl
  have ht := tok7 (s := 39 :: (w ++ 39 :: r)) (c := 39) rfl hc (by rw [hq])
  rw [hq] at ht
  rw [lexK_tok hs.1 hs.2 ht]
  have e2 : (39 :: (w ++ 39 :: r)).drop (1 + (w.length + 1)) = r := by
    rw [Nat.add_comm 1, List.drop_succ_cons]
    have : w ++ 39 :: r = (w ++ [39]) ++ r := by simp
    rw [this, show w.length + 1 = (w ++ [39]).length by simp, List.drop_left]
  simp only [e2]
end Go.Am
