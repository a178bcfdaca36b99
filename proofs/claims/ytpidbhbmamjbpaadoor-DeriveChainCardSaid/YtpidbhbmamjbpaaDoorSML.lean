/-
  THE LEXER in plain Lean: sequences, names, numbers, quoted atoms, comments, layout, tokens. No program in sight.
-/
import Derived.Test.YtpidbhbmamjbpaaDoorSME
namespace Go.Am
open Go
def longOf (c : UInt8) : Nat := if c.toNat < 128 then 1 else if c.toNat < 194 ∨ 244 < c.toNat then 0 else if c.toNat < 224 then 2 else if c.toNat < 240 then 3 else 4
def lowB (c : UInt8) : Nat := if c.toNat = 224 then 160 else if c.toNat = 240 then 144 else 128
def topB (c : UInt8) : Nat := if c.toNat = 237 then 159 else if c.toNat = 244 then 143 else 191
def secB (c d : UInt8) : Bool := decide (lowB c ≤ d.toNat) && decide (d.toNat ≤ topB c)
def contB (d : UInt8) : Bool := decide (128 ≤ d.toNat) && decide (d.toNat ≤ 191)
def tailB (c : UInt8) : List UInt8 → Bool
  | [] => true
  | d :: r => secB c d && r.all contB
def takeOk (c : UInt8) (r : List UInt8) : Bool := longOf c != 0 && decide (longOf c ≤ r.length + 1) && tailB c (r.take (longOf c - 1))
def takeOf : List UInt8 → Nat × Bool
  | [] => (0, false)
  | c :: r => if takeOk c r then (longOf c, true) else (1, false)
theorem longOf_le (c : UInt8) : longOf c ≤ 4 := by
  unfold longOf
  split
  · omega
  · split
    · omega
    · split
      · omega
      · split <;> omega
theorem longOf_low {c : UInt8} (h : c.toNat < 128) : longOf c = 1 := by unfold longOf; rw [if_pos h]
theorem longOf_high {c : UInt8} (h : 128 ≤ c.toNat) : longOf c ≠ 1 := by
  unfold longOf
  rw [if_neg (by omega)]
  split
  · omega
  · split
    · omega
    · split <;> omega
theorem tailB_iff {c : UInt8} {l : List UInt8} : tailB c l = true ↔ (∀ d, l[0]? = some d → secB c d = true) ∧ ∀ k d, 1 ≤ k → l[k]? = some d → contB d = true := by
  cases l with
  | nil => simp [tailB]
  | cons x r =>
    simp only [tailB, Bool.and_eq_true, List.all_eq_true]
    constructor
    · rintro ⟨h1, h2⟩
      refine ⟨fun d hd => ?_, fun k d hk hd => ?_⟩
      · simp at hd; subst hd; exact h1
      · cases k with
        | zero => omega
        | succ k => simp at hd; exact h2 d (List.mem_of_getElem? hd)
    · rintro ⟨h1, h2⟩
      refine ⟨h1 x rfl, fun d hd => ?_⟩
      obtain ⟨k, hk⟩ := List.getElem?_of_mem hd
      exact h2 (k + 1) d (by omega) (by simpa using hk)
theorem take_iff {s : List UInt8} {c : UInt8} (h : s[0]? = some c) : takeOf s = (longOf c, true) ∧ longOf c ≠ 0 ∧ longOf c ≤ s.length ∧ (∀ d, s[1]? = some d → 1 < longOf c → secB c d = true) ∧ (∀ k d, 2 ≤ k → k < longOf c → s[k]? = some d → contB d = true) ∨
    takeOf s = (1, false) ∧ (longOf c = 0 ∨ s.length < longOf c ∨ (∃ d, s[1]? = some d ∧ 1 < longOf c ∧ secB c d = false) ∨ ∃ k d, 2 ≤ k ∧ k < longOf c ∧ s[k]? = some d ∧ contB d = false) := by
  cases s with
  | nil => simp at h
  | cons x r =>
    simp at h
    subst h
    simp only [takeOf]
    by_cases hok : takeOk x r = true
    · rw [if_pos hok]
      refine .inl ⟨rfl, ?_⟩
      unfold takeOk at hok
      simp only [Bool.and_eq_true, bne_iff_ne, ne_eq, decide_eq_true_eq, tailB_iff] at hok
      obtain ⟨⟨h1, h2⟩, h3, h4⟩ := hok
      refine ⟨h1, by simpa using h2, fun d hd hl => h3 d ?_, fun k d hk hl hd => h4 (k - 1) d (by omega) ?_⟩
      · simp at hd
        rw [List.getElem?_take, if_pos (by omega)]
        exact hd
      · obtain ⟨k, rfl⟩ : ∃ k', k = k' + 1 := ⟨k - 1, by omega⟩
        simp at hd
        rw [List.getElem?_take, if_pos (by omega)]
        simpa using hd
    · rw [if_neg hok]
      refine .inr ⟨rfl, Classical.byContradiction fun hno => hok ?_⟩
      simp only [not_or, not_exists, not_and] at hno
      obtain ⟨n1, n2, n3, n4⟩ := hno
      unfold takeOk
      simp only [Bool.and_eq_true, bne_iff_ne, ne_eq, decide_eq_true_eq, tailB_iff]
      refine ⟨⟨n1, by simpa using n2⟩, fun d hd => ?_, fun k d hk hd => ?_⟩
      · rw [List.getElem?_take] at hd
        split at hd
        · have := n3 d (by simpa using hd) (by omega)
          simpa using this
        · cases hd
      · rw [List.getElem?_take] at hd
        split at hd
        · have := n4 (k + 1) d (by omega) (by omega) (by simpa using hd)
          simpa using this
        · cases hd
theorem take_no {s : List UInt8} {c : UInt8} (h : s[0]? = some c) (hn : longOf c = 0 ∨ s.length < longOf c ∨ (∃ d, s[1]? = some d ∧ 1 < longOf c ∧ secB c d = false) ∨ ∃ k d, 2 ≤ k ∧ k < longOf c ∧ s[k]? = some d ∧ contB d = false) : takeOf s = (1, false) := by
  rcases take_iff h with ⟨_, h1, h2, h3, h4⟩ | ⟨h1, _⟩
  · exfalso
    rcases hn with h5 | h5 | ⟨d, h5, h6, h7⟩ | ⟨k, d, h5, h6, h7, h8⟩
    · exact h1 h5
    · omega
    · rw [h3 d h5 h6] at h7; cases h7
    · rw [h4 k d h5 h6 h7] at h8; cases h8
  · exact h1
theorem take_yes {s : List UInt8} {c : UInt8} (h : s[0]? = some c) (h1 : longOf c ≠ 0) (h2 : longOf c ≤ s.length) (h3 : ∀ d, s[1]? = some d → 1 < longOf c → secB c d = true) (h4 : ∀ k d, 2 ≤ k → k < longOf c → s[k]? = some d → contB d = true) : takeOf s = (longOf c, true) := by
  rcases take_iff h with ⟨h5, _⟩ | ⟨_, hn⟩
  · exact h5
  · exfalso
    rcases hn with h5 | h5 | ⟨d, h5, h6, h7⟩ | ⟨k, d, h5, h6, h7, h8⟩
    · exact h1 h5
    · omega
    · rw [h3 d h5 h6] at h7; cases h7
    · rw [h4 k d h5 h6 h7] at h8; cases h8
theorem take_low {s : List UInt8} {c : UInt8} (h : s[0]? = some c) (hc : c.toNat < 128) : takeOf s = (1, true) := by
  have h0 : 0 < s.length := (List.getElem?_eq_some_iff.1 h).1
  have hl := longOf_low hc
  rw [take_yes h (by omega) (by omega) (fun d _ h => by omega) (fun k d _ h => by omega), hl]
theorem take_high {s : List UInt8} {c : UInt8} (h : s[0]? = some c) (hc : 128 ≤ c.toNat) (hok : (takeOf s).2 = true) : 2 ≤ (takeOf s).1 := by
  have hl := longOf_high hc
  rcases take_iff h with ⟨h1, h2, _⟩ | ⟨h1, _⟩
  · rw [h1]; show 2 ≤ longOf c; omega
  · rw [h1] at hok; cases hok
theorem take_le (s : List UInt8) : (takeOf s).1 ≤ s.length := by
  cases s with
  | nil => exact Nat.le_refl _
  | cons c r =>
    rcases take_iff (s := c :: r) (c := c) rfl with ⟨h1, _, h2, _⟩ | ⟨h1, _⟩
    · rw [h1]; exact h2
    · rw [h1]; simp
theorem take_pos {s : List UInt8} (h : s ≠ []) : 1 ≤ (takeOf s).1 := by
  cases s with
  | nil => exact (h rfl).elim
  | cons c r =>
    rcases take_iff (s := c :: r) (c := c) rfl with ⟨h1, h2, _⟩ | ⟨h1, _⟩
    · rw [h1]; show 1 ≤ longOf c; omega
    · rw [h1]; exact Nat.le_refl _
def nameF : Nat → List UInt8 → Nat
  | 0, _ => 0
  | _ + 1, [] => 0
  | f + 1, c :: r => if (takeOf (c :: r)).2 = false ∨ (takeOf (c :: r)).1 = 1 ∧ nameC c = false then 0 else (takeOf (c :: r)).1 + nameF f ((c :: r).drop (takeOf (c :: r)).1)
def nameOf (s : List UInt8) : Nat := nameF s.length s
theorem nameF_succ : ∀ {f : Nat} {s : List UInt8}, s.length ≤ f → nameF (f + 1) s = nameF f s
  | 0, s, h => by have : s = [] := List.length_eq_zero_iff.1 (by omega); subst this; rfl
  | f + 1, [], h => rfl
  | f + 1, c :: r, h => by
    have hp := take_pos (s := c :: r) (by simp)
    rw [nameF, nameF]
    split
    · rfl
    · rw [nameF_succ]
      simp at h ⊢
      omega
theorem nameF_le {f : Nat} {s : List UInt8} (h : s.length ≤ f) : nameF f s = nameOf s := by
  induction f with
  | zero => have : s = [] := List.length_eq_zero_iff.1 (by omega); subst this; rfl
  | succ f ih =>
    by_cases he : s.length = f + 1
    · unfold nameOf; rw [he]
    · rw [nameF_succ (by omega), ih (by omega)]
theorem nameOf_stop {s : List UInt8} {c : UInt8} (h : s[0]? = some c) (hn : (takeOf s).2 = false ∨ (takeOf s).1 = 1 ∧ nameC c = false) : nameOf s = 0 := by
  cases s with
  | nil => rfl
  | cons x r =>
    simp at h
    subst h
    unfold nameOf
    simp only [List.length_cons]
    rw [nameF, if_pos hn]
theorem nameOf_go {s : List UInt8} {c : UInt8} (h : s[0]? = some c) (hok : (takeOf s).2 = true) (hn : (takeOf s).1 ≠ 1 ∨ nameC c = true) : nameOf s = (takeOf s).1 + nameOf (s.drop (takeOf s).1) := by
  cases s with
  | nil => simp at h
  | cons x r =>
    simp at h
    subst h
    have hp := take_pos (s := x :: r) (by simp)
    unfold nameOf
    simp only [List.length_cons]
    rw [nameF, if_neg (by rw [hok]; rintro (h | ⟨h1, h2⟩); cases h; rcases hn with h3 | h3; exact h3 h1; rw [h3] at h2; cases h2), nameF_le]
    · rfl
    · simp
      omega
theorem nameOf_le : ∀ (s : List UInt8), nameOf s ≤ s.length := by
  suffices h : ∀ (f : Nat) (s : List UInt8), nameF f s ≤ s.length from fun s => h _ s
  intro f
  induction f with
  | zero => intro s; simp [nameF]
  | succ f ih =>
    intro s
    cases s with
    | nil => simp [nameF]
    | cons c r =>
      rw [nameF]
      split
      · omega
      · have h1 := ih ((c :: r).drop (takeOf (c :: r)).1)
        have h2 := take_le (c :: r)
        rw [List.length_drop] at h1
        omega
def numF (v : Int) : List UInt8 → Option Int
  | [] => some v
  | b :: r => if 2147483647 < v * 10 + ((b.toNat : Int) - 48) then none else numF (v * 10 + ((b.toNat : Int) - 48)) r
def numOf (s : List UInt8) : Int × Nat × Int := if runOf 4 s = 0 then (0, 0, 2) else match numF 0 (s.take (runOf 4 s)) with | some v => (v, runOf 4 s, 0) | none => (0, runOf 4 s, 4)
theorem digit_byte : ∀ c : UInt8, (classOf c : Int) = 4 → 48 ≤ c.toNat ∧ c.toNat ≤ 57 := by
  have h : ∀ n : Nat, n < 256 → classOf (UInt8.ofNat n) = 4 → 48 ≤ n ∧ n ≤ 57 := by decide +kernel
  intro c hc
  have := h c.toNat (UInt8.toNat_lt c) (by rw [UInt8.ofNat_toNat]; omega)
  exact this
theorem runOf_get {k : Int} : ∀ {s : List UInt8} {i : Nat} {c : UInt8}, i < runOf k s → s[i]? = some c → (classOf c : Int) = k
  | [], i, c, h, hc => by simp at hc
  | b :: r, i, c, h, hc => by
    simp only [runOf] at h
    split at h
    · rename_i hb
      cases i with
      | zero => simp at hc; subst hc; exact hb
      | succ i => exact runOf_get (s := r) (i := i) (by omega) (by simpa using hc)
    · omega
def nxt (s : List UInt8) (i : Nat) : Nat := match s[i]? with | some d => d.toNat | none => 0
def addQ (t : List UInt8) (n : Nat) (x : List UInt8 × Nat × Int) : List UInt8 × Nat × Int := (t ++ x.1, n + x.2.1, x.2.2)
def quoteF : Nat → List UInt8 → List UInt8 × Nat × Int
  | 0, _ => ([], 0, 12)
  | _ + 1, [] => ([], 0, 12)
  | f + 1, c :: r =>
    if c.toNat = 10 then ([], 0, 12)
    else if c.toNat = 39 then (if nxt r 0 = 39 then addQ [39] 2 (quoteF f (r.drop 1)) else ([], 1, 0))
    else if c.toNat = 92 then (if nxt r 0 = 110 then addQ [10] 2 (quoteF f (r.drop 1)) else if nxt r 0 = 92 ∨ nxt r 0 = 39 then addQ [UInt8.ofNat (nxt r 0)] 2 (quoteF f (r.drop 1)) else ([], 0, 13))
    else if c.toNat < 32 ∨ c.toNat = 127 then ([], 0, 11)
    else if (takeOf (c :: r)).2 = true then addQ ((c :: r).take (takeOf (c :: r)).1) (takeOf (c :: r)).1 (quoteF f ((c :: r).drop (takeOf (c :: r)).1))
    else ([], 0, 10)
def quoteR (s : List UInt8) : List UInt8 × Nat × Int := quoteF s.length s
theorem quoteF_succ : ∀ {f : Nat} {s : List UInt8}, s.length ≤ f → quoteF (f + 1) s = quoteF f s
  | 0, s, h => by have : s = [] := List.length_eq_zero_iff.1 (by omega); subst this; rfl
  | f + 1, [], h => rfl
  | f + 1, c :: r, h => by
    have hp := take_pos (s := c :: r) (by simp)
    have h1 : quoteF (f + 1) (r.drop 1) = quoteF f (r.drop 1) := quoteF_succ (by simp at h ⊢; omega)
    have h2 : quoteF (f + 1) ((c :: r).drop (takeOf (c :: r)).1) = quoteF f ((c :: r).drop (takeOf (c :: r)).1) := quoteF_succ (by simp at h ⊢; omega)
    rw [quoteF, quoteF, h1, h2]
theorem quoteF_le {f : Nat} {s : List UInt8} (h : s.length ≤ f) : quoteF f s = quoteR s := by
  induction f with
  | zero => have : s = [] := List.length_eq_zero_iff.1 (by omega); subst this; rfl
  | succ f ih =>
    by_cases he : s.length = f + 1
    · unfold quoteR; rw [he]
    · rw [quoteF_succ (by omega), ih (by omega)]
theorem quoteR_cons (c : UInt8) (r : List UInt8) : quoteR (c :: r) = if c.toNat = 10 then ([], 0, 12)
    else if c.toNat = 39 then (if nxt r 0 = 39 then addQ [39] 2 (quoteR (r.drop 1)) else ([], 1, 0))
    else if c.toNat = 92 then (if nxt r 0 = 110 then addQ [10] 2 (quoteR (r.drop 1)) else if nxt r 0 = 92 ∨ nxt r 0 = 39 then addQ [UInt8.ofNat (nxt r 0)] 2 (quoteR (r.drop 1)) else ([], 0, 13))
    else if c.toNat < 32 ∨ c.toNat = 127 then ([], 0, 11)
    else if (takeOf (c :: r)).2 = true then addQ ((c :: r).take (takeOf (c :: r)).1) (takeOf (c :: r)).1 (quoteR ((c :: r).drop (takeOf (c :: r)).1))
    else ([], 0, 10) := by
  have hp := take_pos (s := c :: r) (by simp)
  have h1 : quoteF r.length (r.drop 1) = quoteR (r.drop 1) := quoteF_le (by simp)
  have h2 : quoteF r.length ((c :: r).drop (takeOf (c :: r)).1) = quoteR ((c :: r).drop (takeOf (c :: r)).1) := quoteF_le (by simp; omega)
  rw [← h1, ← h2]
  rfl
def quoteOf : List UInt8 → List UInt8 × Nat × Int
  | [] => ([], 0, 2)
  | c :: r => if c.toNat = 39 then (if (quoteR r).2.2 = 0 then (quoteR r).1 else [], 1 + (quoteR r).2.1, (quoteR r).2.2) else ([], 0, 2)
def comF : Nat → Int → List UInt8 → Option Nat
  | 0, _, _ => none
  | _ + 1, _, [] => none
  | f + 1, d, c :: r =>
    if hasPre (c :: r) [47, 42] = true then (comF f (d + 1) (r.drop 1)).map (2 + ·)
    else if hasPre (c :: r) [42, 47] = true then (if d - 1 = 0 then some 2 else (comF f (d - 1) (r.drop 1)).map (2 + ·))
    else (comF f d r).map (1 + ·)
def comR (d : Int) (s : List UInt8) : Option Nat := comF s.length d s
theorem comF_succ : ∀ {f : Nat} {d : Int} {s : List UInt8}, s.length ≤ f → comF (f + 1) d s = comF f d s
  | 0, d, s, h => by have : s = [] := List.length_eq_zero_iff.1 (by omega); subst this; rfl
  | f + 1, d, [], h => rfl
  | f + 1, d, c :: r, h => by
    have h1 : ∀ d, comF (f + 1) d (r.drop 1) = comF f d (r.drop 1) := fun d => comF_succ (by simp at h ⊢; omega)
    have h2 : comF (f + 1) d r = comF f d r := comF_succ (by simpa using h)
    rw [comF, comF, h1, h1, h2]
theorem comF_le {f : Nat} {d : Int} {s : List UInt8} (h : s.length ≤ f) : comF f d s = comR d s := by
  induction f with
  | zero => have : s = [] := List.length_eq_zero_iff.1 (by omega); subst this; rfl
  | succ f ih =>
    by_cases he : s.length = f + 1
    · unfold comR; rw [he]
    · rw [comF_succ (by omega), ih (by omega)]
theorem comR_cons (d : Int) (c : UInt8) (r : List UInt8) : comR d (c :: r) = if hasPre (c :: r) [47, 42] = true then (comR (d + 1) (r.drop 1)).map (2 + ·)
    else if hasPre (c :: r) [42, 47] = true then (if d - 1 = 0 then some 2 else (comR (d - 1) (r.drop 1)).map (2 + ·))
    else (comR d r).map (1 + ·) := by
  have h1 : ∀ d, comF r.length d (r.drop 1) = comR d (r.drop 1) := fun d => comF_le (by simp)
  rw [← h1, ← h1]
  rfl
theorem comF_bd : ∀ {f : Nat} {d : Int} {s : List UInt8} {k : Nat}, comF f d s = some k → 1 ≤ k ∧ k ≤ s.length
  | 0, d, s, k, h => by cases h
  | f + 1, d, [], k, h => by cases h
  | f + 1, d, c :: r, k, h => by
    rw [comF] at h
    split at h
    · rename_i hp
      have := hasPre_le hp
      simp at this
      cases h1 : comF f (d + 1) (r.drop 1) with
      | none => rw [h1] at h; cases h
      | some j =>
        rw [h1] at h
        cases h
        have := comF_bd h1
        simp at this ⊢
        omega
    · split at h
      · rename_i hp
        have := hasPre_le hp
        simp at this
        split at h
        · cases h; simp; omega
        · cases h1 : comF f (d - 1) (r.drop 1) with
          | none => rw [h1] at h; cases h
          | some j =>
            rw [h1] at h
            cases h
            have := comF_bd h1
            simp at this ⊢
            omega
      · cases h1 : comF f d r with
        | none => rw [h1] at h; cases h
        | some j =>
          rw [h1] at h
          cases h
          have := comF_bd h1
          simp
          omega
theorem comR_bd {d : Int} {s : List UInt8} {k : Nat} (h : comR d s = some k) : 1 ≤ k ∧ k ≤ s.length := comF_bd h
def lnOf : List UInt8 → Nat
  | [] => 0
  | b :: r => if b.toNat = 10 then 0 else 1 + lnOf r
theorem lnOf_le : ∀ s, lnOf s ≤ s.length
  | [] => Nat.le_refl _
  | b :: r => by
    have := lnOf_le r
    simp only [lnOf, List.length_cons]
    split <;> omega
def addS (n : Nat) (x : Nat × Int) : Nat × Int := (n + x.1, x.2)
def skipF : Nat → List UInt8 → Nat × Int
  | 0, _ => (0, 0)
  | _ + 1, [] => (0, 0)
  | f + 1, c :: r =>
    if classOf c = 1 then addS 1 (skipF f r)
    else if c.toNat = 37 then addS (1 + lnOf r) (skipF f (r.drop (lnOf r)))
    else if hasPre (c :: r) [47, 42] = true then (match comR 0 (c :: r) with | none => (0, 14) | some k => addS k (skipF f ((c :: r).drop k)))
    else (0, 0)
def skipR (s : List UInt8) : Nat × Int := skipF s.length s
theorem skipF_succ : ∀ {f : Nat} {s : List UInt8}, s.length ≤ f → skipF (f + 1) s = skipF f s
  | 0, s, h => by have : s = [] := List.length_eq_zero_iff.1 (by omega); subst this; rfl
  | f + 1, [], h => rfl
  | f + 1, c :: r, h => by
    have h1 : skipF (f + 1) r = skipF f r := skipF_succ (by simpa using h)
    have h2 : skipF (f + 1) (r.drop (lnOf r)) = skipF f (r.drop (lnOf r)) := skipF_succ (by simp at h ⊢; omega)
    rw [skipF, skipF, h1, h2]
    split
    · rfl
    · split
      · rfl
      · split
        · split
          · rfl
          · rename_i k hk
            have := comR_bd hk
            rw [skipF_succ (by simp at h this ⊢; omega)]
        · rfl
theorem skipF_le {f : Nat} {s : List UInt8} (h : s.length ≤ f) : skipF f s = skipR s := by
  induction f with
  | zero => have : s = [] := List.length_eq_zero_iff.1 (by omega); subst this; rfl
  | succ f ih =>
    by_cases he : s.length = f + 1
    · unfold skipR; rw [he]
    · rw [skipF_succ (by omega), ih (by omega)]
theorem skipR_cons (c : UInt8) (r : List UInt8) : skipR (c :: r) = if classOf c = 1 then addS 1 (skipR r)
    else if c.toNat = 37 then addS (1 + lnOf r) (skipR (r.drop (lnOf r)))
    else if hasPre (c :: r) [47, 42] = true then (match comR 0 (c :: r) with | none => (0, 14) | some k => addS k (skipR ((c :: r).drop k)))
    else (0, 0) := by
  have h2 : skipF r.length (r.drop (lnOf r)) = skipR (r.drop (lnOf r)) := skipF_le (by simp)
  rw [← h2]
  show skipF (r.length + 1) (c :: r) = _
  rw [skipF]
  split
  · rfl
  · split
    · rfl
    · split
      · split
        · rfl
        · rename_i k hk
          have := comR_bd hk
          rw [skipF_le (by simp at this ⊢; omega)]
      · rfl
theorem skipF_bd : ∀ {f : Nat} {s : List UInt8}, (skipF f s).1 ≤ s.length ∧ ((skipF f s).2 ≠ 0 → (skipF f s).1 < s.length)
  | 0, s => ⟨Nat.zero_le _, fun h => (h rfl).elim⟩
  | f + 1, [] => ⟨Nat.le_refl _, fun h => (h rfl).elim⟩
  | f + 1, c :: r => by
    rw [skipF]
    split
    · have := skipF_bd (f := f) (s := r)
      simp only [addS, List.length_cons]
      exact ⟨by omega, fun h => by have := this.2 h; omega⟩
    · split
      · have := skipF_bd (f := f) (s := r.drop (lnOf r))
        have h2 := lnOf_le r
        rw [List.length_drop] at this
        simp only [addS, List.length_cons]
        exact ⟨by omega, fun h => by have := this.2 h; omega⟩
      · split
        · split
          · exact ⟨Nat.zero_le _, fun _ => by simp⟩
          · rename_i k hk
            have h2 := comR_bd hk
            have := skipF_bd (f := f) (s := (c :: r).drop k)
            rw [List.length_drop] at this
            simp only [addS]
            exact ⟨by omega, fun h => by have := this.2 h; omega⟩
        · exact ⟨Nat.zero_le _, fun h => (h rfl).elim⟩
theorem skipR_bd (s : List UInt8) : (skipR s).1 ≤ s.length ∧ ((skipR s).2 ≠ 0 → (skipR s).1 < s.length) := skipF_bd
theorem skipR_run : ∀ s, skipR s = addS (runOf 1 s) (skipR (s.drop (runOf 1 s)))
  | [] => rfl
  | c :: r => by
    simp only [runOf]
    split
    · rename_i h
      rw [skipR_cons, if_pos (by omega), skipR_run r]
      simp only [addS, List.drop_succ_cons]
      congr 1
      omega
    · simp [addS]
structure Tk where
  kind : Int
  size : Nat
  text : List UInt8
  code : Int
def endsB : List UInt8 → Bool
  | _ :: d :: _ => classOf d == 1 || classOf d == 8
  | _ => true
def tokOf : List UInt8 → Tk
  | [] => ⟨8, 1, [], 11⟩
  | c :: r =>
    if classOf c = 2 then ⟨1, nameOf (c :: r), (c :: r).take (nameOf (c :: r)), 0⟩
    else if classOf c = 3 then ⟨3, nameOf (c :: r), (c :: r).take (nameOf (c :: r)), 0⟩
    else if classOf c = 9 then (if (takeOf (c :: r)).2 = true then ⟨1, nameOf (c :: r), (c :: r).take (nameOf (c :: r)), 0⟩ else ⟨8, 1, [], 10⟩)
    else if classOf c = 5 then ⟨if runOf 5 (c :: r) = 1 ∧ c.toNat = 46 ∧ endsB (c :: r) = true then 7 else 2, runOf 5 (c :: r), (c :: r).take (runOf 5 (c :: r)), 0⟩
    else if classOf c = 4 then (if (numOf (c :: r)).2.2 = 0 then ⟨4, (numOf (c :: r)).2.1, (c :: r).take (numOf (c :: r)).2.1, 0⟩ else ⟨8, (numOf (c :: r)).2.1, [], (numOf (c :: r)).2.2⟩)
    else if classOf c = 7 then (if (quoteOf (c :: r)).2.2 = 0 then ⟨5, (quoteOf (c :: r)).2.1, (quoteOf (c :: r)).1, 0⟩ else ⟨8, (quoteOf (c :: r)).2.1, [], (quoteOf (c :: r)).2.2⟩)
    else if classOf c = 6 then ⟨6, 1, (c :: r).take 1, 0⟩
    else ⟨8, 1, [], 11⟩
structure Tok where
  kind : Int
  a : Nat
  b : Nat
  text : List UInt8
  code : Int
def nextOf (s : List UInt8) (i : Nat) : Option Tok :=
  if (skipR (s.drop i)).2 ≠ 0 then some ⟨8, i + (skipR (s.drop i)).1, s.length, [], (skipR (s.drop i)).2⟩
  else if i + (skipR (s.drop i)).1 = s.length then none
  else some ⟨(tokOf (s.drop (i + (skipR (s.drop i)).1))).kind, i + (skipR (s.drop i)).1, i + (skipR (s.drop i)).1 + (tokOf (s.drop (i + (skipR (s.drop i)).1))).size, (tokOf (s.drop (i + (skipR (s.drop i)).1))).text, (tokOf (s.drop (i + (skipR (s.drop i)).1))).code⟩
def allF : Nat → List UInt8 → Nat → List Tok
  | 0, _, _ => []
  | f + 1, s, i => match nextOf s i with | none => [] | some t => t :: allF f s t.b
def allOf (s : List UInt8) : List Tok := allF (s.length + 1) s 0
def onB (F : List UInt8 → DV) : List DV → Option DV
  | [d] => match bytesV d with | some s => if s.length ≤ room then some (F s) else none | none => none
  | _ => none
theorem onB_eq {F : List UInt8 → DV} {sz : Nat} {s : List UInt8} (hz : sz = 1 ∨ s = []) (hr : s.length ≤ room) : onB F [.c (.list sz (encB s))] = some (F s) := by
  simp [onB, bytesV, bytesOf_back, hz, hr]
theorem onB_ok {P : Program} {H : Hint} {cl : Call} {f : FuncId} {n : Nat} {ac : ACode} {rs : List ARes} {F : List UInt8 → DV} (fok : FnOk P H f n ac rs) (ok : CallOk P H.glob cl)
    (hw : ∀ (sz : Nat) (s : List UInt8), (sz = 1 ∨ s = []) → s.length ≤ room → awp cl ac (PureQ rs (F s)) ⟨argE 0 (dvArgs [.c (.list sz (encB s))]), ⟨0, []⟩⟩) : PureOk P H.glob f (onB F) := by
  refine pure_ok fok ok (fun ds r h => ?_)
  unfold onB at h
  split at h
  · split at h
    · rename_i s hs
      obtain ⟨sz, rfl, hz⟩ := bytesV_eq hs
      split at h
      · cases h; exact hw sz s hz (by assumption)
      · cases h
    · cases h
  · cases h
def onBp (p : List UInt8 → Bool) (F : List UInt8 → DV) : List DV → Option DV
  | [d] => match bytesV d with | some s => if s.length ≤ room ∧ p s = true then some (F s) else none | none => none
  | _ => none
theorem onBp_eq {p : List UInt8 → Bool} {F : List UInt8 → DV} {sz : Nat} {s : List UInt8} (hz : sz = 1 ∨ s = []) (hr : s.length ≤ room) (hp : p s = true) : onBp p F [.c (.list sz (encB s))] = some (F s) := by
  simp [onBp, bytesV, bytesOf_back, hz, hr, hp]
theorem onBp_ok {P : Program} {H : Hint} {cl : Call} {f : FuncId} {n : Nat} {ac : ACode} {rs : List ARes} {p : List UInt8 → Bool} {F : List UInt8 → DV} (fok : FnOk P H f n ac rs) (ok : CallOk P H.glob cl)
    (hw : ∀ (sz : Nat) (s : List UInt8), (sz = 1 ∨ s = []) → s.length ≤ room → p s = true → awp cl ac (PureQ rs (F s)) ⟨argE 0 (dvArgs [.c (.list sz (encB s))]), ⟨0, []⟩⟩) : PureOk P H.glob f (onBp p F) := by
  refine pure_ok fok ok (fun ds r h => ?_)
  unfold onBp at h
  split at h
  · split at h
    · rename_i s hs
      obtain ⟨sz, rfl, hz⟩ := bytesV_eq hs
      split at h
      · rename_i hh
        cases h; exact hw sz s hz hh.1 hh.2
      · cases h
    · cases h
  · cases h
def onBI (p : List UInt8 → Nat → Bool) (F : List UInt8 → Nat → DV) : List DV → Option DV
  | [d, .c (.int .i64 i)] => match bytesV d with | some s => if s.length ≤ room ∧ 0 ≤ i ∧ p s i.toNat = true then some (F s i.toNat) else none | none => none
  | _ => none
theorem onBI_eq {p : List UInt8 → Nat → Bool} {F : List UInt8 → Nat → DV} {sz : Nat} {s : List UInt8} {i : Nat} (hz : sz = 1 ∨ s = []) (hr : s.length ≤ room) (hp : p s i = true) : onBI p F [.c (.list sz (encB s)), .c (.int .i64 (i : Nat))] = some (F s i) := by
  simp [onBI, bytesV, bytesOf_back, hz, hr, hp]
theorem onBI_ok {P : Program} {H : Hint} {cl : Call} {f : FuncId} {n : Nat} {ac : ACode} {rs : List ARes} {p : List UInt8 → Nat → Bool} {F : List UInt8 → Nat → DV} (fok : FnOk P H f n ac rs) (ok : CallOk P H.glob cl)
    (hw : ∀ (sz : Nat) (s : List UInt8) (i : Nat), (sz = 1 ∨ s = []) → s.length ≤ room → p s i = true → awp cl ac (PureQ rs (F s i)) ⟨argE 0 (dvArgs [.c (.list sz (encB s)), .c (.int .i64 (i : Nat))]), ⟨0, []⟩⟩) : PureOk P H.glob f (onBI p F) := by
  refine pure_ok fok ok (fun ds r h => ?_)
  unfold onBI at h
  split at h
  · rename_i d i
    split at h
    · rename_i s hs
      obtain ⟨sz, rfl, hz⟩ := bytesV_eq hs
      split at h
      · rename_i hh
        obtain ⟨k, rfl⟩ : ∃ k : Nat, i = (k : Int) := ⟨i.toNat, by omega⟩
        cases h; exact hw sz s k hz hh.1 hh.2.2
      · cases h
    · cases h
  · cases h
def FTake (s : List UInt8) : DV := .tup [.c (.int .i64 (takeOf s).1), .c (.bool (takeOf s).2)]
def FName (s : List UInt8) : DV := .c (.int .i64 (nameOf s))
def FNum (s : List UInt8) : DV := .tup [.c (.int .i64 (numOf s).1), .c (.int .i64 (numOf s).2.1), .c (.int .i64 (numOf s).2.2)]
def FQuote (z : Nat) (s : List UInt8) : DV := .tup [.c (.list (if (quoteOf s).2.2 = 0 then 1 else z) (encB (quoteOf s).1)), .c (.int .i64 (quoteOf s).2.1), .c (.int .i64 (quoteOf s).2.2)]
def FSkip (s : List UInt8) : DV := .tup [.c (.int .i64 (skipR s).1), .c (.int .i64 (skipR s).2)]
section
variable {cl : Call} {d : Nat} {r : List AOper} {K : St → Prop} {env : Env} {nx : Nat} {ob : List (Nat × Ob)} {x y : Opd} {a b : Int}
theorem wrapB {n : Int} (h0 : 0 ≤ n) (h1 : n < 256) : IntKind.wrap .u8 n = n := by
  unfold IntKind.wrap
  have hs : IntKind.signed .u8 = false := rfl
  have hb : IntKind.bits .u8 = 8 := rfl
  simp only [hs, hb, Bool.false_and, Bool.false_eq_true, if_false]
  omega
theorem step_sub8 (hx : ev env x = .c (.d (.int .u8 a))) (hy : ev env y = .c (.d (.int .u8 b))) (h0 : 0 ≤ a - b) (h1 : a - b < 256) (hk : opsWp cl r K ⟨(d, .c (.d (.int .u8 (a - b)))) :: env, ⟨nx, ob⟩⟩) :
    opsWp cl (⟨some d, .bin .sub x y, none⟩ :: r) K ⟨env, ⟨nx, ob⟩⟩ := by
  refine ZB (v := .c (.d (.int .u8 (a - b)))) ?_ hk
  simp only [eval, hx, hy, binV, binD, isShift, binInt, wrapB h0 h1]
  rfl
theorem step_muli (hx : ev env x = .c (.d (.int .i64 a))) (hy : ev env y = .c (.d (.int .i64 b))) (h0 : -9223372036854775808 ≤ a * b) (h1 : a * b ≤ 9223372036854775807) (hk : opsWp cl r K ⟨(d, .c (.d (.int .i64 (a * b)))) :: env, ⟨nx, ob⟩⟩) :
    opsWp cl (⟨some d, .bin .mul x y, none⟩ :: r) K ⟨env, ⟨nx, ob⟩⟩ := by
  refine ZB (v := .c (.d (.int .i64 (a * b)))) ?_ hk
  simp only [eval, hx, hy, binV, binD, isShift, binInt, wrap64 h0 h1]
  rfl
theorem step_toI (hx : ev env x = .c (.d (.int .u8 a))) (h0 : 0 ≤ a) (h1 : a < 256) (hk : opsWp cl r K ⟨(d, .c (.d (.int .i64 a))) :: env, ⟨nx, ob⟩⟩) :
    opsWp cl (⟨some d, .toInt .i64 x, none⟩ :: r) K ⟨env, ⟨nx, ob⟩⟩ := by
  refine ZB (v := .c (.d (.int .i64 a))) ?_ hk
  have e : IntKind.wrap .i64 a = a := wrap64 (by omega) (by omega)
  simp only [eval, hx, e]
theorem step_byteN {k : IntKind} {s : List UInt8} {sz i : Nat} {c : UInt8} (hx : ev env x = .c (.d (.list sz (encB s)))) (hy : ev env y = .c (.d (.int k (i : Int)))) (hg : s[i]? = some c) (hk : opsWp cl r K ⟨(d, .c (.lptr [.int .u8 c.toNat] 0)) :: env, ⟨nx, ob⟩⟩) :
    opsWp cl (⟨some d, .idxAddr 1 x y, none⟩ :: r) K ⟨env, ⟨nx, ob⟩⟩ := ZB (ev_idx hx hy (by omega) (encB_at (by simpa using hg)) rfl) hk
end
theorem at_of {s : List UInt8} {i : Nat} (h : i < s.length) : ∃ c, s[i]? = some c ∧ s.drop i = c :: s.drop (i + 1) ∧ (s.drop i)[0]? = some c :=
  ⟨s[i], List.getElem?_eq_getElem h, List.drop_eq_getElem_cons h, by rw [List.drop_eq_getElem_cons h]; rfl⟩
theorem take_call {sz : Nat} {s : List UInt8} {n : Nat} {ok : Bool} (hz : sz = 1 ∨ s = []) (hr : s.length ≤ room) (h : takeOf s = (n, ok)) : onB FTake [.c (.list sz (encB s))] = some (.tup [.c (.int .i64 (n : Nat)), .c (.bool ok)]) := by
  rw [onB_eq hz hr, FTake, h]
theorem nxt_drop (s : List UInt8) (i : Nat) : nxt (s.drop i) 0 = nxt s i := by
  unfold nxt
  rw [List.getElem?_drop]
  rfl
theorem nxt_some {s : List UInt8} {i : Nat} {c : UInt8} (h : s[i]? = some c) : nxt s i = c.toNat := by unfold nxt; rw [h]
theorem nxt_none {s : List UInt8} {i : Nat} (h : s.length ≤ i) : nxt s i = 0 := by unfold nxt; rw [List.getElem?_eq_none h]
theorem nxt_in {s : List UInt8} {i : Nat} (h : nxt s i ≠ 0) : i < s.length := by
  refine Decidable.byContradiction fun hlt => h (nxt_none (by omega))
section
variable {s : List UInt8} {i : Nat} {c : UInt8}
theorem quoteR_at (hdr : s.drop i = c :: s.drop (i + 1)) : quoteR (s.drop i) = if c.toNat = 10 then ([], 0, 12)
    else if c.toNat = 39 then (if nxt s (i + 1) = 39 then addQ [39] 2 (quoteR (s.drop (i + 2))) else ([], 1, 0))
    else if c.toNat = 92 then (if nxt s (i + 1) = 110 then addQ [10] 2 (quoteR (s.drop (i + 2))) else if nxt s (i + 1) = 92 ∨ nxt s (i + 1) = 39 then addQ [UInt8.ofNat (nxt s (i + 1))] 2 (quoteR (s.drop (i + 2))) else ([], 0, 13))
    else if c.toNat < 32 ∨ c.toNat = 127 then ([], 0, 11)
    else if (takeOf (s.drop i)).2 = true then addQ ((s.drop i).take (takeOf (s.drop i)).1) (takeOf (s.drop i)).1 (quoteR (s.drop (i + (takeOf (s.drop i)).1)))
    else ([], 0, 10) := by
  have h : (s.drop (i + 1)).drop 1 = s.drop (i + 2) := by rw [List.drop_drop]
  have h2 : (s.drop i).drop (takeOf (s.drop i)).1 = s.drop (i + (takeOf (s.drop i)).1) := by rw [List.drop_drop]
  rw [← h2]
  rw [hdr, quoteR_cons, nxt_drop, h]
theorem q10 (hdr : s.drop i = c :: s.drop (i + 1)) (h : c.toNat = 10) : quoteR (s.drop i) = ([], 0, 12) := by rw [quoteR_at hdr, if_pos h]
theorem qend (h : s.length ≤ i) : quoteR (s.drop i) = ([], 0, 12) := by rw [List.drop_eq_nil_of_le h]; rfl
theorem q39e (hdr : s.drop i = c :: s.drop (i + 1)) (h : c.toNat = 39) (hn : nxt s (i + 1) ≠ 39) : quoteR (s.drop i) = ([], 1, 0) := by rw [quoteR_at hdr, if_neg (by omega), if_pos h, if_neg hn]
theorem q39 (hdr : s.drop i = c :: s.drop (i + 1)) (h : c.toNat = 39) (hn : nxt s (i + 1) = 39) {d : UInt8} (hd : d.toNat = 39) : quoteR (s.drop i) = addQ [d] 2 (quoteR (s.drop (i + 2))) := by
  have : d = 39 := UInt8.toNat_inj.1 hd
  rw [quoteR_at hdr, if_neg (by omega), if_pos h, if_pos hn, this]
theorem q92n (hdr : s.drop i = c :: s.drop (i + 1)) (h : c.toNat = 92) (hn : nxt s (i + 1) = 110) {d : UInt8} (hd : d.toNat = 10) : quoteR (s.drop i) = addQ [d] 2 (quoteR (s.drop (i + 2))) := by
  have : d = 10 := UInt8.toNat_inj.1 hd
  rw [quoteR_at hdr, if_neg (by omega), if_neg (by omega), if_pos h, if_pos hn, this]
theorem q92 (hdr : s.drop i = c :: s.drop (i + 1)) (h : c.toNat = 92) (hn : nxt s (i + 1) = 92 ∨ nxt s (i + 1) = 39) {d : UInt8} (hd : d.toNat = nxt s (i + 1)) : quoteR (s.drop i) = addQ [d] 2 (quoteR (s.drop (i + 2))) := by
  have : d = UInt8.ofNat (nxt s (i + 1)) := by rw [← hd, UInt8.ofNat_toNat]
  rw [quoteR_at hdr, if_neg (by omega), if_neg (by omega), if_pos h, if_neg (by omega), if_pos hn, this]
theorem q92e (hdr : s.drop i = c :: s.drop (i + 1)) (h : c.toNat = 92) (h1 : nxt s (i + 1) ≠ 110) (h2 : nxt s (i + 1) ≠ 92) (h3 : nxt s (i + 1) ≠ 39) : quoteR (s.drop i) = ([], 0, 13) := by
  rw [quoteR_at hdr, if_neg (by omega), if_neg (by omega), if_pos h, if_neg h1, if_neg (by omega)]
theorem qlow (hdr : s.drop i = c :: s.drop (i + 1)) (h1 : c.toNat ≠ 10) (h : c.toNat < 32 ∨ c.toNat = 127) : quoteR (s.drop i) = ([], 0, 11) := by
  rw [quoteR_at hdr, if_neg h1, if_neg (by omega), if_neg (by omega), if_pos h]
theorem qtake (hdr : s.drop i = c :: s.drop (i + 1)) (h1 : 32 ≤ c.toNat) (h2 : c.toNat ≠ 39) (h3 : c.toNat ≠ 92) (h4 : c.toNat ≠ 127) {k : Nat} (hT : takeOf (s.drop i) = (k, true)) : quoteR (s.drop i) = addQ ((s.drop i).take k) k (quoteR (s.drop (i + k))) := by
  rw [quoteR_at hdr, if_neg (by omega), if_neg h2, if_neg h3, if_neg (by omega), if_pos (by rw [hT]), hT]
theorem qbad (hdr : s.drop i = c :: s.drop (i + 1)) (h1 : 32 ≤ c.toNat) (h2 : c.toNat ≠ 39) (h3 : c.toNat ≠ 92) (h4 : c.toNat ≠ 127) {k : Nat} (hT : takeOf (s.drop i) = (k, false)) : quoteR (s.drop i) = ([], 0, 10) := by
  rw [quoteR_at hdr, if_neg (by omega), if_neg h2, if_neg h3, if_neg (by omega), if_neg (by rw [hT]; simp)]
end
theorem addQ_addQ (t t' : List UInt8) (n n' : Nat) (x : List UInt8 × Nat × Int) : addQ t n (addQ t' n' x) = addQ (t ++ t') (n + n') x := by
  simp [addQ, List.append_assoc, Nat.add_assoc]
theorem q_step {s text t u : List UInt8} {i n : Nat} {R : List UInt8 × Nat × Int} (hq : quoteR (s.drop 1) = addQ text (i - 1) (quoteR (s.drop i))) (hi : 1 ≤ i) (hR : quoteR (s.drop i) = addQ t n R) (hu : u = text ++ t) : quoteR (s.drop 1) = addQ u (i + n - 1) R := by
  rw [hq, hR, addQ_addQ, hu]
  congr 1
  omega
theorem quote_none {s : List UInt8} (h : nxt s 0 ≠ 39) : quoteOf s = ([], 0, 2) := by
  cases s with
  | nil => rfl
  | cons c r =>
    have : nxt (c :: r) 0 = c.toNat := rfl
    simp only [quoteOf]
    rw [if_neg (by omega)]
theorem quote_res {s text : List UInt8} {i : Nat} (h : nxt s 0 = 39) (hq : quoteR (s.drop 1) = addQ text (i - 1) (quoteR (s.drop i))) (hi : 1 ≤ i) : quoteOf s = (if (quoteR (s.drop i)).2.2 = 0 then text ++ (quoteR (s.drop i)).1 else [], i + (quoteR (s.drop i)).2.1, (quoteR (s.drop i)).2.2) := by
  cases s with
  | nil => cases h
  | cons c r =>
    have e : nxt (c :: r) 0 = c.toNat := rfl
    have e2 : (c :: r).drop 1 = r := rfl
    rw [e2] at hq
    simp only [quoteOf]
    rw [if_pos (by omega), hq]
    simp only [addQ]
    congr 2
    omega
theorem fq_done {z : Nat} {s text : List UInt8} {i : Nat} (h : nxt s 0 = 39) (hq : quoteR (s.drop 1) = addQ text (i - 1) (quoteR (s.drop i))) (hi : 1 ≤ i) (hR : quoteR (s.drop i) = ([], 1, 0)) : FQuote z s = .tup [.c (.list 1 (encB text)), .c (.int .i64 (i + 1 : Nat)), .c (.int .i64 0)] := by
  unfold FQuote
  rw [quote_res h hq hi, hR]
  simp
theorem fq_err {z : Nat} {s text : List UInt8} {i : Nat} {e : Int} (h : nxt s 0 = 39) (hq : quoteR (s.drop 1) = addQ text (i - 1) (quoteR (s.drop i))) (hi : 1 ≤ i) (hR : quoteR (s.drop i) = ([], 0, e)) (he : e ≠ 0) : FQuote z s = .tup [.c (.list z (encB [])), .c (.int .i64 (i : Nat)), .c (.int .i64 e)] := by
  unfold FQuote
  rw [quote_res h hq hi, hR]
  simp [he]
theorem fq_none {z : Nat} {s : List UInt8} (h : nxt s 0 ≠ 39) : FQuote z s = .tup [.c (.list z (encB [])), .c (.int .i64 0), .c (.int .i64 2)] := by
  unfold FQuote
  rw [quote_none h]
  rfl
section
variable {s : List UInt8} {i : Nat} {c : UInt8}
theorem comR_at {d : Int} (hdr : s.drop i = c :: s.drop (i + 1)) : comR d (s.drop i) = if hasPre (s.drop i) [47, 42] = true then (comR (d + 1) (s.drop (i + 2))).map (2 + ·)
    else if hasPre (s.drop i) [42, 47] = true then (if d - 1 = 0 then some 2 else (comR (d - 1) (s.drop (i + 2))).map (2 + ·))
    else (comR d (s.drop (i + 1))).map (1 + ·) := by
  have h : (s.drop (i + 1)).drop 1 = s.drop (i + 2) := by rw [List.drop_drop]
  rw [hdr, comR_cons, h, ← hdr]
theorem com_end {d : Int} (h : s.length ≤ i) : comR d (s.drop i) = none := by rw [List.drop_eq_nil_of_le h]; rfl
theorem hasPre_drop (h : hasPre (s.drop i) [47, 42] = true ∨ hasPre (s.drop i) [42, 47] = true) : i + 2 ≤ s.length := by
  have : 2 ≤ (s.drop i).length := by rcases h with h | h <;> exact hasPre_le h
  rw [List.length_drop] at this
  omega
theorem skipR_at (hdr : s.drop i = c :: s.drop (i + 1)) : skipR (s.drop i) = if classOf c = 1 then addS 1 (skipR (s.drop (i + 1)))
    else if c.toNat = 37 then addS (1 + lnOf (s.drop (i + 1))) (skipR (s.drop (i + (1 + lnOf (s.drop (i + 1))))))
    else if hasPre (s.drop i) [47, 42] = true then (match comR 0 (s.drop i) with | none => (0, 14) | some k => addS k (skipR (s.drop (i + k))))
    else (0, 0) := by
  have h : (s.drop (i + 1)).drop (lnOf (s.drop (i + 1))) = s.drop (i + (1 + lnOf (s.drop (i + 1)))) := by rw [List.drop_drop, Nat.add_assoc]
  have hm : ∀ o : Option Nat, (match o with | none => ((0 : Nat), (14 : Int)) | some k => addS k (skipR (s.drop (i + k)))) = (match o with | none => ((0 : Nat), (14 : Int)) | some k => addS k (skipR ((s.drop i).drop k))) := by
    intro o
    cases o <;> simp [List.drop_drop]
  rw [hm, ← h, hdr]
  exact skipR_cons _ _
theorem ln_at (hdr : s.drop i = c :: s.drop (i + 1)) : lnOf (s.drop i) = if c.toNat = 10 then 0 else 1 + lnOf (s.drop (i + 1)) := by rw [hdr]; rfl
theorem addS_addS (a b : Nat) (x : Nat × Int) : addS a (addS b x) = addS (a + b) x := by simp [addS, Nat.add_assoc]
theorem skip_end (h : s.length ≤ i) : skipR (s.drop i) = (0, 0) := by rw [List.drop_eq_nil_of_le h]; rfl
theorem fskip {x : Nat × Int} (hq : skipR s = addS i (skipR (s.drop i))) (hR : skipR (s.drop i) = x) : FSkip s = .tup [.c (.int .i64 ((i + x.1 : Nat) : Int)), .c (.int .i64 x.2)] := by
  unfold FSkip
  rw [hq, hR]
  rfl
end
theorem class9 : ∀ c : UInt8, classOf c = 9 → 128 ≤ c.toNat := by
  have h : ∀ n : Nat, n < 256 → classOf (UInt8.ofNat n) = 9 → 128 ≤ n := by decide +kernel
  intro c hc
  exact h c.toNat (UInt8.toNat_lt c) (by rw [UInt8.ofNat_toNat]; exact hc)
theorem class7 : ∀ c : UInt8, classOf c = 7 → c.toNat = 39 := by
  have h : ∀ n : Nat, n < 256 → classOf (UInt8.ofNat n) = 7 → n = 39 := by decide +kernel
  intro c hc
  exact h c.toNat (UInt8.toNat_lt c) (by rw [UInt8.ofNat_toNat]; exact hc)
theorem quoteF_bd : ∀ {f : Nat} {s : List UInt8}, (quoteF f s).2.1 ≤ s.length
  | 0, s => Nat.zero_le _
  | f + 1, [] => Nat.zero_le _
  | f + 1, c :: r => by
    have h1 := quoteF_bd (f := f) (s := r.drop 1)
    have h2 := quoteF_bd (f := f) (s := (c :: r).drop (takeOf (c :: r)).1)
    have h3 := take_le (c :: r)
    have h4 := nxt_in (s := r) (i := 0)
    rw [List.length_drop] at h1 h2
    rw [quoteF]
    repeat' split
    all_goals simp only [addQ, List.length_cons] at *
    all_goals omega
theorem quoteR_bd (s : List UInt8) : (quoteR s).2.1 ≤ s.length := quoteF_bd
theorem numOf_le (s : List UInt8) : (numOf s).2.1 ≤ s.length := by
  have := runOf_le 4 s
  unfold numOf
  split
  · exact Nat.zero_le _
  · split <;> exact this
theorem quoteOf_le (s : List UInt8) : (quoteOf s).2.1 ≤ s.length := by
  cases s with
  | nil => exact Nat.zero_le _
  | cons c r =>
    have := quoteR_bd r
    simp only [quoteOf]
    split
    · simp only [List.length_cons]; omega
    · exact Nat.zero_le _
section
variable {s : List UInt8} {c : UInt8}
theorem tok2 (h : s[0]? = some c) (hc : classOf c = 2) : tokOf s = ⟨1, nameOf s, s.take (nameOf s), 0⟩ := by
  cases s with
  | nil => simp at h
  | cons x r => simp at h; subst h; simp [tokOf, hc]
theorem tok3 (h : s[0]? = some c) (hc : classOf c = 3) : tokOf s = ⟨3, nameOf s, s.take (nameOf s), 0⟩ := by
  cases s with
  | nil => simp at h
  | cons x r => simp at h; subst h; simp [tokOf, hc]
theorem tok9 (h : s[0]? = some c) (hc : classOf c = 9) (hk : (takeOf s).2 = true) : tokOf s = ⟨1, nameOf s, s.take (nameOf s), 0⟩ := by
  cases s with
  | nil => simp at h
  | cons x r => simp at h; subst h; simp [tokOf, hc, hk]
theorem tok9b (h : s[0]? = some c) (hc : classOf c = 9) (hk : (takeOf s).2 = false) : tokOf s = ⟨8, 1, [], 10⟩ := by
  cases s with
  | nil => simp at h
  | cons x r => simp at h; subst h; simp [tokOf, hc, hk]
theorem tok5 (h : s[0]? = some c) (hc : classOf c = 5) : tokOf s = ⟨if runOf 5 s = 1 ∧ c.toNat = 46 ∧ endsB s = true then 7 else 2, runOf 5 s, s.take (runOf 5 s), 0⟩ := by
  cases s with
  | nil => simp at h
  | cons x r => simp at h; subst h; simp [tokOf, hc]
theorem tok4 (h : s[0]? = some c) (hc : classOf c = 4) (he : (numOf s).2.2 = 0) : tokOf s = ⟨4, (numOf s).2.1, s.take (numOf s).2.1, 0⟩ := by
  cases s with
  | nil => simp at h
  | cons x r => simp at h; subst h; simp [tokOf, hc, he]
theorem tok4b (h : s[0]? = some c) (hc : classOf c = 4) (he : (numOf s).2.2 ≠ 0) : tokOf s = ⟨8, (numOf s).2.1, [], (numOf s).2.2⟩ := by
  cases s with
  | nil => simp at h
  | cons x r => simp at h; subst h; simp [tokOf, hc, he]
theorem tok7 (h : s[0]? = some c) (hc : classOf c = 7) (he : (quoteOf s).2.2 = 0) : tokOf s = ⟨5, (quoteOf s).2.1, (quoteOf s).1, 0⟩ := by
  cases s with
  | nil => simp at h
  | cons x r => simp at h; subst h; simp [tokOf, hc, he]
theorem tok7b (h : s[0]? = some c) (hc : classOf c = 7) (he : (quoteOf s).2.2 ≠ 0) : tokOf s = ⟨8, (quoteOf s).2.1, [], (quoteOf s).2.2⟩ := by
  cases s with
  | nil => simp at h
  | cons x r => simp at h; subst h; simp [tokOf, hc, he]
theorem tok6 (h : s[0]? = some c) (hc : classOf c = 6) : tokOf s = ⟨6, 1, s.take 1, 0⟩ := by
  cases s with
  | nil => simp at h
  | cons x r => simp at h; subst h; simp [tokOf, hc]
theorem tok0 (h : s[0]? = some c) (h2 : classOf c ≠ 2) (h3 : classOf c ≠ 3) (h9 : classOf c ≠ 9) (h5 : classOf c ≠ 5) (h4 : classOf c ≠ 4) (h7 : classOf c ≠ 7) (h6 : classOf c ≠ 6) : tokOf s = ⟨8, 1, [], 11⟩ := by
  cases s with
  | nil => simp at h
  | cons x r => simp at h; subst h; simp [tokOf, h2, h3, h9, h5, h4, h7, h6]
theorem name_pos (h : s[0]? = some c) (hn : nameC c = true ∨ 128 ≤ c.toNat ∧ (takeOf s).2 = true) : 1 ≤ nameOf s := by
  rcases hn with hn | ⟨h1, h2⟩
  · have hT := take_low h (nameC_low hn)
    rw [nameOf_go h (by rw [hT]) (.inr hn), hT]
    simp only []
    omega
  · have := take_high h h1 h2
    rw [nameOf_go h h2 (.inl (by omega))]
    omega
theorem run_pos {k : Nat} (h : s[0]? = some c) (hc : classOf c = k) : 1 ≤ runOf k s := by
  cases s with
  | nil => simp at h
  | cons x r => simp at h; subst h; simp [runOf, hc]
theorem tokOf_bd (h : s[0]? = some c) : 1 ≤ (tokOf s).size ∧ (tokOf s).size ≤ s.length := by
  have h0 : 0 < s.length := (List.getElem?_eq_some_iff.1 h).1
  have hn := nameOf_le s
  by_cases h2 : classOf c = 2
  · rw [tok2 h h2]; exact ⟨name_pos h (.inl (by simp [nameC, h2])), hn⟩
  by_cases h3 : classOf c = 3
  · rw [tok3 h h3]; exact ⟨name_pos h (.inl (by simp [nameC, h3])), hn⟩
  by_cases h9 : classOf c = 9
  · cases hk : (takeOf s).2 with
    | true => rw [tok9 h h9 hk]; exact ⟨name_pos h (.inr ⟨class9 c h9, hk⟩), hn⟩
    | false => rw [tok9b h h9 hk]; exact ⟨Nat.le_refl _, h0⟩
  by_cases h5 : classOf c = 5
  · rw [tok5 h h5]; exact ⟨run_pos h h5, runOf_le 5 s⟩
  by_cases h4 : classOf c = 4
  · have hr : 1 ≤ runOf 4 s := run_pos h h4
    have hs : (numOf s).2.1 = runOf 4 s := by
      unfold numOf
      rw [if_neg (by omega)]
      split <;> rfl
    by_cases he : (numOf s).2.2 = 0
    · rw [tok4 h h4 he]; exact ⟨by show 1 ≤ (numOf s).2.1; omega, numOf_le s⟩
    · rw [tok4b h h4 he]; exact ⟨by show 1 ≤ (numOf s).2.1; omega, numOf_le s⟩
  by_cases h7 : classOf c = 7
  · have hq : 1 ≤ (quoteOf s).2.1 := by
      cases s with
      | nil => simp at h
      | cons x r =>
        simp at h
        subst h
        simp only [quoteOf]
        rw [if_pos (class7 x h7)]
        simp only []
        omega
    by_cases he : (quoteOf s).2.2 = 0
    · rw [tok7 h h7 he]; exact ⟨hq, quoteOf_le s⟩
    · rw [tok7b h h7 he]; exact ⟨hq, quoteOf_le s⟩
  by_cases h6 : classOf c = 6
  · rw [tok6 h h6]; exact ⟨Nat.le_refl _, h0⟩
  · rw [tok0 h h2 h3 h9 h5 h4 h7 h6]; exact ⟨Nat.le_refl _, h0⟩
end
theorem nextOf_bd {s : List UInt8} {i : Nat} {t : Tok} (hi : i ≤ s.length) (h : nextOf s i = some t) : i < t.b ∧ t.b ≤ s.length := by
  have hb := skipR_bd (s.drop i)
  rw [List.length_drop] at hb
  unfold nextOf at h
  split at h
  · rename_i he
    have := hb.2 he
    cases h
    exact ⟨by show i < s.length; omega, Nat.le_refl _⟩
  · split at h
    · cases h
    · rename_i hne
      cases h
      obtain ⟨c, _, _, hg⟩ := at_of (show i + (skipR (s.drop i)).1 < s.length by omega)
      have := tokOf_bd hg
      rw [List.length_drop] at this
      simp only []
      omega
theorem allF_le : ∀ {f : Nat} {s : List UInt8} {i : Nat}, i ≤ s.length → s.length + 1 - i ≤ f → allF f s i = allF (s.length + 1 - i) s i
  | 0, s, i, hi, h => by omega
  | f + 1, s, i, hi, h => by
    obtain ⟨g, hg⟩ : ∃ g, s.length + 1 - i = g + 1 := ⟨s.length - i, by omega⟩
    rw [hg]
    simp only [allF]
    cases hn : nextOf s i with
    | none => rfl
    | some t =>
      have hb := nextOf_bd hi hn
      simp only []
      congr 1
      rw [allF_le hb.2 (by omega)]
      by_cases hgt : g ≤ f
      · by_cases hlt : g = f + 1
        · omega
        · rw [allF_le (f := g) hb.2 (by omega)]
      · omega
def allR (s : List UInt8) (i : Nat) : List Tok := allF (s.length + 1 - i) s i
theorem allR_none {s : List UInt8} {i : Nat} (hi : i ≤ s.length) (h : nextOf s i = none) : allR s i = [] := by
  unfold allR
  obtain ⟨g, hg⟩ : ∃ g, s.length + 1 - i = g + 1 := ⟨s.length - i, by omega⟩
  rw [hg]
  simp only [allF, h]
theorem allR_some {s : List UInt8} {i : Nat} {t : Tok} (hi : i ≤ s.length) (h : nextOf s i = some t) : allR s i = t :: allR s t.b := by
  have hb := nextOf_bd hi h
  unfold allR
  obtain ⟨g, hg⟩ : ∃ g, s.length + 1 - i = g + 1 := ⟨s.length - i, by omega⟩
  rw [hg]
  simp only [allF, h]
  rw [allF_le hb.2 (by omega)]
theorem allOf_R (s : List UInt8) : allOf s = allR s 0 := rfl
def tokC (t : Tok) : List D := [.int .i64 t.kind, .int .i64 (t.a : Nat), .int .i64 (t.b : Nat), .str t.text, .int .i64 t.code]
def FNext (s : List UInt8) (i : Nat) : DV := match nextOf s i with
  | some t => .tup [.agg (tokC t), .c (.bool true)]
  | none => .tup [.agg [.int .i64 0, .int .i64 0, .int .i64 0, .str [], .int .i64 0], .c (.bool false)]
def FAll (s : List UInt8) : DV := .c (.list 5 ((allOf s).map tokC))
theorem fnext_bad {s : List UInt8} {i : Nat} (h : (skipR (s.drop i)).2 ≠ 0) : FNext s i = .tup [.agg [.int .i64 8, .int .i64 ((i + (skipR (s.drop i)).1 : Nat) : Int), .int .i64 (s.length : Nat), .str [], .int .i64 (skipR (s.drop i)).2], .c (.bool true)] := by
  unfold FNext nextOf
  rw [if_pos h]
  rfl
theorem fnext_none {s : List UInt8} {i : Nat} (h : (skipR (s.drop i)).2 = 0) (h2 : i + (skipR (s.drop i)).1 = s.length) : FNext s i = .tup [.agg [.int .i64 0, .int .i64 0, .int .i64 0, .str [], .int .i64 0], .c (.bool false)] := by
  unfold FNext nextOf
  rw [if_neg (by omega), if_pos h2]
theorem fnext_tok {s : List UInt8} {i : Nat} (h : (skipR (s.drop i)).2 = 0) (h2 : i + (skipR (s.drop i)).1 ≠ s.length) {t : Tk} (ht : tokOf (s.drop (i + (skipR (s.drop i)).1)) = t) : FNext s i = .tup [.agg [.int .i64 t.kind, .int .i64 ((i + (skipR (s.drop i)).1 : Nat) : Int), .int .i64 ((i + (skipR (s.drop i)).1 + t.size : Nat) : Int), .str t.text, .int .i64 t.code], .c (.bool true)] := by
  unfold FNext nextOf
  rw [if_neg (by omega), if_neg h2, ht]
  rfl
end Go.Am
