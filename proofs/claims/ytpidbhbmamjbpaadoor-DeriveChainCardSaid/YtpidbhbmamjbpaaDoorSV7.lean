/-
  What the tree is, in plain words.
-/
import Derived.Test.YtpidbhbmamjbpaaDoorSV6
namespace Go.Am
open Go
structure Nd5 where
  k : Int
  s : List UInt8
  a : Int
  b : Int
  n : Int
def ndD (x : Nd5) : List D := [.int .i64 x.k, .str x.s, .int .i64 x.a, .int .i64 x.b, .int .i64 x.n]
def firstT (q : Nat → Bool) : Nat → Nat → Option Nat
  | _, 0 => none
  | i, n + 1 => if q i = true then some i else firstT q (i + 1) n
theorem firstT_some {q : Nat → Bool} : ∀ {n i j : Nat}, firstT q i n = some j → i ≤ j ∧ j < i + n ∧ q j = true ∧ ∀ x, i ≤ x → x < j → q x = false
  | 0, _, _, h => by cases h
  | n + 1, i, j, h => by
    unfold firstT at h
    by_cases hq : q i = true
    · rw [if_pos hq] at h
      cases h
      exact ⟨Nat.le_refl _, by omega, hq, fun x h1 h2 => by omega⟩
    · rw [if_neg hq] at h
      obtain ⟨h1, h2, h3, h4⟩ := firstT_some h
      refine ⟨by omega, by omega, h3, fun x h5 h6 => ?_⟩
      by_cases e : x = i
      · subst e; simpa using hq
      · exact h4 x (by omega) h6
theorem firstT_none {q : Nat → Bool} : ∀ {n i : Nat}, firstT q i n = none → ∀ x, i ≤ x → x < i + n → q x = false
  | 0, i, _, x, h1, h2 => by omega
  | n + 1, i, h, x, h1, h2 => by
    unfold firstT at h
    by_cases hq : q i = true
    · rw [if_pos hq] at h; cases h
    · rw [if_neg hq] at h
      by_cases e : x = i
      · subst e; simpa using hq
      · exact firstT_none h x (by omega) (by omega)
def topN : Nat → Option Nat
  | 0 => none
  | j + 1 => some j
def Drv.pick (c : Drv) (o : Nat) (outer right : Bool) (a b : Nat) : Option Nat := firstT (fun j => c.fitT o (topN j) outer right && decide (0 < c.C a b (topN j))) 0 (c.ops.length + 1)
def Drv.cut (c : Drv) (a b k p i : Nat) (o r : Bool) : Option Nat := firstT (fun j => decide (j + 1 < b - a ∧ 0 < c.W k a b p true (i + 1 + j) ∧ 0 < c.A k o r i (i + 1 + j))) 0 (b - i)
def Drv.below (c : Drv) (tr : Nat → Nat → Bool → Bool → List Nd5) (a b k : Nat) : Nat → Nat → Bool → Nat → List Nd5 × Nat
  | 0, _, _, _ => ([], 0)
  | n + 1, p, done, i => match opn (c.sh k) p done with
    | none => if p = (c.sh k).parts.length then ([], 0) else c.below tr a b k n (p + 1) false (i + 1)
    | some (o, r) => match c.cut a b k p i o r with
      | none => ([], 0)
      | some j => (tr i (i + 1 + j) o r ++ (c.below tr a b k n p true (i + 1 + j)).1, (c.below tr a b k n p true (i + 1 + j)).2 + 1)
def Drv.treeStep (c : Drv) (tr : Nat → Nat → Nat → Bool → Bool → List Nd5) (a b o : Nat) (outer right : Bool) : List Nd5 :=
  match c.pick o outer right a b with
  | none => []
  | some 0 => if b = a + 1 then [⟨1, (c.tk a).s, (a : Nat), (b : Nat), 0⟩] else ⟨2, [], (a : Nat), (b : Nat), 1⟩ :: tr (a + 1) (b - 1) 0 false false
  | some (k + 1) => ⟨3, (c.op k).pat, (a : Nat), (b : Nat), ((c.below (fun x y o r => tr x y k o r) a b k (fuelOf (c.sh k) 0 false) 0 false a).2 : Nat)⟩ :: (c.below (fun x y o r => tr x y k o r) a b k (fuelOf (c.sh k) 0 false) 0 false a).1
def Drv.treeF (c : Drv) : Nat → Nat → Nat → Nat → Bool → Bool → List Nd5
  | 0, _, _, _, _, _ => []
  | n + 1, a, b, o, outer, right => c.treeStep (c.treeF n) a b o outer right
def Drv.Tr (c : Drv) (a b o : Nat) (outer right : Bool) : List Nd5 := c.treeF (b - a) a b o outer right
variable {c : Drv}
theorem cut_lt {a b k p i j : Nat} {o r : Bool} (h : c.cut a b k p i o r = some j) : j + 1 < b - a ∧ i + 1 + j ≤ b ∧ 0 < c.W k a b p true (i + 1 + j) ∧ 0 < c.A k o r i (i + 1 + j) := by
  obtain ⟨_, h2, h3, _⟩ := firstT_some h
  have h3 := of_decide_eq_true h3
  exact ⟨h3.1, by omega, h3.2.1, h3.2.2⟩
theorem below_congr {tr tr' : Nat → Nat → Bool → Bool → List Nd5} {a b k : Nat} (h : ∀ x y o r, y - x < b - a → tr x y o r = tr' x y o r) : ∀ (n p : Nat) (done : Bool) (i : Nat), c.below tr a b k n p done i = c.below tr' a b k n p done i
  | 0, _, _, _ => rfl
  | n + 1, p, done, i => by
    unfold Drv.below
    split
    · rw [below_congr h n (p + 1) false (i + 1)]
    · split
      · rfl
      · rename_i j hc
        obtain ⟨h1, h2, _, _⟩ := cut_lt hc
        rw [below_congr h n p true (i + 1 + j), h _ _ _ _ (by omega)]
theorem treeStep_congr {tr tr' : Nat → Nat → Nat → Bool → Bool → List Nd5} {a b : Nat} (h : ∀ x y o out r, y - x < b - a → tr x y o out r = tr' x y o out r) (hab : a + 1 < b ∨ b = a + 1) (o : Nat) (outer right : Bool) : c.treeStep tr a b o outer right = c.treeStep tr' a b o outer right := by
  unfold Drv.treeStep
  split
  · rfl
  · rw [h (a + 1) (b - 1) 0 false false (by omega)]
  · rw [below_congr (tr := fun x y o r => tr x y _ o r) (tr' := fun x y o r => tr' x y _ o r) fun x y o r hxy => h x y _ o r hxy]
theorem treeF_stable : ∀ {n a b : Nat} (o : Nat) (outer right : Bool), a < b → b - a ≤ n → c.treeF n a b o outer right = c.Tr a b o outer right := by
  have key : ∀ n, ∀ m a b o outer right, b - a ≤ n → b - a ≤ m → a < b → c.treeF n a b o outer right = c.treeF m a b o outer right := by
    intro n
    induction n with
    | zero => intro m a b o outer right h1 h2 h3; omega
    | succ n ih =>
      intro m a b o outer right h1 h2 h3
      cases m with
      | zero => omega
      | succ m =>
        show c.treeStep (c.treeF n) a b o outer right = c.treeStep (c.treeF m) a b o outer right
        refine treeStep_congr (fun x y o out r hxy => ?_) (by omega) o outer right
        by_cases hlt : x < y
        · exact ih m x y o out r (by omega) (by omega) hlt
        · have e : c.pick o out r x y = none := by
            cases hp : c.pick o out r x y with
            | none => rfl
            | some j =>
              obtain ⟨_, _, h3, _⟩ := firstT_some hp
              simp only [Bool.and_eq_true, decide_eq_true_eq] at h3
              rw [C_zero (by omega)] at h3
              omega
          have z : ∀ q, c.treeF q x y o out r = [] := by
            intro q
            cases q with
            | zero => rfl
            | succ q => show c.treeStep (c.treeF q) x y o out r = []; unfold Drv.treeStep; rw [e]
          rw [z, z]
  intro n a b o outer right hab h
  exact key n (b - a) a b o outer right h (Nat.le_refl _) hab
theorem Tr_eq {a b : Nat} (hab : a < b) (o : Nat) (outer right : Bool) : c.Tr a b o outer right = c.treeStep c.Tr a b o outer right := by
  obtain ⟨n, hn⟩ : ∃ n, b - a = n + 1 := ⟨b - a - 1, by omega⟩
  unfold Drv.Tr
  rw [hn]
  show c.treeStep (c.treeF n) a b o outer right = _
  refine treeStep_congr (fun x y o out r hxy => ?_) (by omega) o outer right
  by_cases hlt : x < y
  · exact treeF_stable o out r hlt (by omega)
  · have e : c.pick o out r x y = none := by
      cases hp : c.pick o out r x y with
      | none => rfl
      | some j =>
        obtain ⟨_, _, h3, _⟩ := firstT_some hp
        simp only [Bool.and_eq_true, decide_eq_true_eq] at h3
        rw [C_zero (by omega)] at h3
        omega
    have z : ∀ q, c.treeF q x y o out r = [] := by
      intro q
      cases q with
      | zero => rfl
      | succ q => show c.treeStep (c.treeF q) x y o out r = []; unfold Drv.treeStep; rw [e]
    rw [z, z]
def Drv.Bl (c : Drv) (a b k p : Nat) (done : Bool) (i : Nat) : List Nd5 × Nat := c.below (fun x y o r => c.Tr x y k o r) a b k (fuelOf (c.sh k) p done) p done i
theorem below_more {tr : Nat → Nat → Bool → Bool → List Nd5} {a b k : Nat} : ∀ (n m p : Nat) (done : Bool) (i : Nat), p ≤ (c.sh k).parts.length → fuelOf (c.sh k) p done ≤ n → fuelOf (c.sh k) p done ≤ m → c.below tr a b k n p done i = c.below tr a b k m p done i
  | 0, _, _, done, _, _, h, _ => by unfold fuelOf at h; split at h <;> omega
  | _ + 1, 0, _, done, _, _, _, h => by unfold fuelOf at h; split at h <;> omega
  | n + 1, m + 1, p, done, i, hp, h1, h2 => by
    unfold Drv.below
    cases ho : opn (c.sh k) p done with
    | none =>
      simp only
      by_cases hpl : p = (c.sh k).parts.length
      · rw [if_pos hpl, if_pos hpl]
      · rw [if_neg hpl, if_neg hpl, below_more n m (p + 1) false (i + 1) (by omega) (by unfold fuelOf at *; simp; split at h1 <;> omega) (by unfold fuelOf at *; simp; split at h2 <;> omega)]
    | some w =>
      obtain ⟨o, r⟩ := w
      obtain rfl := opn_done ho
      simp only
      split
      · rfl
      · rename_i j hc
        rw [below_more n m p true (i + 1 + j) hp (by unfold fuelOf at *; simp at *; omega) (by unfold fuelOf at *; simp at *; omega)]
theorem Bl_open {a b k p i : Nat} {o r : Bool} (h : opn (c.sh k) p false = some (o, r)) (hp : p ≤ (c.sh k).parts.length) : c.Bl a b k p false i = match c.cut a b k p i o r with
      | none => ([], 0)
      | some j => (c.Tr i (i + 1 + j) k o r ++ (c.Bl a b k p true (i + 1 + j)).1, (c.Bl a b k p true (i + 1 + j)).2 + 1) := by
  obtain ⟨n, hn⟩ := fuel_pos (c.sh k) p false
  have key : c.Bl a b k p false i = c.below (fun x y o r => c.Tr x y k o r) a b k (n + 1) p false i := by unfold Drv.Bl; rw [hn]
  rw [key]
  unfold Drv.below
  rw [h]
  simp only
  split
  · rfl
  · rename_i j hc
    unfold Drv.Bl
    rw [below_more n (fuelOf (c.sh k) p true) p true (i + 1 + j) hp (by unfold fuelOf at *; simp at *; omega) (Nat.le_refl _)]
theorem Bl_shut {a b k p i : Nat} {done : Bool} (h : opn (c.sh k) p done = none) (hp : p ≤ (c.sh k).parts.length) : c.Bl a b k p done i = if p = (c.sh k).parts.length then ([], 0) else c.Bl a b k (p + 1) false (i + 1) := by
  obtain ⟨n, hn⟩ := fuel_pos (c.sh k) p done
  have key : c.Bl a b k p done i = c.below (fun x y o r => c.Tr x y k o r) a b k (n + 1) p done i := by unfold Drv.Bl; rw [hn]
  rw [key]
  unfold Drv.below
  rw [h]
  simp only
  by_cases hp2 : p = (c.sh k).parts.length
  · rw [if_pos hp2, if_pos hp2]
  · rw [if_neg hp2, if_neg hp2]
    unfold Drv.Bl
    rw [below_more n (fuelOf (c.sh k) (p + 1) false) (p + 1) false (i + 1) (by omega) (by unfold fuelOf at *; simp at *; split at hn <;> omega) (Nat.le_refl _)]
theorem sum_pos {f : Nat → Nat} : ∀ {n : Nat}, 0 < sumTo f n → ∃ i, i < n ∧ 0 < f i
  | 0, h => by cases h
  | n + 1, h => by
    have h : 0 < sumTo f n + f n := h
    by_cases h0 : 0 < f n
    · exact ⟨n, by omega, h0⟩
    · obtain ⟨i, h1, h2⟩ := sum_pos (f := f) (n := n) (by omega)
      exact ⟨i, by omega, h2⟩
theorem pick_of {a b o : Nat} {outer right : Bool} (h : 0 < c.A o outer right a b) : ∃ j, c.pick o outer right a b = some j ∧ j < c.ops.length + 1 ∧ c.fitT o (topN j) outer right = true ∧ 0 < c.C a b (topN j) ∧ ∀ x, x < j → (c.fitT o (topN x) outer right && decide (0 < c.C a b (topN x))) = false := by
  cases hp : c.pick o outer right a b with
  | some j =>
    obtain ⟨_, h2, h3, h4⟩ := firstT_some hp
    simp only [Bool.and_eq_true, decide_eq_true_eq] at h3
    exact ⟨j, rfl, by omega, h3.1, h3.2, fun x hx => h4 x (Nat.zero_le _) hx⟩
  | none =>
    exfalso
    have hn := firstT_none hp
    have h : 0 < min 2 (c.C a b none + sumTo (fun k => if c.fitT o (some k) outer right = true then c.C a b (some k) else 0) c.ops.length) := h
    by_cases h0 : 0 < c.C a b none
    · have : (c.fitT o none outer right && decide (0 < c.C a b none)) = false := hn 0 (Nat.le_refl _) (by omega)
      rw [decide_eq_true h0] at this
      cases this
    · obtain ⟨k, h1, h2⟩ := sum_pos (f := fun k => if c.fitT o (some k) outer right = true then c.C a b (some k) else 0) (n := c.ops.length) (by omega)
      have : (c.fitT o (some k) outer right && decide (0 < c.C a b (some k))) = false := hn (k + 1) (Nat.zero_le _) (by omega)
      split at h2
      · rename_i hf
        rw [hf, decide_eq_true h2] at this
        cases this
      · omega
theorem Tr_ne {a b o : Nat} {outer right : Bool} (hab : a < b) (h : 0 < c.A o outer right a b) : c.Tr a b o outer right ≠ [] := by
  obtain ⟨j, hp, _⟩ := pick_of h
  rw [Tr_eq hab]
  unfold Drv.treeStep
  rw [hp]
  cases j with
  | zero => simp only; split <;> simp
  | succ k => simp
end Go.Am
