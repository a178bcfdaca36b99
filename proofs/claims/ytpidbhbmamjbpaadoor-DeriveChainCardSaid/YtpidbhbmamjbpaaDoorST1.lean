/-
  All trees that derive a row, as a list; how many they are, two at most, is what is counted; the tree that is picked is one of them.
-/
import Derived.Test.YtpidbhbmamjbpaaDoorSV7
namespace Go.Am
open Go
theorem cap_mul (x y : Nat) : min 2 (min 2 x * min 2 y) = min 2 (x * y) := by
  have h : ∀ x : Nat, x = 0 ∨ x = 1 ∨ 2 ≤ x := fun x => by omega
  rcases h x with rfl | rfl | hx
  · simp
  · rw [show min 2 1 = 1 from rfl, Nat.one_mul, Nat.one_mul]; omega
  · rcases h y with rfl | rfl | hy
    · simp
    · rw [show min 2 1 = 1 from rfl, Nat.mul_one, Nat.mul_one]; omega
    · have h4 : 2 * 2 ≤ x * y := Nat.mul_le_mul hx hy
      rw [Nat.min_eq_left hx, Nat.min_eq_left hy]
      omega
theorem sum_cap (f : Nat → Nat) : ∀ n, min 2 (sumTo (fun i => min 2 (f i)) n) = min 2 (sumTo f n)
  | 0 => rfl
  | n + 1 => by
    have := sum_cap f n
    unfold sumTo
    omega
theorem flat_congr {α β : Type} {f g : α → List β} : ∀ {l : List α}, (∀ x ∈ l, f x = g x) → l.flatMap f = l.flatMap g
  | [], _ => rfl
  | x :: l, h => by
    rw [List.flatMap_cons, List.flatMap_cons, h x (by simp), flat_congr fun y hy => h y (by simp [hy])]
theorem flat_range {α : Type} (g : Nat → List α) : ∀ n, ((List.range n).flatMap g).length = sumTo (fun j => (g j).length) n
  | 0 => rfl
  | n + 1 => by
    rw [List.range_succ, List.flatMap_append, List.length_append, flat_range g n]
    simp [sumTo]
theorem flat_const {α β : Type} (l : List α) (g : α → List β) (k : Nat) (h : ∀ x ∈ l, (g x).length = k) : (l.flatMap g).length = l.length * k := by
  induction l with
  | nil => simp
  | cons x l ih =>
    rw [List.flatMap_cons, List.length_append, h x (by simp), ih (fun y hy => h y (by simp [hy])), List.length_cons, Nat.succ_mul]
    omega
def Drv.waysL (c : Drv) (q : Nat → Nat → Bool → Bool → List (List Nd5)) (a b : Nat) (v : SV) : Nat → Nat → Bool → Nat → List (List Nd5 × Nat)
  | 0, _, _, _ => []
  | n + 1, p, done, i => match opn v p done with
    | none => if p = v.parts.length then (if i = b then [([], 0)] else [])
      else if i < b ∧ partK (c.tk i) (v.parts.getD p []) = true then c.waysL q a b v n (p + 1) false (i + 1) else []
    | some (o, r) => (List.range (b - i)).flatMap fun j => if j + 1 = b - a then [] else (q i (i + 1 + j) o r).flatMap fun t => (c.waysL q a b v n p true (i + 1 + j)).map fun x => (t ++ x.1, x.2 + 1)
def Drv.anyL (c : Drv) (q : Nat → Nat → Option Nat → List (List Nd5)) (o : Nat) (outer right : Bool) (a b : Nat) : List (List Nd5) :=
  q a b none ++ (List.range c.ops.length).flatMap fun k => if c.fitT o (some k) outer right = true then q a b (some k) else []
def Drv.treesStep (c : Drv) (q : Nat → Nat → Option Nat → List (List Nd5)) (a b : Nat) (top : Option Nat) : List (List Nd5) :=
  if b ≤ a then [] else match top with
    | some k => (c.waysL (fun x y o r => c.anyL q k o r x y) a b (c.sh k) (fuelOf (c.sh k) 0 false) 0 false a).map fun x => ⟨3, (c.op k).pat, (a : Nat), (b : Nat), (x.2 : Nat)⟩ :: x.1
    | none => if b = a + 1 ∧ c.leaf a = true then [[⟨1, (c.tk a).s, (a : Nat), (b : Nat), 0⟩]]
      else if a + 2 < b ∧ c.solo a [40] = true ∧ c.solo (b - 1) [41] = true then (c.anyL q 0 false false (a + 1) (b - 1)).map fun t => ⟨2, [], (a : Nat), (b : Nat), 1⟩ :: t else []
def Drv.treesF (c : Drv) : Nat → Nat → Nat → Option Nat → List (List Nd5)
  | 0, _, _, _ => []
  | n + 1, a, b, top => c.treesStep (c.treesF n) a b top
def Drv.trees (c : Drv) (a b : Nat) (top : Option Nat) : List (List Nd5) := c.treesF (b - a) a b top
variable {c : Drv}
theorem ways_cap {q : Nat → Nat → Bool → Bool → Nat} {ql : Nat → Nat → Bool → Bool → List (List Nd5)} (h : ∀ x y o r, q x y o r = min 2 (ql x y o r).length) {a b : Nat} {v : SV} : ∀ (n p : Nat) (done : Bool) (i : Nat), c.ways q a b v n p done i = min 2 (c.waysL ql a b v n p done i).length
  | 0, _, _, _ => rfl
  | n + 1, p, done, i => by
    unfold Drv.ways Drv.waysL
    cases ho : opn v p done with
    | none =>
      simp only
      by_cases hp : p = v.parts.length
      · rw [if_pos hp, if_pos hp]
        by_cases hi : i = b
        · rw [if_pos hi, if_pos hi]; rfl
        · rw [if_neg hi, if_neg hi]; rfl
      · rw [if_neg hp, if_neg hp]
        by_cases hk : i < b ∧ partK (c.tk i) (v.parts.getD p []) = true
        · rw [if_pos hk, if_pos hk]; exact ways_cap h n (p + 1) false (i + 1)
        · rw [if_neg hk, if_neg hk]; rfl
    | some w =>
      obtain ⟨o, r⟩ := w
      simp only
      rw [flat_range, ← sum_cap, ← sum_cap (fun j => (_ : List _).length)]
      congr 1
      refine sumTo_congr fun j _ => ?_
      by_cases hj : j + 1 = b - a
      · rw [if_pos hj, if_pos hj]; rfl
      · rw [if_neg hj, if_neg hj, flat_const _ _ (c.waysL ql a b v n p true (i + 1 + j)).length (fun x _ => List.length_map ..), ways_cap h n p true (i + 1 + j), h, Nat.mul_comm, cap_mul]
theorem any_cap {q : Nat → Nat → Option Nat → Nat} {ql : Nat → Nat → Option Nat → List (List Nd5)} (h : ∀ x y t, q x y t = min 2 (ql x y t).length) (o : Nat) (outer right : Bool) (a b : Nat) : c.anyq q o outer right a b = min 2 (c.anyL ql o outer right a b).length := by
  unfold Drv.anyq Drv.anyL
  rw [List.length_append, flat_range, h]
  have e : sumTo (fun k => if c.fitT o (some k) outer right = true then q a b (some k) else 0) c.ops.length = sumTo (fun k => min 2 (if c.fitT o (some k) outer right = true then ql a b (some k) else []).length) c.ops.length := by
    refine sumTo_congr fun k _ => ?_
    split
    · exact h _ _ _
    · rfl
  rw [e]
  have := sum_cap (fun k => (if c.fitT o (some k) outer right = true then ql a b (some k) else []).length) c.ops.length
  omega
theorem cnt_cap : ∀ (n a b : Nat) (top : Option Nat), c.cnt n a b top = min 2 (c.treesF n a b top).length
  | 0, _, _, _ => rfl
  | n + 1, a, b, top => by
    show c.cntStep (c.cnt n) a b top = min 2 (c.treesStep (c.treesF n) a b top).length
    unfold Drv.cntStep Drv.treesStep
    split
    · rfl
    · cases top with
      | some k =>
        simp only
        rw [ways_cap (ql := fun x y o r => c.anyL (c.treesF n) k o r x y) (fun x y o r => any_cap (fun x y t => cnt_cap n x y t) k o r x y), List.length_map]
        omega
      | none =>
        simp only
        split
        · rfl
        · split
          · rw [any_cap (fun x y t => cnt_cap n x y t), List.length_map]; omega
          · rfl
theorem C_trees (a b : Nat) (top : Option Nat) : c.C a b top = min 2 (c.trees a b top).length := cnt_cap _ _ _ _
def Drv.alls (c : Drv) (o : Nat) (outer right : Bool) (a b : Nat) : List (List Nd5) := c.anyL c.trees o outer right a b
theorem A_alls (o : Nat) (outer right : Bool) (a b : Nat) : c.A o outer right a b = min 2 (c.alls o outer right a b).length := any_cap C_trees o outer right a b
theorem waysL_congr {q q' : Nat → Nat → Bool → Bool → List (List Nd5)} {a b : Nat} {v : SV} (h : ∀ x y o r, y - x < b - a → q x y o r = q' x y o r) : ∀ (n p : Nat) (done : Bool) (i : Nat), a ≤ i → c.waysL q a b v n p done i = c.waysL q' a b v n p done i
  | 0, _, _, _, _ => rfl
  | n + 1, p, done, i, hi => by
    unfold Drv.waysL
    split
    · rw [waysL_congr h n (p + 1) false (i + 1) (by omega)]
    · refine flat_congr fun j hj => ?_
      have hj := List.mem_range.1 hj
      by_cases hj1 : j + 1 = b - a
      · rw [if_pos hj1, if_pos hj1]
      · rw [if_neg hj1, if_neg hj1, waysL_congr h n p true (i + 1 + j) (by omega), h _ _ _ _ (by omega)]
theorem anyL_congr {q q' : Nat → Nat → Option Nat → List (List Nd5)} {a b : Nat} (h : ∀ top, q a b top = q' a b top) (o : Nat) (outer right : Bool) : c.anyL q o outer right a b = c.anyL q' o outer right a b := by
  unfold Drv.anyL
  simp only [h]
theorem treesStep_congr {q q' : Nat → Nat → Option Nat → List (List Nd5)} {a b : Nat} (h : ∀ x y top, y - x < b - a → q x y top = q' x y top) (top : Option Nat) : c.treesStep q a b top = c.treesStep q' a b top := by
  unfold Drv.treesStep
  split
  · rfl
  · cases top with
    | some k =>
      simp only
      rw [waysL_congr (q := fun x y o r => c.anyL q k o r x y) (q' := fun x y o r => c.anyL q' k o r x y) (fun x y o r hxy => anyL_congr (fun top => h x y top hxy) k o r) _ _ _ _ (Nat.le_refl a)]
    | none =>
      simp only
      rw [anyL_congr (a := a + 1) (b := b - 1) (fun top => h (a + 1) (b - 1) top (by omega)) 0 false false]
theorem treesF_stable : ∀ {n a b : Nat} (top : Option Nat), b - a ≤ n → c.treesF n a b top = c.trees a b top := by
  have key : ∀ n, ∀ m a b top, b - a ≤ n → b - a ≤ m → c.treesF n a b top = c.treesF m a b top := by
    intro n
    induction n with
    | zero =>
      intro m a b top h1 h2
      cases m with
      | zero => rfl
      | succ m =>
        show [] = c.treesStep (c.treesF m) a b top
        unfold Drv.treesStep
        rw [if_pos (by omega)]
    | succ n ih =>
      intro m a b top h1 h2
      cases m with
      | zero =>
        show c.treesStep (c.treesF n) a b top = []
        unfold Drv.treesStep
        rw [if_pos (by omega)]
      | succ m => exact treesStep_congr (fun x y t hxy => ih m x y t (by omega) (by omega)) top
  intro n a b top h
  exact key n (b - a) a b top h (Nat.le_refl _)
theorem trees_eq (a b : Nat) (top : Option Nat) : c.trees a b top = c.treesStep c.trees a b top := by
  by_cases hab : b ≤ a
  · have : b - a = 0 := by omega
    unfold Drv.trees
    rw [this]
    show [] = _
    unfold Drv.treesStep
    rw [if_pos hab]
  · obtain ⟨n, hn⟩ : ∃ n, b - a = n + 1 := ⟨b - a - 1, by omega⟩
    show c.treesF (b - a) a b top = _
    rw [hn]
    exact treesStep_congr (fun x y t hxy => treesF_stable t (by omega)) top
def Drv.WL (c : Drv) (k a b p : Nat) (done : Bool) (i : Nat) : List (List Nd5 × Nat) := c.waysL (fun x y o r => c.alls k o r x y) a b (c.sh k) (fuelOf (c.sh k) p done) p done i
theorem trees_some {a b k : Nat} (h : a < b) : c.trees a b (some k) = (c.WL k a b 0 false a).map fun x => ⟨3, (c.op k).pat, (a : Nat), (b : Nat), (x.2 : Nat)⟩ :: x.1 := by
  rw [trees_eq]
  unfold Drv.treesStep
  rw [if_neg (by omega)]
  rfl
theorem trees_none {a b : Nat} (h : a < b) : c.trees a b none = if b = a + 1 ∧ c.leaf a = true then [[⟨1, (c.tk a).s, (a : Nat), (b : Nat), 0⟩]]
      else if a + 2 < b ∧ c.solo a [40] = true ∧ c.solo (b - 1) [41] = true then (c.alls 0 false false (a + 1) (b - 1)).map fun t => ⟨2, [], (a : Nat), (b : Nat), 1⟩ :: t else [] := by
  rw [trees_eq]
  unfold Drv.treesStep
  rw [if_neg (by omega)]
  rfl
theorem waysL_more {q : Nat → Nat → Bool → Bool → List (List Nd5)} {a b : Nat} {v : SV} : ∀ (n m p : Nat) (done : Bool) (i : Nat), p ≤ v.parts.length → fuelOf v p done ≤ n → fuelOf v p done ≤ m → c.waysL q a b v n p done i = c.waysL q a b v m p done i
  | 0, _, _, done, _, _, h, _ => by unfold fuelOf at h; split at h <;> omega
  | _ + 1, 0, _, done, _, _, _, h => by unfold fuelOf at h; split at h <;> omega
  | n + 1, m + 1, p, done, i, hp, h1, h2 => by
    unfold Drv.waysL
    cases ho : opn v p done with
    | none =>
      simp only
      by_cases hpl : p = v.parts.length
      · rw [if_pos hpl, if_pos hpl]
      · rw [if_neg hpl, if_neg hpl, waysL_more n m (p + 1) false (i + 1) (by omega) (by unfold fuelOf at *; simp; split at h1 <;> omega) (by unfold fuelOf at *; simp; split at h2 <;> omega)]
    | some w =>
      obtain ⟨o, r⟩ := w
      obtain rfl := opn_done ho
      simp only
      refine flat_congr fun j _ => ?_
      rw [waysL_more n m p true (i + 1 + j) hp (by unfold fuelOf at *; simp at *; omega) (by unfold fuelOf at *; simp at *; omega)]
theorem WL_open {k a b p i : Nat} {o r : Bool} (h : opn (c.sh k) p false = some (o, r)) (hp : p ≤ (c.sh k).parts.length) : c.WL k a b p false i = (List.range (b - i)).flatMap fun j => if j + 1 = b - a then [] else (c.alls k o r i (i + 1 + j)).flatMap fun t => (c.WL k a b p true (i + 1 + j)).map fun x => (t ++ x.1, x.2 + 1) := by
  obtain ⟨n, hn⟩ := fuel_pos (c.sh k) p false
  have key : c.WL k a b p false i = c.waysL (fun x y o r => c.alls k o r x y) a b (c.sh k) (n + 1) p false i := by unfold Drv.WL; rw [hn]
  rw [key]
  unfold Drv.waysL
  rw [h]
  simp only
  refine flat_congr fun j _ => ?_
  unfold Drv.WL
  rw [waysL_more n (fuelOf (c.sh k) p true) p true (i + 1 + j) hp (by unfold fuelOf at *; simp at *; omega) (Nat.le_refl _)]
theorem WL_shut {k a b p i : Nat} {done : Bool} (h : opn (c.sh k) p done = none) (hp : p ≤ (c.sh k).parts.length) : c.WL k a b p done i = if p = (c.sh k).parts.length then (if i = b then [([], 0)] else [])
      else if i < b ∧ partK (c.tk i) ((c.sh k).parts.getD p []) = true then c.WL k a b (p + 1) false (i + 1) else [] := by
  obtain ⟨n, hn⟩ := fuel_pos (c.sh k) p done
  have key : c.WL k a b p done i = c.waysL (fun x y o r => c.alls k o r x y) a b (c.sh k) (n + 1) p done i := by unfold Drv.WL; rw [hn]
  rw [key]
  unfold Drv.waysL
  rw [h]
  simp only
  by_cases hp2 : p = (c.sh k).parts.length
  · rw [if_pos hp2, if_pos hp2]
  · rw [if_neg hp2, if_neg hp2]
    unfold Drv.WL
    rw [waysL_more n (fuelOf (c.sh k) (p + 1) false) (p + 1) false (i + 1) (by omega) (by unfold fuelOf at *; simp at *; split at hn <;> omega) (Nat.le_refl _)]
theorem mem_alls {o a b : Nat} {outer right : Bool} {t : List Nd5} : t ∈ c.alls o outer right a b ↔ ∃ j, j < c.ops.length + 1 ∧ c.fitT o (topN j) outer right = true ∧ t ∈ c.trees a b (topN j) := by
  unfold Drv.alls Drv.anyL
  rw [List.mem_append, List.mem_flatMap]
  constructor
  · rintro (h | ⟨k, hk, h⟩)
    · exact ⟨0, by omega, rfl, h⟩
    · have hk := List.mem_range.1 hk
      split at h
      · rename_i hf
        exact ⟨k + 1, by omega, hf, h⟩
      · cases h
  · rintro ⟨j, hj, hf, h⟩
    cases j with
    | zero => exact .inl h
    | succ k =>
      refine .inr ⟨k, List.mem_range.2 (by omega), ?_⟩
      have hf : c.fitT o (some k) outer right = true := hf
      rw [if_pos hf]
      exact h
theorem Bl_mem {a b k : Nat} (hT : ∀ x y o r, y - x < b - a → 0 < c.A k o r x y → c.Tr x y k o r ∈ c.alls k o r x y) : ∀ (n p : Nat) (done : Bool) (i : Nat), fuelOf (c.sh k) p done ≤ n → p ≤ (c.sh k).parts.length → a ≤ i → 0 < c.W k a b p done i → c.Bl a b k p done i ∈ c.WL k a b p done i
  | 0, p, done, i, h, _, _, _ => by unfold fuelOf at h; split at h <;> omega
  | n + 1, p, done, i, hn, hp, hai, hw => by
    cases ho : opn (c.sh k) p done with
    | none =>
      rw [Bl_shut ho hp, WL_shut ho hp]
      rw [W_shut ho hp] at hw
      by_cases hpl : p = (c.sh k).parts.length
      · rw [if_pos hpl] at hw
        rw [if_pos hpl, if_pos hpl]
        split at hw
        · rename_i h; rw [if_pos h]; simp
        · cases hw
      · rw [if_neg hpl] at hw
        rw [if_neg hpl, if_neg hpl]
        split at hw
        · rename_i h
          rw [if_pos h]
          exact Bl_mem hT n (p + 1) false (i + 1) (by unfold fuelOf at *; simp; split at hn <;> omega) (by omega) (by omega) hw
        · cases hw
    | some w =>
      obtain ⟨o, r⟩ := w
      obtain rfl := opn_done ho
      rw [Bl_open ho hp, WL_open ho hp]
      cases hc : c.cut a b k p i o r with
      | none =>
        exfalso
        have hnn := firstT_none hc
        rw [W_open ho hp] at hw
        obtain ⟨j, h1, h2⟩ := sum_pos (f := fun j => if j + 1 = b - a then 0 else c.W k a b p true (i + 1 + j) * c.A k o r i (i + 1 + j)) (n := b - i) (by omega)
        have := of_decide_eq_false (hnn j (Nat.zero_le _) (by omega))
        split at h2
        · cases h2
        · have hmul := Nat.pos_of_mul_pos_left h2
          have hmul2 := Nat.pos_of_mul_pos_right h2
          exact this ⟨by omega, by omega, by omega⟩
      | some j =>
        obtain ⟨h1, h2, h3, h4⟩ := cut_lt hc
        simp only
        rw [List.mem_flatMap]
        refine ⟨j, List.mem_range.2 (by omega), ?_⟩
        rw [if_neg (by omega), List.mem_flatMap]
        refine ⟨_, hT i (i + 1 + j) o r (by omega) h4, ?_⟩
        rw [List.mem_map]
        exact ⟨_, Bl_mem hT n p true (i + 1 + j) (by unfold fuelOf at *; simp at *; omega) hp (by omega) h3, rfl⟩
theorem Tr_mem : ∀ (n a b o : Nat) (outer right : Bool), b - a ≤ n → a < b → 0 < c.A o outer right a b → c.Tr a b o outer right ∈ c.alls o outer right a b
  | 0, a, b, _, _, _, h, hab, _ => by omega
  | n + 1, a, b, o, outer, right, hn, hab, hA => by
    obtain ⟨jp, hpick, hjl, hfit, hC, _⟩ := pick_of hA
    rw [mem_alls]
    refine ⟨jp, hjl, hfit, ?_⟩
    rw [Tr_eq hab]
    unfold Drv.treeStep
    rw [hpick]
    have hlt : ∀ x y k o r, y - x < b - a → 0 < c.A k o r x y → c.Tr x y k o r ∈ c.alls k o r x y := fun x y k o r hxy hpos => by
      by_cases hxy2 : x < y
      · exact Tr_mem n x y k o r (by omega) hxy2 hpos
      · exfalso
        have hz : ∀ n, sumTo (fun _ => 0) n = 0 := fun n => by induction n with | zero => rfl | succ n ih => unfold sumTo; rw [ih]
        have e : c.A k o r x y = 0 := by
          show min 2 _ = 0
          simp only [C_zero (c := c) (show y ≤ x by omega), ite_self, hz]
          rfl
        omega
    cases jp with
    | zero =>
      have hC0 : 0 < c.C a b none := hC
      rw [C_none hab] at hC0
      show _ ∈ c.trees a b none
      rw [trees_none hab]
      simp only
      by_cases h1 : b = a + 1 ∧ c.leaf a = true
      · rw [if_pos h1.1, if_pos h1]; simp
      · rw [if_neg h1] at hC0
        rw [if_neg h1]
        by_cases h2 : a + 2 < b ∧ c.solo a [40] = true ∧ c.solo (b - 1) [41] = true
        · rw [if_pos h2] at hC0
          rw [if_pos h2, if_neg (by omega), List.mem_map]
          exact ⟨_, hlt (a + 1) (b - 1) 0 false false (by omega) (by omega), rfl⟩
        · rw [if_neg h2] at hC0; simp at hC0
    | succ k =>
      have hC0 : 0 < c.C a b (some k) := hC
      rw [C_some hab] at hC0
      show _ ∈ c.trees a b (some k)
      rw [trees_some hab, List.mem_map]
      exact ⟨_, Bl_mem (fun x y o r hxy hpos => hlt x y k o r hxy hpos) _ 0 false a (Nat.le_refl _) (Nat.zero_le _) (Nat.le_refl _) (by omega), rfl⟩
theorem Tr_only {a b : Nat} (hab : a < b) (h : c.A 0 false false a b = 1) : c.alls 0 false false a b = [c.Tr a b 0 false false] := by
  have hm := Tr_mem (c := c) _ a b 0 false false (Nat.le_refl _) hab (by omega)
  rw [A_alls] at h
  match hl : c.alls 0 false false a b, h, hm with
  | [], h, _ => simp at h
  | [x], _, hm => simp at hm; rw [hm]
  | x :: y :: r, h, _ => simp at h
end Go.Am
