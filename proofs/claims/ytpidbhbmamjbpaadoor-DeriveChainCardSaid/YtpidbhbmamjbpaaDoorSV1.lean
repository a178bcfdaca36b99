/-
  What derives tokens: how many trees there are, two at most, in plain words.
-/
import Derived.Test.YtpidbhbmamjbpaaDoorSQD
namespace Go.Am
open Go
def sumTo (f : Nat → Nat) : Nat → Nat
  | 0 => 0
  | n + 1 => sumTo f n + f n
theorem sumTo_congr {f g : Nat → Nat} : ∀ {n : Nat}, (∀ i, i < n → f i = g i) → sumTo f n = sumTo g n
  | 0, _ => rfl
  | n + 1, h => by
    unfold sumTo
    rw [sumTo_congr (n := n) fun i hi => h i (by omega), h n (by omega)]
structure Drv where
  part : List UInt8 → Bool
  fit : Op3 → Op3 → Bool → Bool
  lf : Tk5 → Bool
  ops : List Op3
  toks : List Tk5
def noOp : Op3 := ⟨[], 0, 0⟩
def noTk : Tk5 := ⟨0, 0, 0, [], 0⟩
def noSh : SV := ⟨[], false, false⟩
def shOf (part : List UInt8 → Bool) (o : Op3) : SV := match shapeOf part o.pat with | some v => v | none => noSh
def Drv.op (c : Drv) (k : Nat) : Op3 := c.ops.getD k noOp
def Drv.tk (c : Drv) (i : Nat) : Tk5 := c.toks.getD i noTk
def Drv.sh (c : Drv) (k : Nat) : SV := shOf c.part (c.op k)
def Drv.leaf (c : Drv) (i : Nat) : Bool := c.lf (c.tk i)
def soloK (t : Tk5) (s : List UInt8) : Bool := decide (t.k = 6) && decide (t.s = s)
def Drv.solo (c : Drv) (i : Nat) (s : List UInt8) : Bool := soloK (c.tk i) s
def Drv.fitT (c : Drv) (o : Nat) (top : Option Nat) (outer right : Bool) : Bool :=
  match top with
  | none => true
  | some k => !outer || c.fit (c.op o) (c.op k) right
def opn (v : SV) (p : Nat) (done : Bool) : Option (Bool × Bool) :=
  if p = 0 then (if v.left && !done then some (true, false) else none)
  else if p = v.parts.length then (if v.right && !done then some (true, true) else none)
  else if done then none else some (false, false)
def Drv.ways (c : Drv) (q : Nat → Nat → Bool → Bool → Nat) (a b : Nat) (v : SV) : Nat → Nat → Bool → Nat → Nat
  | 0, _, _, _ => 0
  | n + 1, p, done, i => match opn v p done with
    | none => if p = v.parts.length then (if i = b then 1 else 0)
      else if i < b ∧ partK (c.tk i) (v.parts.getD p []) = true then c.ways q a b v n (p + 1) false (i + 1) else 0
    | some (o, r) => min 2 (sumTo (fun j => if j + 1 = b - a then 0 else c.ways q a b v n p true (i + 1 + j) * q i (i + 1 + j) o r) (b - i))
def Drv.anyq (c : Drv) (q : Nat → Nat → Option Nat → Nat) (o : Nat) (outer right : Bool) (a b : Nat) : Nat :=
  min 2 (q a b none + sumTo (fun k => if c.fitT o (some k) outer right = true then q a b (some k) else 0) c.ops.length)
def fuelOf (v : SV) (p : Nat) (done : Bool) : Nat := 2 * (v.parts.length - p) + (if done then 1 else 2)
def Drv.cntStep (c : Drv) (q : Nat → Nat → Option Nat → Nat) (a b : Nat) (top : Option Nat) : Nat :=
  if b ≤ a then 0 else min 2 (match top with
    | some k => c.ways (fun x y o r => c.anyq q k o r x y) a b (c.sh k) (fuelOf (c.sh k) 0 false) 0 false a
    | none => if b = a + 1 ∧ c.leaf a = true then 1
      else if a + 2 < b ∧ c.solo a [40] = true ∧ c.solo (b - 1) [41] = true then c.anyq q 0 false false (a + 1) (b - 1) else 0)
def Drv.cnt (c : Drv) : Nat → Nat → Nat → Option Nat → Nat
  | 0, _, _, _ => 0
  | n + 1, a, b, top => c.cntStep (c.cnt n) a b top
def Drv.C (c : Drv) (a b : Nat) (top : Option Nat) : Nat := c.cnt (b - a) a b top
variable {c : Drv}
theorem ways_congr {q q' : Nat → Nat → Bool → Bool → Nat} {a b : Nat} {v : SV} (h : ∀ x y o r, y - x < b - a → q x y o r = q' x y o r) : ∀ (n p : Nat) (done : Bool) (i : Nat), a ≤ i → c.ways q a b v n p done i = c.ways q' a b v n p done i
  | 0, _, _, _, _ => rfl
  | n + 1, p, done, i, hi => by
    unfold Drv.ways
    split
    · rw [ways_congr h n (p + 1) false (i + 1) (by omega)]
    · congr 1
      refine sumTo_congr fun j hj => ?_
      by_cases hj1 : j + 1 = b - a
      · rw [if_pos hj1, if_pos hj1]
      · rw [if_neg hj1, if_neg hj1, ways_congr h n p true (i + 1 + j) (by omega), h _ _ _ _ (by omega)]
theorem anyq_congr {q q' : Nat → Nat → Option Nat → Nat} {a b : Nat} (h : ∀ top, q a b top = q' a b top) (o : Nat) (outer right : Bool) : c.anyq q o outer right a b = c.anyq q' o outer right a b := by
  unfold Drv.anyq
  simp only [h]
theorem cntStep_congr {q q' : Nat → Nat → Option Nat → Nat} {a b : Nat} (h : ∀ x y top, y - x < b - a → q x y top = q' x y top) (top : Option Nat) : c.cntStep q a b top = c.cntStep q' a b top := by
  unfold Drv.cntStep
  split
  · rfl
  · cases top with
    | some k =>
      simp only
      rw [ways_congr (q := fun x y o r => c.anyq q k o r x y) (q' := fun x y o r => c.anyq q' k o r x y) (fun x y o r hxy => anyq_congr (fun top => h x y top hxy) k o r) _ _ _ _ (Nat.le_refl a)]
    | none =>
      simp only
      rw [anyq_congr (a := a + 1) (b := b - 1) (fun top => h (a + 1) (b - 1) top (by omega)) 0 false false]
theorem cnt_stable : ∀ {n a b : Nat} (top : Option Nat), b - a ≤ n → c.cnt n a b top = c.C a b top := by
  have key : ∀ n, ∀ m a b top, b - a ≤ n → b - a ≤ m → c.cnt n a b top = c.cnt m a b top := by
    intro n
    induction n with
    | zero =>
      intro m a b top h1 h2
      cases m with
      | zero => rfl
      | succ m =>
        show 0 = c.cntStep (c.cnt m) a b top
        unfold Drv.cntStep
        rw [if_pos (by omega)]
    | succ n ih =>
      intro m a b top h1 h2
      cases m with
      | zero =>
        show c.cntStep (c.cnt n) a b top = 0
        unfold Drv.cntStep
        rw [if_pos (by omega)]
      | succ m =>
        show c.cntStep (c.cnt n) a b top = c.cntStep (c.cnt m) a b top
        exact cntStep_congr (fun x y t hxy => ih m x y t (by omega) (by omega)) top
  intro n a b top h
  exact key n (b - a) a b top h (Nat.le_refl _)
theorem C_eq (a b : Nat) (top : Option Nat) : c.C a b top = c.cntStep c.C a b top := by
  by_cases hab : b ≤ a
  · have : b - a = 0 := by omega
    unfold Drv.C
    rw [this]
    show 0 = _
    unfold Drv.cntStep
    rw [if_pos hab]
  · obtain ⟨n, hn⟩ : ∃ n, b - a = n + 1 := ⟨b - a - 1, by omega⟩
    show c.cnt (b - a) a b top = _
    rw [hn]
    show c.cntStep (c.cnt n) a b top = _
    exact cntStep_congr (fun x y t hxy => cnt_stable t (by omega)) top
theorem C_le (a b : Nat) (top : Option Nat) : c.C a b top ≤ 2 := by
  rw [C_eq]
  unfold Drv.cntStep
  split
  · omega
  · exact Nat.min_le_left ..
theorem ways_le (q : Nat → Nat → Bool → Bool → Nat) (a b : Nat) (v : SV) : ∀ (n p : Nat) (done : Bool) (i : Nat), c.ways q a b v n p done i ≤ 2
  | 0, _, _, _ => by unfold Drv.ways; omega
  | n + 1, p, done, i => by
    unfold Drv.ways
    split
    · split
      · split <;> omega
      · split
        · exact ways_le q a b v n (p + 1) false (i + 1)
        · omega
    · exact Nat.min_le_left ..
def Drv.A (c : Drv) (o : Nat) (outer right : Bool) (a b : Nat) : Nat := c.anyq c.C o outer right a b
def Drv.W (c : Drv) (k a b p : Nat) (done : Bool) (i : Nat) : Nat := c.ways (fun x y o r => c.A k o r x y) a b (c.sh k) (fuelOf (c.sh k) p done) p done i
theorem A_le (o : Nat) (outer right : Bool) (a b : Nat) : c.A o outer right a b ≤ 2 := Nat.min_le_left ..
theorem W_le (k a b p : Nat) (done : Bool) (i : Nat) : c.W k a b p done i ≤ 2 := ways_le ..
theorem C_some {a b k : Nat} (h : a < b) : c.C a b (some k) = min 2 (c.W k a b 0 false a) := by
  rw [C_eq]
  unfold Drv.cntStep
  rw [if_neg (by omega)]
  rfl
theorem C_none {a b : Nat} (h : a < b) : c.C a b none = min 2 (if b = a + 1 ∧ c.leaf a = true then 1 else if a + 2 < b ∧ c.solo a [40] = true ∧ c.solo (b - 1) [41] = true then c.A 0 false false (a + 1) (b - 1) else 0) := by
  rw [C_eq]
  unfold Drv.cntStep
  rw [if_neg (by omega)]
  rfl
theorem C_zero {a b : Nat} (h : b ≤ a) (top : Option Nat) : c.C a b top = 0 := by
  rw [C_eq]
  unfold Drv.cntStep
  rw [if_pos h]
theorem opn_done {v : SV} {p : Nat} {o r : Bool} {done : Bool} (h : opn v p done = some (o, r)) : done = false := by
  unfold opn at h
  split at h
  · split at h
    · rename_i h2; simp at h2; exact h2.2
    · cases h
  · split at h
    · split at h
      · rename_i h2; simp at h2; exact h2.2
      · cases h
    · cases done
      · rfl
      · cases h
theorem ways_more {q : Nat → Nat → Bool → Bool → Nat} {a b : Nat} {v : SV} : ∀ (n m p : Nat) (done : Bool) (i : Nat), p ≤ v.parts.length → fuelOf v p done ≤ n → fuelOf v p done ≤ m → c.ways q a b v n p done i = c.ways q a b v m p done i
  | 0, _, _, done, _, _, h, _ => by unfold fuelOf at h; split at h <;> omega
  | _ + 1, 0, _, done, _, _, _, h => by unfold fuelOf at h; split at h <;> omega
  | n + 1, m + 1, p, done, i, hp, h1, h2 => by
    unfold Drv.ways
    cases ho : opn v p done with
    | none =>
      simp only
      by_cases hpl : p = v.parts.length
      · rw [if_pos hpl, if_pos hpl]
      · rw [if_neg hpl, if_neg hpl, ways_more n m (p + 1) false (i + 1) (by omega) (by unfold fuelOf at *; simp; split at h1 <;> omega) (by unfold fuelOf at *; simp; split at h2 <;> omega)]
    | some w =>
      obtain ⟨o, r⟩ := w
      obtain rfl := opn_done ho
      simp only
      congr 1
      refine sumTo_congr fun j _ => ?_
      rw [ways_more n m p true (i + 1 + j) hp (by unfold fuelOf at *; simp at *; omega) (by unfold fuelOf at *; simp at *; omega)]
theorem fuel_pos (v : SV) (p : Nat) (done : Bool) : ∃ n, fuelOf v p done = n + 1 := by unfold fuelOf; cases done <;> exact ⟨_, rfl⟩
theorem W_open {k a b p i : Nat} {o r : Bool} (h : opn (c.sh k) p false = some (o, r)) (hp : p ≤ (c.sh k).parts.length) : c.W k a b p false i = min 2 (sumTo (fun j => if j + 1 = b - a then 0 else c.W k a b p true (i + 1 + j) * c.A k o r i (i + 1 + j)) (b - i)) := by
  obtain ⟨n, hn⟩ := fuel_pos (c.sh k) p false
  have key : c.W k a b p false i = c.ways (fun x y o r => c.A k o r x y) a b (c.sh k) (n + 1) p false i := by unfold Drv.W; rw [hn]
  rw [key]
  unfold Drv.ways
  rw [h]
  simp only
  congr 1
  refine sumTo_congr fun j _ => ?_
  unfold Drv.W
  rw [ways_more n (fuelOf (c.sh k) p true) p true (i + 1 + j) hp (by unfold fuelOf at *; simp at *; omega) (Nat.le_refl _)]
theorem W_shut {k a b p i : Nat} {done : Bool} (h : opn (c.sh k) p done = none) (hp : p ≤ (c.sh k).parts.length) : c.W k a b p done i = if p = (c.sh k).parts.length then (if i = b then 1 else 0)
      else if i < b ∧ partK (c.tk i) ((c.sh k).parts.getD p []) = true then c.W k a b (p + 1) false (i + 1) else 0 := by
  obtain ⟨n, hn⟩ := fuel_pos (c.sh k) p done
  have key : c.W k a b p done i = c.ways (fun x y o r => c.A k o r x y) a b (c.sh k) (n + 1) p done i := by unfold Drv.W; rw [hn]
  rw [key]
  unfold Drv.ways
  rw [h]
  simp only
  by_cases hp2 : p = (c.sh k).parts.length
  · rw [if_pos hp2, if_pos hp2]
  · rw [if_neg hp2, if_neg hp2]
    unfold Drv.W
    rw [ways_more n (fuelOf (c.sh k) (p + 1) false) (p + 1) false (i + 1) (by omega) (by unfold fuelOf at *; simp at *; split at hn <;> omega) (Nat.le_refl _)]
def topI : Option Nat → Int
  | none => -1
  | some k => (k : Int)
theorem topI_inj {s t : Option Nat} (h : topI s = topI t) : s = t := by
  cases s <;> cases t <;> simp only [topI] at h
  · rfl
  · omega
  · omega
  · congr 1; omega
def keyC (a b : Nat) (top : Option Nat) : D := .list 0 [[.int .i64 (a : Nat), .int .i64 (b : Nat), .int .i64 (topI top)]]
def EsOk (c : Drv) (es : List (D × C)) : Prop := ∀ p ∈ es, ∃ a b top, p = (keyC a b top, .d (.int .i64 (c.C a b top : Nat)))
theorem sameK_key (a b : Nat) (top : Option Nat) (a' b' : Nat) (top' : Option Nat) : sameK true [0, 0, 0] (keyC a b top) (keyC a' b' top') = some (decide (a = a' ∧ b = b' ∧ top = top')) := by
  simp only [sameK, keyC, sameFs, sameF, if_true, Option.some.injEq, Bool.and_true]
  rw [Bool.eq_iff_iff]
  simp only [Bool.and_eq_true, beq_iff_eq, decide_eq_true_eq, Int.natCast_inj]
  constructor
  · rintro ⟨h1, h2, h3⟩; exact ⟨h1, h2, topI_inj h3⟩
  · rintro ⟨rfl, rfl, rfl⟩; exact ⟨rfl, rfl, rfl⟩
theorem find_es {es : List (D × C)} (h : EsOk c es) (a b : Nat) (top : Option Nat) : findK true [0, 0, 0] (keyC a b top) es = some none ∨ findK true [0, 0, 0] (keyC a b top) es = some (some (.d (.int .i64 (c.C a b top : Nat)))) := by
  induction es with
  | nil => exact .inl rfl
  | cons p r ih =>
    obtain ⟨a', b', top', rfl⟩ := h p (List.mem_cons_self ..)
    unfold findK
    rw [sameK_key]
    by_cases he : a = a' ∧ b = b' ∧ top = top'
    · obtain ⟨rfl, rfl, rfl⟩ := he
      simp
    · simp only [he, decide_false]
      exact ih fun p hp => h p (List.mem_cons_of_mem _ hp)
theorem set_es {es : List (D × C)} (h : EsOk c es) (a b : Nat) (top : Option Nat) : ∃ es', setK true [0, 0, 0] (keyC a b top) (.d (.int .i64 (c.C a b top : Nat))) es = some es' ∧ EsOk c es' := by
  induction es with
  | nil => exact ⟨_, rfl, fun p hp => by simp at hp; exact ⟨a, b, top, hp⟩⟩
  | cons p r ih =>
    obtain ⟨a', b', top', rfl⟩ := h p (List.mem_cons_self ..)
    unfold setK
    rw [sameK_key]
    by_cases he : a = a' ∧ b = b' ∧ top = top'
    · rw [decide_eq_true he]
      refine ⟨_, rfl, ?_⟩
      intro p hp
      cases hp with
      | head => exact ⟨a, b, top, rfl⟩
      | tail _ hm => exact h p (List.mem_cons_of_mem _ hm)
    · rw [decide_eq_false he]
      obtain ⟨es', e1, e2⟩ := ih fun p hp => h p (List.mem_cons_of_mem _ hp)
      rw [e1]
      refine ⟨_, rfl, ?_⟩
      intro p hp
      cases hp with
      | head => exact h _ (List.mem_cons_self ..)
      | tail _ hm => exact e2 p hm
end Go.Am
