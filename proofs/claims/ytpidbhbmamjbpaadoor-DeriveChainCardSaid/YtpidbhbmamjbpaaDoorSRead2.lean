/-
  WHAT THE CLAIM's DATA ARE as data of the abstract machine: numbers, bools, texts, structs and arrays of such.
-/
import Derived.Test.YtpidbhbmamjbpaaDoorSMD
import Derived.OpenShut
import Derived.Deep.Slices
import Derived.ChangeShapes
namespace Go.Am
open Go
section
variable {H : Type}
def dAll (r : DataW H → Option (List D)) : List (DataW H) → Option (List (List D))
  | [] => some []
  | x :: xs => match r x, dAll r xs with | some a, some l => some (a :: l) | _, _ => none
def dFields (P : Program) (total : Nat) (r : TypeId → DataW H → Option (List D)) : Nat → List Field → List (DataW H) → Option (List D)
  | o, [], [] => if o = total then some [] else none
  | o, f :: fs, x :: xs => if f.offset = o then (match r f.type x, dFields P total r (o + P.cellsOf f.type) fs xs with | some a, some b => some (a ++ b) | _, _ => none) else none
  | _, _, _ => none
def dOf (P : Program) : Nat → TypeId → DataW H → Option (List D)
  | 0, _, _ => none
  | n + 1, t, x => match P.underlying t, x with
    | some .bool, .lit (.bool b) => some [.bool b]
    | some (.int _), .lit (.int k m) => some [.int k m]
    | some .string, .lit (.string s) => some [.str s]
    | some (.slice e), .nil => some [.list (P.cellsOf e) []]
    | some (.slice e), .slice es _ => if 0 < P.cellsOf e then (match dAll (dOf P n e) es with | some l => some [.list (P.cellsOf e) l] | none => none) else none
    | some (.struct fs), .agg xs => dFields P (P.cellsOf t) (dOf P n) 0 fs.toList xs
    | some (.array m e), .agg xs => if P.cellsOf t = m * P.cellsOf e then (match dAll (dOf P n e) xs with | some l => some l.flatten | none => none) else none
    | _, _ => none
inductive RepL (w : World) (A : Nat → Prop) : List D → List Value → Prop
  | nil : RepL w A [] []
  | cons {d : D} {v : Value} {ds : List D} {vs : List Value} (h : RepD w A d v) (t : RepL w A ds vs) : RepL w A (d :: ds) (v :: vs)
theorem RepL.app {w : World} {A : Nat → Prop} {a b : List D} {c d : List Value} (h : RepL w A a c) (k : RepL w A b d) : RepL w A (a ++ b) (c ++ d) := by
  induction h with
  | nil => exact k
  | cons h t ih => exact .cons h ih
theorem RepL.len {w : World} {A : Nat → Prop} {a : List D} {c : List Value} (h : RepL w A a c) : a.length = c.length := by
  induction h with
  | nil => rfl
  | cons h t ih => simp [ih]
theorem RepL.get {w : World} {A : Nat → Prop} {a : List D} {c : List Value} (h : RepL w A a c) {i : Nat} {d : D} (hd : a[i]? = some d) : ∃ v, c[i]? = some v ∧ RepD w A d v := by
  induction h generalizing i with
  | nil => simp at hd
  | cons h t ih =>
    cases i with
    | zero => simp at hd; subst hd; exact ⟨_, rfl, h⟩
    | succ i => simpa using ih (by simpa using hd)
variable {enc : TypeId × Value → H} {P : Program} {w : World} {base : Nat} {sp : Nat → Bool} {held : Bool} {A : Nat → Prop}
theorem dAll_len {r : DataW H → Option (List D)} : ∀ {xs : List (DataW H)} {l : List (List D)}, dAll r xs = some l → l.length = xs.length
  | [], l, h => by cases h; rfl
  | x :: xs, l, h => by
    simp only [dAll] at h
    split at h
    · rename_i a b ha hb
      cases h
      simp [dAll_len hb]
    · cases h
theorem dAll_get {r : DataW H → Option (List D)} : ∀ {xs : List (DataW H)} {l : List (List D)}, dAll r xs = some l → ∀ {i : Nat} {x : DataW H}, xs[i]? = some x → ∃ a, l[i]? = some a ∧ r x = some a
  | [], l, h, i, x, hx => by simp at hx
  | y :: xs, l, h, i, x, hx => by
    simp only [dAll] at h
    split at h
    · rename_i a b ha hb
      cases h
      cases i with
      | zero => simp at hx; subst hx; exact ⟨a, rfl, ha⟩
      | succ i => simpa using dAll_get hb (by simpa using hx)
    · cases h
theorem trod_rep (hA : ∀ b, ¬ A b) : ∀ (k n : Nat) (t : TypeId) (cs : List Value) (x : DataW H) (p : List MemPlace) (ds : List D), DataW.trod enc P w base sp held n t cs = some (x, p) → dOf P k t x = some ds → RepL w A ds cs
  | 0, _, _, _, _, _, _, _, h => by cases h
  | k + 1, n, t, cs, x, p, ds, h, hd => by
    have ih := trod_rep hA k
    unfold dOf at hd
    split at hd
    · rename_i b ht
      cases n with
      | zero => cases h
      | succ n =>
        unfold DataW.trod at h
        rw [ht] at h
        split at h <;> simp_all
        obtain ⟨rfl, _⟩ := h
        subst hd
        exact .cons (.bool _) .nil
    · rename_i k' k2 m ht
      obtain ⟨m', rfl, hx, _⟩ := DataW.trod_int ht h
      cases hx
      cases hd
      exact .cons (.int _ _) .nil
    · rename_i s ht
      obtain ⟨s', rfl, hx, _⟩ := DataW.trod_string ht h
      cases hx
      cases hd
      have : s' = ⟨⟨s'.data.toList⟩⟩ := by cases s'; simp
      refine .cons ?_ .nil
      conv => rhs; rw [this]
      exact .str _
    · rename_i e ht
      rcases Go.Deep.open_slice ht h with ⟨rfl, _⟩ | ⟨a, len, cap, m, q, D', Pl, _, _, _, _, _, hx, _⟩
      · cases hd
        exact .cons (.nil _ _ _) .nil
      · cases hx
    · rename_i e es sps ht
      rcases Go.Deep.open_slice ht h with ⟨_, hx⟩ | ⟨a, len, cap, m, q, D', Pl, rfl, _, hlc, _, hm, hx, hel⟩
      · cases hx
      · simp only [Prod.mk.injEq, DataW.slice.injEq] at hx
        obtain ⟨⟨rfl, _⟩, _⟩ := hx
        split at hd
        · rename_i hc0
          split at hd
          · rename_i l hal
            cases hd
            have hll : l.length = len := by rw [dAll_len hal]; simp
            have hlm : len ≤ m := by rw [hm]; split <;> omega
            refine .cons ?_ .nil
            by_cases h0 : len = 0
            · subst h0
              have : l = [] := List.length_eq_zero_iff.1 hll
              subst this
              exact .nil _ _ _
            · have hi : ∀ i, i < len → ∃ (cs' : List Value) (d : List D), l[i]? = some d ∧ RepL w A d cs' ∧ cs'.length = P.cellsOf e ∧ ∀ j, j < P.cellsOf e → w.cell? ((a.add (i * P.cellsOf e)).add j) = cs'[j]? := by
                intro i hi
                obtain ⟨cs', h1, h2⟩ := hel i (by omega)
                obtain ⟨d, hd1, hd2⟩ := dAll_get hal (i := i) (x := D' i) (by simp [hi])
                obtain ⟨_, h3, h4⟩ := World.cells?_some h1
                exact ⟨cs', d, hd1, ih q e cs' (D' i) (Pl i) d h2 hd2, h3, h4⟩
              obtain ⟨b, off, spot⟩ := a
              have hspot : spot = none := by
                obtain ⟨cs', d, _, _, h3, h4⟩ := hi 0 (by omega)
                have g0 := h4 0 hc0
                rw [List.getElem?_eq_getElem (by omega)] at g0
                simpa [Addr.add] using World.cell?_spot g0
              subst hspot
              have hcell : ∀ i, i < len → ∃ (cs' : List Value) (d : List D), l[i]? = some d ∧ RepL w A d cs' ∧ d.length = P.cellsOf e ∧ ∀ j, j < P.cellsOf e → cellAt w b (off + (i * P.cellsOf e + j)) = cs'[j]? := by
                intro i hil
                obtain ⟨cs', d, h1, h2, h3, h4⟩ := hi i hil
                refine ⟨cs', d, h1, h2, by rw [h2.len, h3], fun j hj => ?_⟩
                have := h4 j hj
                rw [Go.WideShapes.add_plain, Go.WideShapes.add_plain] at this
                unfold cellAt
                rw [← this, Nat.add_assoc]
              have hsz : ∀ x ∈ l, x.length = P.cellsOf e := by
                intro x hx
                obtain ⟨i, hi1⟩ := List.mem_iff_getElem?.1 hx
                have hil := (List.getElem?_eq_some_iff.1 hi1).1
                obtain ⟨cs', d, h1, _, h3, _⟩ := hcell i (by omega)
                have := Option.some.inj (hi1.symm.trans h1)
                rw [this, h3]
              have key : ∀ j, j < len * P.cellsOf e → ∃ v d, cellAt w b (off + j) = some v ∧ l.flatten[j]? = some d ∧ RepD w A d v := by
                intro j hj
                have hdiv : j / P.cellsOf e < len := Nat.div_lt_of_lt_mul (by rw [Nat.mul_comm]; exact hj)
                have hmod : j % P.cellsOf e < P.cellsOf e := Nat.mod_lt _ hc0
                have hjj : j / P.cellsOf e * P.cellsOf e + j % P.cellsOf e = j := by rw [Nat.mul_comm]; exact Nat.div_add_mod j _
                obtain ⟨cs', d, h1, h2, h3, h4⟩ := hcell _ hdiv
                have hd := List.getElem?_eq_getElem (l := d) (show j % P.cellsOf e < d.length by omega)
                obtain ⟨v, hv, hrep⟩ := h2.get hd
                have h5 := h4 _ hmod
                rw [hjj, hv] at h5
                have h6 := flat_get hsz h1 hd
                rw [hjj] at h6
                exact ⟨v, _, h5, h6, hrep⟩
              rw [← hll]
              refine .list (P.cellsOf e) l b off cap (fun j => (cellAt w b (off + j)).getD undef) (by omega) hc0 hsz (by omega) (hA b) ?_ ?_
              · intro j hj
                obtain ⟨v, d, h1, _⟩ := key j (by rw [← hll]; exact hj)
                rw [h1]
                rfl
              · intro j d hd
                have hj : j < len * P.cellsOf e := by
                  have := (List.getElem?_eq_some_iff.1 hd).1
                  rw [flat_length hsz, hll] at this
                  exact this
                obtain ⟨v, d', h1, h2, h3⟩ := key j hj
                have := Option.some.inj (hd.symm.trans h2)
                subst this
                rw [h1]
                exact h3
          · cases hd
        · cases hd
    · rename_i fs xs ht
      obtain ⟨ys, m, _, hx, hl, hlen, hf⟩ := DataW.trod_struct ht h
      cases hx
      have key : ∀ (fl : List Field) (yl : List (DataW H × List MemPlace)) (o : Nat) (ds : List D), fl.length = yl.length → (∀ (i : Nat) (f : Field), fl[i]? = some f → DataW.trod enc P w base sp held m f.type ((cs.drop f.offset).take (P.cellsOf f.type)) = yl[i]?) →
          dFields P (P.cellsOf t) (dOf P k) o fl (yl.map (·.1)) = some ds → RepL w A ds (cs.drop o) := by
        intro fl
        induction fl with
        | nil =>
          intro yl o ds hlen _ hd
          cases yl with
          | nil =>
            simp only [List.map_nil, dFields] at hd
            split at hd
            · rename_i ho
              cases hd
              rw [List.drop_eq_nil_of_le (by omega)]
              exact .nil
            · cases hd
          | cons y yl => simp at hlen
        | cons f fl ihf =>
          intro yl o ds hlen hget hd
          cases yl with
          | nil => simp at hlen
          | cons y yl =>
            simp only [List.map_cons, dFields] at hd
            split at hd
            · rename_i ho
              split at hd
              · rename_i a b ha hb
                cases hd
                have h0 := hget 0 f rfl
                simp only [List.getElem?_cons_zero] at h0
                have h1 := ih m f.type _ y.1 y.2 a h0 ha
                have h2 := ihf yl (o + P.cellsOf f.type) b (by simpa using hlen) (fun i g hg => by simpa using hget (i + 1) g (by simpa using hg)) hb
                have e : cs.drop o = (cs.drop o).take (P.cellsOf f.type) ++ cs.drop (o + P.cellsOf f.type) := by
                  rw [← List.drop_drop, List.take_append_drop]
                rw [e]
                rw [ho] at h1
                exact h1.app h2
              · cases hd
            · cases hd
      have := key fs.toList ys 0 ds (by simpa using hlen.symm) (fun i f hf' => by simpa using hf i f (by simpa using hf')) hd
      simpa using this
    · rename_i m e xs ht
      obtain ⟨ys, q, _, hx, hl, hlen, hel⟩ := DataW.trod_array ht h
      cases hx
      split at hd
      · rename_i hc
        split at hd
        · rename_i l hal
          cases hd
          have key : ∀ (yl : List (DataW H × List MemPlace)) (i : Nat) (l : List (List D)), i + yl.length = m → (∀ (j : Nat), j < yl.length → DataW.trod enc P w base sp held q e ((cs.drop ((i + j) * P.cellsOf e)).take (P.cellsOf e)) = yl[j]?) →
              dAll (dOf P k e) (yl.map (·.1)) = some l → RepL w A l.flatten (cs.drop (i * P.cellsOf e)) := by
            intro yl
            induction yl with
            | nil =>
              intro i l hi _ hd
              cases hd
              have hi' : i = m := by simpa using hi
              rw [List.drop_eq_nil_of_le (by rw [hl, hc, hi']; exact Nat.le_refl _)]
              exact .nil
            | cons y yl ihy =>
              intro i l hi hget hd
              simp only [List.map_cons, dAll] at hd
              split at hd
              · rename_i a b ha hb
                cases hd
                have h0 := hget 0 (by simp)
                simp only [Nat.add_zero, List.getElem?_cons_zero] at h0
                have h1 := ih q e _ y.1 y.2 a h0 ha
                have h2 := ihy (i + 1) b (by simp at hi; omega) (fun j hj => by
                  have := hget (j + 1) (by simp; omega)
                  simpa [Nat.add_assoc, Nat.add_comm 1 j] using this) hb
                have e2 : cs.drop (i * P.cellsOf e) = (cs.drop (i * P.cellsOf e)).take (P.cellsOf e) ++ cs.drop ((i + 1) * P.cellsOf e) := by
                  rw [Nat.succ_mul, ← List.drop_drop, List.take_append_drop]
                rw [e2, List.flatten_cons]
                exact h1.app h2
              · cases hd
          have := key ys 0 l (by simpa using hlen) (fun j hj => by
            have := hel j (by omega)
            simpa using this) hal
          simpa using this
        · cases hd
      · cases hd
    · cases hd
end
theorem glob_of_laid {P : Program} {W : World} {n : String} {d : DataW Unit} {g : Nat} {t : TypeId} {k : Nat} {ds : List D} (hg : P.globalNamed n = some g) (ht : (P.globals[g]?).map (·.type) = some t) (hd : dOf P k t d = some ds)
    (h : ∃ (g' : Nat) (t' : TypeId) (cs : Array Value) (fuel : Nat) (p : List MemPlace), P.globalNamed n = some g' ∧ (P.globals[g']?).map (·.type) = some t' ∧ W.var? P n = some cs ∧ DataW.trod (fun _ => ()) P W 0 (fun _ => true) false fuel t' cs.toList = some (d, p)) :
    RepC ⟨W, fun _ => False, fun _ => undef, [], 0⟩ (.lptr ds 0) (.pointer (some ⟨g, 0, none⟩)) := by
  obtain ⟨g', t', cs, fuel, p, h1, h2, h3, h4⟩ := h
  obtain rfl := Option.some.inj (hg.symm.trans h1)
  obtain rfl := Option.some.inj (ht.symm.trans h2)
  have hr := trod_rep (A := fun _ => False) (fun _ h => h) k fuel t cs.toList d p ds h4 hd
  have hcell := World.var?_cell hg h3
  refine .lptr ds 0 g 0 (fun i => cs.toList.getD i undef) (fun _ h => h) ?_ ?_
  · intro i hi
    obtain ⟨v, hv, _⟩ := hr.get (List.getElem?_eq_getElem hi)
    have e : cs[i]? = some v := by simpa using hv
    unfold cellAt
    rw [Nat.zero_add, hcell i, e]
    simp [hv]
  · intro i d hd'
    obtain ⟨v, hv, hrep⟩ := hr.get hd'
    have : cs.toList.getD i undef = v := by simp [List.getD, hv]
    rw [this]
    exact hrep
end Go.Am
