/-
  FROM THE ABSTRACT MACHINE TO A ROW: the world's package-level variables, the witness, the frame.
-/
import Derived.Test.YtgbefhljbdjncaaDoorMD
import Derived.OpenShut
import Derived.Deep.Slices
import Derived.ChangeShapes
import Derived.Test.YtgbefhljbdjncaaDoorMJ
import Derived.ChangeArms
import Derived.Test.YtgbefhljbdjncaaDoorMW
import Derived.Test.YtgbefhljbdjncaaDoorRows
import Derived.Lib.LaidIn
import Derived.Deep.DeepHandedRow
import Derived.Deep.DeepWitnessRowRef
import Derived.ProofKit
import Derived.SizedLaws
import Derived.Shelf.Vars
import Derived.KernelRfl
namespace Go.Am
open Go
section
variable {H : Type}
def dAll (r : DataW H → Option (List D)) : List (DataW H) → Option (List (List D))
  | [] => some []
  | x :: xs => match r x, dAll r xs with | some a, some l => some (a :: l) | _, _ => none
def dFields (P : Program) (total : Nat) (r : TypeId → DataW H → Option (List D)) : Nat → List Field → List (DataW H) → Option (List D)
  | o, [], [] => if o = total then some [] else none
  | o, f :: fs, x :: xs => if f.offset = o then (match r f.type x, dFields P total r (o + P.cellsOf f.type) fs xs with | some a, some b => some (a ++ b) | _, _ => none) else none
  | _, _, _ => none
def dOf (P : Program) : Nat → TypeId → DataW H → Option (List D)
  | 0, _, _ => none
  | n + 1, t, x => match P.underlying t, x with
    | some .bool, .lit (.bool b) => some [.bool b]
    | some (.int _), .lit (.int k m) => some [.int k m]
    | some .string, .lit (.string s) => some [.str s]
    | some (.slice e), .nil => some [.list (P.cellsOf e) []]
    | some (.slice e), .slice es _ => if 0 < P.cellsOf e then (match dAll (dOf P n e) es with | some l => some [.list (P.cellsOf e) l] | none => none) else none
    | some (.struct fs), .agg xs => dFields P (P.cellsOf t) (dOf P n) 0 fs.toList xs
    | some (.array m e), .agg xs => if P.cellsOf t = m * P.cellsOf e then (match dAll (dOf P n e) xs with | some l => some l.flatten | none => none) else none
    | _, _ => none

inductive RepL (w : World) (A : Nat → Prop) : List D → List Value → Prop
  | nil : RepL w A [] []
  | cons {d : D} {v : Value} {ds : List D} {vs : List Value} (h : RepD w A d v) (t : RepL w A ds vs) : RepL w A (d :: ds) (v :: vs)
theorem RepL.app {w : World} {A : Nat → Prop} {a b : List D} {c d : List Value} (h : RepL w A a c) (k : RepL w A b d) : RepL w A (a ++ b) (c ++ d) := by
  induction h with
  | nil => exact k
  | cons h t ih => exact .cons h ih
theorem RepL.len {w : World} {A : Nat → Prop} {a : List D} {c : List Value} (h : RepL w A a c) : a.length = c.length := by
  induction h with
  | nil => rfl
  | cons h t ih => simp [ih]
theorem RepL.get {w : World} {A : Nat → Prop} {a : List D} {c : List Value} (h : RepL w A a c) {i : Nat} {d : D} (hd : a[i]? = some d) : ∃ v, c[i]? = some v ∧ RepD w A d v := by
  induction h generalizing i with
  | nil => simp at hd
  | cons h t ih =>
    cases i with
    | zero => simp at hd; subst hd; exact ⟨_, rfl, h⟩
    | succ i => simpa using ih (by simpa using hd)

variable {enc : TypeId × Value → H} {P : Program} {w : World} {base : Nat} {sp : Nat → Bool} {held : Bool} {A : Nat → Prop}
theorem dAll_len {r : DataW H → Option (List D)} : ∀ {xs : List (DataW H)} {l : List (List D)}, dAll r xs = some l → l.length = xs.length
  | [], l, h => by cases h; rfl
  | x :: xs, l, h => by
    simp only [dAll] at h
    split at h
    · rename_i a b ha hb
      cases h
      simp [dAll_len hb]
    · cases h
theorem dAll_get {r : DataW H → Option (List D)} : ∀ {xs : List (DataW H)} {l : List (List D)}, dAll r xs = some l → ∀ {i : Nat} {x : DataW H}, xs[i]? = some x → ∃ a, l[i]? = some a ∧ r x = some a
  | [], l, h, i, x, hx => by simp at hx
  | y :: xs, l, h, i, x, hx => by
    simp only [dAll] at h
    split at h
    · rename_i a b ha hb
      cases h
      cases i with
      | zero => simp at hx; subst hx; exact ⟨a, rfl, ha⟩
      | succ i => simpa using dAll_get hb (by simpa using hx)
    · cases h
theorem trod_rep (hA : ∀ b, ¬ A b) : ∀ (k n : Nat) (t : TypeId) (cs : List Value) (x : DataW H) (p : List MemPlace) (ds : List D), DataW.trod enc P w base sp held n t cs = some (x, p) → dOf P k t x = some ds → RepL w A ds cs
  | 0, _, _, _, _, _, _, _, h => by cases h
  | k + 1, n, t, cs, x, p, ds, h, hd => by
    have ih := trod_rep hA k
    unfold dOf at hd
    split at hd
    · rename_i b ht
      cases n with
      | zero => cases h
      | succ n =>
        unfold DataW.trod at h
        rw [ht] at h
        split at h <;> simp_all
        obtain ⟨rfl, _⟩ := h
        subst hd
        exact .cons (.bool _) .nil
    · rename_i k' k2 m ht
      obtain ⟨m', rfl, hx, _⟩ := DataW.trod_int ht h
      cases hx
      cases hd
      exact .cons (.int _ _) .nil
    · rename_i s ht
      obtain ⟨s', rfl, hx, _⟩ := DataW.trod_string ht h
      cases hx
      cases hd
      have : s' = ⟨⟨s'.data.toList⟩⟩ := by cases s'; simp
      refine .cons ?_ .nil
      conv => rhs; rw [this]
      exact .str _
    · rename_i e ht
      rcases Go.Deep.open_slice ht h with ⟨rfl, _⟩ | ⟨a, len, cap, m, q, D', Pl, _, _, _, _, _, hx, _⟩
      · cases hd
        exact .cons (.nil _ _ _) .nil
      · cases hx
    · rename_i e es sps ht
      rcases Go.Deep.open_slice ht h with ⟨_, hx⟩ | ⟨a, len, cap, m, q, D', Pl, rfl, _, hlc, _, hm, hx, hel⟩
      · cases hx
      · simp only [Prod.mk.injEq, DataW.slice.injEq] at hx
        obtain ⟨⟨rfl, _⟩, _⟩ := hx
        split at hd
        · rename_i hc0
          split at hd
          · rename_i l hal
            cases hd
            have hll : l.length = len := by rw [dAll_len hal]; simp
            have hlm : len ≤ m := by rw [hm]; split <;> omega
            refine .cons ?_ .nil
            by_cases h0 : len = 0
            · subst h0
              have : l = [] := List.length_eq_zero_iff.1 hll
              subst this
              exact .nil _ _ _
            · have hi : ∀ i, i < len → ∃ (cs' : List Value) (d : List D), l[i]? = some d ∧ RepL w A d cs' ∧ cs'.length = P.cellsOf e ∧ ∀ j, j < P.cellsOf e → w.cell? ((a.add (i * P.cellsOf e)).add j) = cs'[j]? := by
                intro i hi
                obtain ⟨cs', h1, h2⟩ := hel i (by omega)
                obtain ⟨d, hd1, hd2⟩ := dAll_get hal (i := i) (x := D' i) (by simp [hi])
                obtain ⟨_, h3, h4⟩ := World.cells?_some h1
                exact ⟨cs', d, hd1, ih q e cs' (D' i) (Pl i) d h2 hd2, h3, h4⟩
              obtain ⟨b, off, spot⟩ := a
              have hspot : spot = none := by
                obtain ⟨cs', d, _, _, h3, h4⟩ := hi 0 (by omega)
                have g0 := h4 0 hc0
                rw [List.getElem?_eq_getElem (by omega)] at g0
                simpa [Addr.add] using World.cell?_spot g0
              subst hspot
              have hcell : ∀ i, i < len → ∃ (cs' : List Value) (d : List D), l[i]? = some d ∧ RepL w A d cs' ∧ d.length = P.cellsOf e ∧ ∀ j, j < P.cellsOf e → cellAt w b (off + (i * P.cellsOf e + j)) = cs'[j]? := by
                intro i hil
                obtain ⟨cs', d, h1, h2, h3, h4⟩ := hi i hil
                refine ⟨cs', d, h1, h2, by rw [h2.len, h3], fun j hj => ?_⟩
                have := h4 j hj
                rw [Go.WideShapes.add_plain, Go.WideShapes.add_plain] at this
                unfold cellAt
                rw [← this, Nat.add_assoc]
              have hsz : ∀ x ∈ l, x.length = P.cellsOf e := by
                intro x hx
                obtain ⟨i, hi1⟩ := List.mem_iff_getElem?.1 hx
                have hil := (List.getElem?_eq_some_iff.1 hi1).1
                obtain ⟨cs', d, h1, _, h3, _⟩ := hcell i (by omega)
                have := Option.some.inj (hi1.symm.trans h1)
                rw [this, h3]
              have key : ∀ j, j < len * P.cellsOf e → ∃ v d, cellAt w b (off + j) = some v ∧ l.flatten[j]? = some d ∧ RepD w A d v := by
                intro j hj
                have hdiv : j / P.cellsOf e < len := Nat.div_lt_of_lt_mul (by rw [Nat.mul_comm]; exact hj)
                have hmod : j % P.cellsOf e < P.cellsOf e := Nat.mod_lt _ hc0
                have hjj : j / P.cellsOf e * P.cellsOf e + j % P.cellsOf e = j := by rw [Nat.mul_comm]; exact Nat.div_add_mod j _
                obtain ⟨cs', d, h1, h2, h3, h4⟩ := hcell _ hdiv
                have hd := List.getElem?_eq_getElem (l := d) (show j % P.cellsOf e < d.length by omega)
                obtain ⟨v, hv, hrep⟩ := h2.get hd
                have h5 := h4 _ hmod
                rw [hjj, hv] at h5
                have h6 := flat_get hsz h1 hd
                rw [hjj] at h6
                exact ⟨v, _, h5, h6, hrep⟩
              rw [← hll]
              refine .list (P.cellsOf e) l b off cap (fun j => (cellAt w b (off + j)).getD undef) (by omega) hc0 hsz (by omega) (hA b) ?_ ?_
              · intro j hj
                obtain ⟨v, d, h1, _⟩ := key j (by rw [← hll]; exact hj)
                rw [h1]
                rfl
              · intro j d hd
                have hj : j < len * P.cellsOf e := by
                  have := (List.getElem?_eq_some_iff.1 hd).1
                  rw [flat_length hsz, hll] at this
                  exact this
                obtain ⟨v, d', h1, h2, h3⟩ := key j hj
                have := Option.some.inj (hd.symm.trans h2)
                subst this
                rw [h1]
                exact h3
          · cases hd
        · cases hd
    · rename_i fs xs ht
      obtain ⟨ys, m, _, hx, hl, hlen, hf⟩ := DataW.trod_struct ht h
      cases hx
      have key : ∀ (fl : List Field) (yl : List (DataW H × List MemPlace)) (o : Nat) (ds : List D), fl.length = yl.length → (∀ (i : Nat) (f : Field), fl[i]? = some f → DataW.trod enc P w base sp held m f.type ((cs.drop f.offset).take (P.cellsOf f.type)) = yl[i]?) →
          dFields P (P.cellsOf t) (dOf P k) o fl (yl.map (·.1)) = some ds → RepL w A ds (cs.drop o) := by
        intro fl
        induction fl with
        | nil =>
          intro yl o ds hlen _ hd
          cases yl with
          | nil =>
            simp only [List.map_nil, dFields] at hd
            split at hd
            · rename_i ho
              cases hd
              rw [List.drop_eq_nil_of_le (by omega)]
              exact .nil
            · cases hd
          | cons y yl => simp at hlen
        | cons f fl ihf =>
          intro yl o ds hlen hget hd
          cases yl with
          | nil => simp at hlen
          | cons y yl =>
            simp only [List.map_cons, dFields] at hd
            split at hd
            · rename_i ho
              split at hd
              · rename_i a b ha hb
                cases hd
                have h0 := hget 0 f rfl
                simp only [List.getElem?_cons_zero] at h0
                have h1 := ih m f.type _ y.1 y.2 a h0 ha
                have h2 := ihf yl (o + P.cellsOf f.type) b (by simpa using hlen) (fun i g hg => by simpa using hget (i + 1) g (by simpa using hg)) hb
                have e : cs.drop o = (cs.drop o).take (P.cellsOf f.type) ++ cs.drop (o + P.cellsOf f.type) := by
                  rw [← List.drop_drop, List.take_append_drop]
                rw [e]
                rw [ho] at h1
                exact h1.app h2
              · cases hd
            · cases hd
      have := key fs.toList ys 0 ds (by simpa using hlen.symm) (fun i f hf' => by simpa using hf i f (by simpa using hf')) hd
      simpa using this
    · rename_i m e xs ht
      obtain ⟨ys, q, _, hx, hl, hlen, hel⟩ := DataW.trod_array ht h
      cases hx
      split at hd
      · rename_i hc
        split at hd
        · rename_i l hal
          cases hd
          have key : ∀ (yl : List (DataW H × List MemPlace)) (i : Nat) (l : List (List D)), i + yl.length = m → (∀ (j : Nat), j < yl.length → DataW.trod enc P w base sp held q e ((cs.drop ((i + j) * P.cellsOf e)).take (P.cellsOf e)) = yl[j]?) →
              dAll (dOf P k e) (yl.map (·.1)) = some l → RepL w A l.flatten (cs.drop (i * P.cellsOf e)) := by
            intro yl
            induction yl with
            | nil =>
              intro i l hi _ hd
              cases hd
              have hi' : i = m := by simpa using hi
              rw [List.drop_eq_nil_of_le (by rw [hl, hc, hi']; exact Nat.le_refl _)]
              exact .nil
            | cons y yl ihy =>
              intro i l hi hget hd
              simp only [List.map_cons, dAll] at hd
              split at hd
              · rename_i a b ha hb
                cases hd
                have h0 := hget 0 (by simp)
                simp only [Nat.add_zero, List.getElem?_cons_zero] at h0
                have h1 := ih q e _ y.1 y.2 a h0 ha
                have h2 := ihy (i + 1) b (by simp at hi; omega) (fun j hj => by
                  have := hget (j + 1) (by simp; omega)
                  simpa [Nat.add_assoc, Nat.add_comm 1 j] using this) hb
                have e2 : cs.drop (i * P.cellsOf e) = (cs.drop (i * P.cellsOf e)).take (P.cellsOf e) ++ cs.drop ((i + 1) * P.cellsOf e) := by
                  rw [Nat.succ_mul, ← List.drop_drop, List.take_append_drop]
                rw [e2, List.flatten_cons]
                exact h1.app h2
              · cases hd
          have := key ys 0 l (by simpa using hlen) (fun j hj => by
            have := hel j (by omega)
            simpa using this) hal
          simpa using this
        · cases hd
      · cases hd
    · cases hd
end
theorem dAll_map {H : Type} {ι : Type} {r : DataW H → Option (List D)} {f : ι → DataW H} {g : ι → List D} : ∀ (l : List ι), (∀ x ∈ l, r (f x) = some (g x)) → dAll r (l.map f) = some (l.map g)
  | [], _ => rfl
  | a :: l, h => by
    simp only [List.map_cons, dAll, h a (by simp), dAll_map l (fun x hx => h x (by simp [hx]))]
/-- A package-level variable that holds such data. -/
theorem glob_of_laid {P : Program} {W : World} {n : String} {d : DataW Unit} {g : Nat} {t : TypeId} {k : Nat} {ds : List D} (hg : P.globalNamed n = some g) (ht : (P.globals[g]?).map (·.type) = some t) (hd : dOf P k t d = some ds)
    (h : ∃ (g' : Nat) (t' : TypeId) (cs : Array Value) (fuel : Nat) (p : List MemPlace), P.globalNamed n = some g' ∧ (P.globals[g']?).map (·.type) = some t' ∧ W.var? P n = some cs ∧ DataW.trod (fun _ => ()) P W 0 (fun _ => true) false fuel t' cs.toList = some (d, p)) :
    RepC ⟨W, fun _ => False, fun _ => undef, [], 0⟩ (.lptr ds 0) (.pointer (some ⟨g, 0, none⟩)) := by
  obtain ⟨g', t', cs, fuel, p, h1, h2, h3, h4⟩ := h
  obtain rfl := Option.some.inj (hg.symm.trans h1)
  obtain rfl := Option.some.inj (ht.symm.trans h2)
  have hr := trod_rep (A := fun _ => False) (fun _ h => h) k fuel t cs.toList d p ds h4 hd
  have hcell := World.var?_cell hg h3
  refine .lptr ds 0 g 0 (fun i => cs.toList.getD i undef) (fun _ h => h) ?_ ?_
  · intro i hi
    obtain ⟨v, hv, _⟩ := hr.get (List.getElem?_eq_getElem hi)
    have e : cs[i]? = some v := by simpa using hv
    unfold cellAt
    rw [Nat.zero_add, hcell i, e]
    simp [hv]
  · intro i d hd'
    obtain ⟨v, hv, hrep⟩ := hr.get hd'
    have : cs.toList.getD i undef = v := by simp [List.getD, hv]
    rw [this]
    exact hrep
end Go.Am
namespace Go.Am
open Go
inductive Ty where
  | int (k : IntKind)
  | bool
  | str
  | slice (sz : Nat) (e : Ty)
  | tup (ts : List Ty)
mutual
def Ty.ok : Ty → List D → Prop
  | .int k, ds => ∃ n : Int, ds = [.int k n] ∧ (Lit.int k n).wf = true
  | .bool, ds => ∃ b : Bool, ds = [.bool b]
  | .str, ds => ∃ s : List UInt8, ds = [.str s] ∧ s.length ≤ 140737488351232
  | .slice sz e, ds => ∃ l : List (List D), ds = [.list sz l] ∧ ∀ x ∈ l, e.ok x
  | .tup ts, ds => Ty.oks ts ds
def Ty.oks : List Ty → List D → Prop
  | [], ds => ds = []
  | t :: ts, ds => ∃ a b, ds = a ++ b ∧ t.ok a ∧ Ty.oks ts b
end
def tyAll (r : TypeId → Option Ty) : List Field → Option (List Ty)
  | [] => some []
  | f :: fs => match r f.type, tyAll r fs with | some t, some ts => some (t :: ts) | _, _ => none
def offOk (P : Program) (total : Nat) : Nat → List Field → Bool
  | o, [] => o == total
  | o, f :: fs => f.offset == o && offOk P total (o + P.cellsOf f.type) fs
def tyOf (P : Program) : Nat → TypeId → Option Ty
  | 0, _ => none
  | n + 1, t => match P.underlying t with
    | some .bool => some .bool
    | some (.int k) => some (.int k)
    | some .string => some .str
    | some (.slice e) => if 0 < P.cellsOf e then (match tyOf P n e with | some τ => some (.slice (P.cellsOf e) τ) | none => none) else none
    | some (.struct fs) => (match tyAll (tyOf P n) fs.toList with | some ts => if offOk P (P.cellsOf t) 0 fs.toList = true then some (.tup ts) else none | none => none)
    | some (.array m e) => if P.cellsOf t = m * P.cellsOf e then (match tyOf P n e with | some τ => some (.tup (repl m τ)) | none => none) else none
    | _ => none
section
variable {H : Type} {enc : TypeId × Value → H} {P : Program} {w : World} {base : Nat} {sp : Nat → Bool} {held : Bool}
theorem weightsAll_mem {e : TypeId} {d : DataW H} {b : Nat} : ∀ {l : List (DataW H)}, d ∈ l → b ∈ DataW.weights P e d → b ∈ DataW.weightsAll P e l
  | [], h, _ => by cases h
  | x :: r, h, hb => by
    simp only [DataW.weightsAll, List.mem_append]
    rcases List.mem_cons.1 h with rfl | h
    · exact .inl hb
    · exact .inr (weightsAll_mem h hb)
theorem dAll_some {r : DataW H → Option (List D)} {Q : List D → Prop} : ∀ {xs : List (DataW H)}, (∀ x ∈ xs, ∃ a, r x = some a ∧ Q a) → ∃ l, dAll r xs = some l ∧ ∀ a ∈ l, Q a
  | [], _ => ⟨[], rfl, fun a h => by cases h⟩
  | x :: xs, h => by
    obtain ⟨a, h1, h2⟩ := h x (by simp)
    obtain ⟨l, h3, h4⟩ := dAll_some (xs := xs) (fun y hy => h y (by simp [hy]))
    refine ⟨a :: l, by simp only [dAll, h1, h3], fun y hy => ?_⟩
    rcases List.mem_cons.1 hy with rfl | hy
    · exact h2
    · exact h4 y hy
theorem oks_repl {τ : Ty} : ∀ {l : List (List D)}, (∀ a ∈ l, τ.ok a) → Ty.oks (repl l.length τ) l.flatten
  | [], _ => by simp only [List.length_nil, repl, Ty.oks, List.flatten_nil]
  | a :: l, h => by
    simp only [List.length_cons, repl, Ty.oks, List.flatten_cons]
    exact ⟨a, l.flatten, rfl, h a (by simp), oks_repl fun b hb => h b (by simp [hb])⟩
theorem read_ok : ∀ (k n : Nat) (t : TypeId) (cs : List Value) (x : DataW H) (p : List MemPlace) (τ : Ty), DataW.trod enc P w base sp held n t cs = some (x, p) → tyOf P k t = some τ → (∀ b ∈ DataW.weights P t x, b ≤ reachBytes) → ∃ ds, dOf P k t x = some ds ∧ τ.ok ds
  | 0, _, _, _, _, _, _, _, h, _ => by cases h
  | k + 1, n, t, cs, x, p, τ, h, hτ, hb => by
    have ih := read_ok k
    unfold tyOf at hτ
    split at hτ
    · rename_i ht
      cases hτ
      obtain ⟨b, rfl, hx⟩ := DataW.trod_bool ht h
      cases hx
      exact ⟨[.bool b], by simp only [dOf, ht], by simp only [Ty.ok]; exact ⟨b, rfl⟩⟩
    · rename_i k' ht
      cases hτ
      obtain ⟨m, rfl, hx, hw⟩ := DataW.trod_int ht h
      cases hx
      exact ⟨[.int k' m], by simp only [dOf, ht], by simp only [Ty.ok]; exact ⟨m, rfl, hw⟩⟩
    · rename_i ht
      cases hτ
      obtain ⟨s, rfl, hx, hs⟩ := DataW.trod_string ht h
      cases hx
      refine ⟨[.str s.data.toList], by simp only [dOf, ht], ?_⟩
      simp only [Ty.ok]
      refine ⟨_, rfl, ?_⟩
      exact hb _ (by simp only [DataW.weights, List.mem_singleton])
    · rename_i e ht
      split at hτ
      · rename_i hc0
        split at hτ
        · rename_i τ' hτ'
          cases hτ
          rcases Go.Deep.open_slice ht h with ⟨_, hx⟩ | ⟨a, len, cap, m, q, D', Pl, _, _, hlc, _, hm, hx, hel⟩
          · cases hx
            refine ⟨[.list (P.cellsOf e) []], by simp only [dOf, ht], ?_⟩
            simp only [Ty.ok]
            exact ⟨[], rfl, fun x h => by cases h⟩
          · simp only [Prod.mk.injEq] at hx
            obtain ⟨rfl, _⟩ := hx
            have hlm : len ≤ m := by rw [hm]; split <;> omega
            obtain ⟨l, h1, h2⟩ := dAll_some (r := dOf P k e) (Q := τ'.ok) (xs := (List.range len).map D') (by
              intro y hy
              obtain ⟨i, hi, rfl⟩ := List.mem_map.1 hy
              have hil : i < len := by simpa using hi
              obtain ⟨cs', _, h3⟩ := hel i (by omega)
              refine ih q e cs' (D' i) (Pl i) τ' h3 hτ' (fun b hb' => hb b ?_)
              simp only [DataW.weights, ht, List.mem_cons, List.mem_append]
              exact .inr (.inl (weightsAll_mem hy hb')))
            refine ⟨[.list (P.cellsOf e) l], by simp only [dOf, ht, if_pos hc0, h1], ?_⟩
            simp only [Ty.ok]
            exact ⟨l, rfl, h2⟩
        · cases hτ
      · cases hτ
    · rename_i fs ht
      split at hτ
      · rename_i ts hts
        split at hτ
        · rename_i hoff
          cases hτ
          obtain ⟨ys, m, _, hx, hl, hlen, hf⟩ := DataW.trod_struct ht h
          cases hx
          have key : ∀ (fl : List Field) (yl : List (DataW H × List MemPlace)) (o : Nat) (ts : List Ty), fl.length = yl.length → (∀ (i : Nat) (f : Field), fl[i]? = some f → DataW.trod enc P w base sp held m f.type ((cs.drop f.offset).take (P.cellsOf f.type)) = yl[i]?) →
              (∀ b ∈ DataW.weightsEach P (fl.map (·.type)) (yl.map (·.1)), b ≤ reachBytes) → tyAll (tyOf P k) fl = some ts → offOk P (P.cellsOf t) o fl = true → ∃ ds, dFields P (P.cellsOf t) (dOf P k) o fl (yl.map (·.1)) = some ds ∧ Ty.oks ts ds := by
            intro fl
            induction fl with
            | nil =>
              intro yl o ts hlen _ _ h1 h2
              cases yl with
              | nil =>
                cases h1
                simp only [offOk, beq_iff_eq] at h2
                refine ⟨[], by simp only [List.map_nil, dFields, if_pos h2], by simp only [Ty.oks]⟩
              | cons y yl => simp at hlen
            | cons f fl ihf =>
              intro yl o ts hlen hget hwt h1 h2
              cases yl with
              | nil => simp at hlen
              | cons y yl =>
                simp only [tyAll] at h1
                split at h1
                · rename_i t0 ts0 e1 e2
                  cases h1
                  simp only [offOk, Bool.and_eq_true, beq_iff_eq] at h2
                  obtain ⟨ho, h2⟩ := h2
                  have h0 := hget 0 f rfl
                  simp only [List.getElem?_cons_zero] at h0
                  simp only [List.map_cons, DataW.weightsEach, List.mem_append] at hwt
                  obtain ⟨a, ha1, ha2⟩ := ih m f.type _ y.1 y.2 t0 h0 e1 (fun b hb => hwt b (.inl hb))
                  obtain ⟨b, hb1, hb2⟩ := ihf yl (o + P.cellsOf f.type) ts0 (by simpa using hlen) (fun i g hg => by simpa using hget (i + 1) g (by simpa using hg)) (fun b hb => hwt b (.inr hb)) e2 h2
                  refine ⟨a ++ b, by simp only [List.map_cons, dFields, if_pos ho, ha1, hb1], ?_⟩
                  simp only [Ty.oks]
                  exact ⟨a, b, rfl, ha2, hb2⟩
                · cases h1
          obtain ⟨ds, h1, h2⟩ := key fs.toList ys 0 ts (by simpa using hlen.symm) (fun i f hf' => by simpa using hf i f (by simpa using hf')) (fun b hb' => hb b (by simp only [DataW.weights, ht]; exact hb')) hts hoff
          refine ⟨ds, by simp only [dOf, ht]; exact h1, ?_⟩
          simp only [Ty.ok]
          exact h2
        · cases hτ
      · cases hτ
    · rename_i m e ht
      split at hτ
      · rename_i hc
        split at hτ
        · rename_i τ' hτ'
          cases hτ
          obtain ⟨ys, q, _, hx, hl, hlen, hel⟩ := DataW.trod_array ht h
          cases hx
          obtain ⟨l, h1, h2⟩ := dAll_some (r := dOf P k e) (Q := τ'.ok) (xs := ys.map (·.1)) (by
            intro y hy
            obtain ⟨z, hz, rfl⟩ := List.mem_map.1 hy
            obtain ⟨i, hi⟩ := List.getElem?_of_mem hz
            have hil : i < ys.length := (List.getElem?_eq_some_iff.1 hi).1
            have h3 := hel i (by omega)
            rw [hi] at h3
            refine ih q e _ z.1 z.2 τ' h3 hτ' (fun b hb' => hb b ?_)
            simp only [DataW.weights, ht]
            exact weightsAll_mem hy hb')
          refine ⟨l.flatten, by simp only [dOf, ht, if_pos hc, h1], ?_⟩
          simp only [Ty.ok]
          have hll : l.length = m := by rw [dAll_len h1]; simpa using hlen
          rw [← hll]
          exact oks_repl h2
        · cases hτ
      · cases hτ
    · cases hτ
/-- An argument: its data, of its type's form, and what represents it. -/
theorem arg_rep (k : Nat) {n : Nat} {t : TypeId} {cs : List Value} {x : DataW H} {p : List MemPlace} {τ : Ty} (h : DataW.trod enc P w base sp held n t cs = some (x, p)) (hτ : tyOf P k t = some τ) (hb : ∀ b ∈ DataW.weights P t x, b ≤ reachBytes) : ∃ ds, τ.ok ds ∧ RepL w (fun _ => False) ds cs := by
  obtain ⟨ds, h1, h2⟩ := read_ok k n t cs x p τ h hτ hb
  exact ⟨ds, h2, trod_rep (A := fun _ => False) (fun _ h => h) k n t cs x p ds h h1⟩
end
theorem rep_one {w : World} {A : Nat → Prop} {d : D} {v : Value} (h : RepL w A [d] [v]) : RepDV w A (.c d) v := by
  cases h with
  | cons h t => exact .c _ _ h
theorem rep_agg {w : World} {A : Nat → Prop} {ds : List D} {cs : Array Value} (h : RepL w A ds cs.toList) : RepDV w A (.agg ds) (.agg cs) := by
  have h2 : RepDV w A (.agg ds) (.agg cs.toList.toArray) := .agg ds cs.toList h.len.symm (fun i d v hd hv => by
    obtain ⟨v', h3, h4⟩ := h.get hd
    obtain rfl := Option.some.inj (h3.symm.trans hv)
    exact h4)
  simpa using h2
end Go.Am
namespace Go.Am
open Go
def tOp : Ty := .tup [.str, .int .i64, .int .i64]
def tChg : Ty := .tup [.int .u8, .int .u8, .int .u8, tOp]
theorem u8_of {n : Int} (h : (Lit.int .u8 n).wf = true) : ∃ k : Nat, n = (k : Int) ∧ k < 256 := by
  simp [Lit.wf, IntKind.min, IntKind.max, IntKind.signed, IntKind.bits] at h
  exact ⟨n.toNat, by omega, by omega⟩
theorem op_of {ds : List D} (h : tOp.ok ds) : ∃ o : Op3, ds = opD o ∧ o.pat.length ≤ big := by
  simp only [tOp, Ty.ok, Ty.oks] at h
  obtain ⟨_, _, rfl, ⟨s, rfl, hs⟩, _, _, rfl, ⟨g, rfl, _⟩, _, _, rfl, ⟨a, rfl, _⟩, rfl⟩ := h
  exact ⟨⟨s, g, a⟩, rfl, hs⟩
theorem chg_of {ds : List D} (h : tChg.ok ds) : ∃ c : Chg, ds = chgD c ∧ ChgOk c := by
  simp only [tChg, Ty.ok, Ty.oks] at h
  obtain ⟨_, _, rfl, ⟨k, rfl, hk⟩, _, _, rfl, ⟨g, rfl, hg⟩, _, _, rfl, ⟨x, rfl, hx⟩, _, _, rfl, ho, rfl⟩ := h
  obtain ⟨k, rfl, hk'⟩ := u8_of hk
  obtain ⟨g, rfl, hg'⟩ := u8_of hg
  obtain ⟨x, rfl, hx'⟩ := u8_of hx
  obtain ⟨o, rfl, ho'⟩ := op_of ho
  exact ⟨⟨k, g, x, o⟩, by simp [chgD, opD], ⟨hk', hg', hx', ho'⟩⟩
theorem list_of {α : Type} {f : α → List D} {Q : α → Prop} : ∀ {l : List (List D)}, (∀ x ∈ l, ∃ a, x = f a ∧ Q a) → ∃ r : List α, l = r.map f ∧ ∀ a ∈ r, Q a
  | [], _ => ⟨[], rfl, fun a h => by cases h⟩
  | x :: l, h => by
    obtain ⟨a, rfl, ha⟩ := h x (by simp)
    obtain ⟨r, rfl, hr⟩ := list_of (l := l) (fun y hy => h y (by simp [hy]))
    refine ⟨a :: r, rfl, fun b hb => ?_⟩
    rcases List.mem_cons.1 hb with rfl | hb
    · exact ha
    · exact hr b hb
theorem chgs_of {ds : List D} (h : (Ty.slice 6 tChg).ok ds) : ∃ l : List Chg, ds = [.list 6 (l.map chgD)] ∧ ∀ c ∈ l, ChgOk c := by
  simp only [Ty.ok] at h
  obtain ⟨l, rfl, hl⟩ := h
  obtain ⟨r, rfl, hr⟩ := list_of (fun x hx => chg_of (hl x hx))
  exact ⟨r, rfl, hr⟩
theorem str_of {ds : List D} (h : Ty.str.ok ds) : ∃ s : List UInt8, ds = [.str s] ∧ s.length ≤ 140737488351232 := by
  simp only [Ty.ok] at h
  exact h
end Go.Am
namespace Go.Am
open Go
theorem kept_frame {w w' : World} (h : Kept (fun _ => False) w w') (may : MemPlace → Prop) : w.keptBut w' may := by
  refine ⟨h.os, h.output, fun i hi => ?_⟩
  rw [h.block i hi (fun h => h)]
  cases w.heap[i]? with
  | none => rfl
  | some o => cases o <;> first | exact ⟨rfl, rfl, rfl, fun _ _ => rfl⟩ | exact .inr ⟨rfl, rfl⟩ | rfl
theorem back_mono {R R' : Value → World → Prop} (h : ∀ v w, R v w → R' v w) : ∀ e w, back R e w → ∃ v, e = .returned v ∧ R' v w := by
  intro e w hb
  cases e with
  | returned v => exact ⟨v, rfl, h v w hb⟩
  | _ => exact hb.elim
theorem back_bool {w : World} {A : Nat → Prop} {b : Bool} {v : Value} (h : RepDV w A (.c (.bool b)) v) : v = .bool b := by
  cases h with
  | c _ _ h => cases h; rfl
/-- The cells that a datum lays. -/
def vOf : Nat → DataW Unit → List Value
  | 0, _ => []
  | n + 1, x => match x with
    | .lit (.int k m) => [.int k m]
    | .lit (.string s) => [.string ⟨s.toArray⟩]
    | .lit (.bool b) => [.bool b]
    | .agg xs => xs.flatMap (vOf n)
    | _ => []
open Go.Proofs Go.Proofs.YtgbefhljbdjncaaDoor
/-- A world in which the listed variables hold what the row says. -/
noncomputable def laidWorld (os : Os) : World :=
  let w0 := World.holding Tryd.prog os ⟨#[], #[], []⟩
  let put (h : Array Obj) (g : Nat) (cs : Array Value) : Array Obj := h.modify g fun
    | .cells _ t frozen => .cells cs t frozen
    | o => o
  let h0 := put w0.heap 0 (vOf 8 Rows.laid_tmesis_oper_simples).toArray
  let h1 := put h0 1 (vOf 8 Rows.laid_tmesis_class_members).toArray
  let h2 := put h1 4 (vOf 8 Rows.laid_unicode_utf8_acceptRanges).toArray
  let h3 := put h2 3 (vOf 8 Rows.laid_unicode_utf8_first).toArray
  { w0 with heap := h3 }
theorem maxLen_of {W : World} (h : W.ShapedOpen Tryd.prog) : ∃ m, W.cell? ⟨2, 0, none⟩ = some (.int .i64 m) :=
  cell_of_shapedOpen_int (zero := #[.int .i64 0]) (t := 3) h (of_decide_eq_true (by kernel_rfl)) (by kernel_rfl) rfl (by kernel_rfl) (by kernel_rfl) Tryd.underlying3
theorem gSimples : Tryd.prog.globalNamed "tmesis/oper.simples" = some 0 := by kernel_rfl
theorem gMembers : Tryd.prog.globalNamed "tmesis/class.members" = some 1 := by kernel_rfl
end Go.Am
