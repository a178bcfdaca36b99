/-
  ShapeMade: of all bytes and ends the law's function comes to true and leaves its arguments as they were. Conditions: class.members, utf8.first and utf8.acceptRanges hold what the program's text lays (the card ties that); of internal/bytealg.MaxLen nothing is asked.
-/
import Derived.Test.YtgbefhljbdjncaaDoorMD
import Derived.OpenShut
import Derived.Deep.Slices
import Derived.ChangeShapes
import Derived.Test.YtgbefhljbdjncaaDoorRows
import Derived.Lib.LaidIn
import Derived.Deep.DeepHandedRow
import Derived.Deep.DeepWitnessRowRef
import Derived.ProofKit
import Derived.SizedLaws
import Derived.Shelf.Vars
import Derived.KernelRfl
import Derived.Test.YtgbefhljbdjncaaDoorMN
import Derived.Test.YtgbefhljbdjncaaDoorTie
import Derived.Test.YtgbefhljbdjncaaDoorCards
import Derived.JoinedCond
import Derived.MakeChecks
import Derived.SevenTiedAt
namespace Go.Am
open Go
section
variable {H : Type}
def dAll (r : DataW H → Option (List D)) : List (DataW H) → Option (List (List D))
  | [] => some []
  | x :: xs => match r x, dAll r xs with | some a, some l => some (a :: l) | _, _ => none
def dFields (P : Program) (total : Nat) (r : TypeId → DataW H → Option (List D)) : Nat → List Field → List (DataW H) → Option (List D)
  | o, [], [] => if o = total then some [] else none
  | o, f :: fs, x :: xs => if f.offset = o then (match r f.type x, dFields P total r (o + P.cellsOf f.type) fs xs with | some a, some b => some (a ++ b) | _, _ => none) else none
  | _, _, _ => none
def dOf (P : Program) : Nat → TypeId → DataW H → Option (List D)
  | 0, _, _ => none
  | n + 1, t, x => match P.underlying t, x with
    | some .bool, .lit (.bool b) => some [.bool b]
    | some (.int _), .lit (.int k m) => some [.int k m]
    | some .string, .lit (.string s) => some [.str s]
    | some (.slice e), .nil => some [.list (P.cellsOf e) []]
    | some (.slice e), .slice es _ => if 0 < P.cellsOf e then (match dAll (dOf P n e) es with | some l => some [.list (P.cellsOf e) l] | none => none) else none
    | some (.struct fs), .agg xs => dFields P (P.cellsOf t) (dOf P n) 0 fs.toList xs
    | some (.array m e), .agg xs => if P.cellsOf t = m * P.cellsOf e then (match dAll (dOf P n e) xs with | some l => some l.flatten | none => none) else none
    | _, _ => none

inductive RepL (w : World) (A : Nat → Prop) : List D → List Value → Prop
  | nil : RepL w A [] []
  | cons {d : D} {v : Value} {ds : List D} {vs : List Value} (h : RepD w A d v) (t : RepL w A ds vs) : RepL w A (d :: ds) (v :: vs)
theorem RepL.app {w : World} {A : Nat → Prop} {a b : List D} {c d : List Value} (h : RepL w A a c) (k : RepL w A b d) : RepL w A (a ++ b) (c ++ d) := by
  induction h with
  | nil => exact k
  | cons h t ih => exact .cons h ih
theorem RepL.len {w : World} {A : Nat → Prop} {a : List D} {c : List Value} (h : RepL w A a c) : a.length = c.length := by
  induction h with
  | nil => rfl
  | cons h t ih => simp [ih]
theorem RepL.get {w : World} {A : Nat → Prop} {a : List D} {c : List Value} (h : RepL w A a c) {i : Nat} {d : D} (hd : a[i]? = some d) : ∃ v, c[i]? = some v ∧ RepD w A d v := by
  induction h generalizing i with
  | nil => simp at hd
  | cons h t ih =>
    cases i with
    | zero => simp at hd; subst hd; exact ⟨_, rfl, h⟩
    | succ i => simpa using ih (by simpa using hd)

variable {enc : TypeId × Value → H} {P : Program} {w : World} {base : Nat} {sp : Nat → Bool} {held : Bool} {A : Nat → Prop}
theorem dAll_len {r : DataW H → Option (List D)} : ∀ {xs : List (DataW H)} {l : List (List D)}, dAll r xs = some l → l.length = xs.length
  | [], l, h => by cases h; rfl
  | x :: xs, l, h => by
    simp only [dAll] at h
    split at h
    · rename_i a b ha hb
      cases h
      simp [dAll_len hb]
    · cases h
theorem dAll_get {r : DataW H → Option (List D)} : ∀ {xs : List (DataW H)} {l : List (List D)}, dAll r xs = some l → ∀ {i : Nat} {x : DataW H}, xs[i]? = some x → ∃ a, l[i]? = some a ∧ r x = some a
  | [], l, h, i, x, hx => by simp at hx
  | y :: xs, l, h, i, x, hx => by
    simp only [dAll] at h
    split at h
    · rename_i a b ha hb
      cases h
      cases i with
      | zero => simp at hx; subst hx; exact ⟨a, rfl, ha⟩
      | succ i => simpa using dAll_get hb (by simpa using hx)
    · cases h
theorem trod_rep (hA : ∀ b, ¬ A b) : ∀ (k n : Nat) (t : TypeId) (cs : List Value) (x : DataW H) (p : List MemPlace) (ds : List D), DataW.trod enc P w base sp held n t cs = some (x, p) → dOf P k t x = some ds → RepL w A ds cs
  | 0, _, _, _, _, _, _, _, h => by cases h
  | k + 1, n, t, cs, x, p, ds, h, hd => by
    have ih := trod_rep hA k
    unfold dOf at hd
    split at hd
    · rename_i b ht
      cases n with
      | zero => cases h
      | succ n =>
        unfold DataW.trod at h
        rw [ht] at h
        split at h <;> simp_all
        obtain ⟨rfl, _⟩ := h
        subst hd
        exact .cons (.bool _) .nil
    · rename_i k' k2 m ht
      obtain ⟨m', rfl, hx, _⟩ := DataW.trod_int ht h
      cases hx
      cases hd
      exact .cons (.int _ _) .nil
    · rename_i s ht
      obtain ⟨s', rfl, hx, _⟩ := DataW.trod_string ht h
      cases hx
      cases hd
      have : s' = ⟨⟨s'.data.toList⟩⟩ := by cases s'; simp
      refine .cons ?_ .nil
      conv => rhs; rw [this]
      exact .str _
    · rename_i e ht
      rcases Go.Deep.open_slice ht h with ⟨rfl, _⟩ | ⟨a, len, cap, m, q, D', Pl, _, _, _, _, _, hx, _⟩
      · cases hd
        exact .cons (.nil _ _ _) .nil
      · cases hx
    · rename_i e es sps ht
      rcases Go.Deep.open_slice ht h with ⟨_, hx⟩ | ⟨a, len, cap, m, q, D', Pl, rfl, _, hlc, _, hm, hx, hel⟩
      · cases hx
      · simp only [Prod.mk.injEq, DataW.slice.injEq] at hx
        obtain ⟨⟨rfl, _⟩, _⟩ := hx
        split at hd
        · rename_i hc0
          split at hd
          · rename_i l hal
            cases hd
            have hll : l.length = len := by rw [dAll_len hal]; simp
            have hlm : len ≤ m := by rw [hm]; split <;> omega
            refine .cons ?_ .nil
            by_cases h0 : len = 0
            · subst h0
              have : l = [] := List.length_eq_zero_iff.1 hll
              subst this
              exact .nil _ _ _
            · have hi : ∀ i, i < len → ∃ (cs' : List Value) (d : List D), l[i]? = some d ∧ RepL w A d cs' ∧ cs'.length = P.cellsOf e ∧ ∀ j, j < P.cellsOf e → w.cell? ((a.add (i * P.cellsOf e)).add j) = cs'[j]? := by
                intro i hi
                obtain ⟨cs', h1, h2⟩ := hel i (by omega)
                obtain ⟨d, hd1, hd2⟩ := dAll_get hal (i := i) (x := D' i) (by simp [hi])
                obtain ⟨_, h3, h4⟩ := World.cells?_some h1
                exact ⟨cs', d, hd1, ih q e cs' (D' i) (Pl i) d h2 hd2, h3, h4⟩
              obtain ⟨b, off, spot⟩ := a
              have hspot : spot = none := by
                obtain ⟨cs', d, _, _, h3, h4⟩ := hi 0 (by omega)
                have g0 := h4 0 hc0
                rw [List.getElem?_eq_getElem (by omega)] at g0
                simpa [Addr.add] using World.cell?_spot g0
              subst hspot
              have hcell : ∀ i, i < len → ∃ (cs' : List Value) (d : List D), l[i]? = some d ∧ RepL w A d cs' ∧ d.length = P.cellsOf e ∧ ∀ j, j < P.cellsOf e → cellAt w b (off + (i * P.cellsOf e + j)) = cs'[j]? := by
                intro i hil
                obtain ⟨cs', d, h1, h2, h3, h4⟩ := hi i hil
                refine ⟨cs', d, h1, h2, by rw [h2.len, h3], fun j hj => ?_⟩
                have := h4 j hj
                rw [Go.WideShapes.add_plain, Go.WideShapes.add_plain] at this
                unfold cellAt
                rw [← this, Nat.add_assoc]
              have hsz : ∀ x ∈ l, x.length = P.cellsOf e := by
                intro x hx
                obtain ⟨i, hi1⟩ := List.mem_iff_getElem?.1 hx
                have hil := (List.getElem?_eq_some_iff.1 hi1).1
                obtain ⟨cs', d, h1, _, h3, _⟩ := hcell i (by omega)
                have := Option.some.inj (hi1.symm.trans h1)
                rw [this, h3]
              have key : ∀ j, j < len * P.cellsOf e → ∃ v d, cellAt w b (off + j) = some v ∧ l.flatten[j]? = some d ∧ RepD w A d v := by
                intro j hj
                have hdiv : j / P.cellsOf e < len := Nat.div_lt_of_lt_mul (by rw [Nat.mul_comm]; exact hj)
                have hmod : j % P.cellsOf e < P.cellsOf e := Nat.mod_lt _ hc0
                have hjj : j / P.cellsOf e * P.cellsOf e + j % P.cellsOf e = j := by rw [Nat.mul_comm]; exact Nat.div_add_mod j _
                obtain ⟨cs', d, h1, h2, h3, h4⟩ := hcell _ hdiv
                have hd := List.getElem?_eq_getElem (l := d) (show j % P.cellsOf e < d.length by omega)
                obtain ⟨v, hv, hrep⟩ := h2.get hd
                have h5 := h4 _ hmod
                rw [hjj, hv] at h5
                have h6 := flat_get hsz h1 hd
                rw [hjj] at h6
                exact ⟨v, _, h5, h6, hrep⟩
              rw [← hll]
              refine .list (P.cellsOf e) l b off cap (fun j => (cellAt w b (off + j)).getD undef) (by omega) hc0 hsz (by omega) (hA b) ?_ ?_
              · intro j hj
                obtain ⟨v, d, h1, _⟩ := key j (by rw [← hll]; exact hj)
                rw [h1]
                rfl
              · intro j d hd
                have hj : j < len * P.cellsOf e := by
                  have := (List.getElem?_eq_some_iff.1 hd).1
                  rw [flat_length hsz, hll] at this
                  exact this
                obtain ⟨v, d', h1, h2, h3⟩ := key j hj
                have := Option.some.inj (hd.symm.trans h2)
                subst this
                rw [h1]
                exact h3
          · cases hd
        · cases hd
    · rename_i fs xs ht
      obtain ⟨ys, m, _, hx, hl, hlen, hf⟩ := DataW.trod_struct ht h
      cases hx
      have key : ∀ (fl : List Field) (yl : List (DataW H × List MemPlace)) (o : Nat) (ds : List D), fl.length = yl.length → (∀ (i : Nat) (f : Field), fl[i]? = some f → DataW.trod enc P w base sp held m f.type ((cs.drop f.offset).take (P.cellsOf f.type)) = yl[i]?) →
          dFields P (P.cellsOf t) (dOf P k) o fl (yl.map (·.1)) = some ds → RepL w A ds (cs.drop o) := by
        intro fl
        induction fl with
        | nil =>
          intro yl o ds hlen _ hd
          cases yl with
          | nil =>
            simp only [List.map_nil, dFields] at hd
            split at hd
            · rename_i ho
              cases hd
              rw [List.drop_eq_nil_of_le (by omega)]
              exact .nil
            · cases hd
          | cons y yl => simp at hlen
        | cons f fl ihf =>
          intro yl o ds hlen hget hd
          cases yl with
          | nil => simp at hlen
          | cons y yl =>
            simp only [List.map_cons, dFields] at hd
            split at hd
            · rename_i ho
              split at hd
              · rename_i a b ha hb
                cases hd
                have h0 := hget 0 f rfl
                simp only [List.getElem?_cons_zero] at h0
                have h1 := ih m f.type _ y.1 y.2 a h0 ha
                have h2 := ihf yl (o + P.cellsOf f.type) b (by simpa using hlen) (fun i g hg => by simpa using hget (i + 1) g (by simpa using hg)) hb
                have e : cs.drop o = (cs.drop o).take (P.cellsOf f.type) ++ cs.drop (o + P.cellsOf f.type) := by
                  rw [← List.drop_drop, List.take_append_drop]
                rw [e]
                rw [ho] at h1
                exact h1.app h2
              · cases hd
            · cases hd
      have := key fs.toList ys 0 ds (by simpa using hlen.symm) (fun i f hf' => by simpa using hf i f (by simpa using hf')) hd
      simpa using this
    · rename_i m e xs ht
      obtain ⟨ys, q, _, hx, hl, hlen, hel⟩ := DataW.trod_array ht h
      cases hx
      split at hd
      · rename_i hc
        split at hd
        · rename_i l hal
          cases hd
          have key : ∀ (yl : List (DataW H × List MemPlace)) (i : Nat) (l : List (List D)), i + yl.length = m → (∀ (j : Nat), j < yl.length → DataW.trod enc P w base sp held q e ((cs.drop ((i + j) * P.cellsOf e)).take (P.cellsOf e)) = yl[j]?) →
              dAll (dOf P k e) (yl.map (·.1)) = some l → RepL w A l.flatten (cs.drop (i * P.cellsOf e)) := by
            intro yl
            induction yl with
            | nil =>
              intro i l hi _ hd
              cases hd
              have hi' : i = m := by simpa using hi
              rw [List.drop_eq_nil_of_le (by rw [hl, hc, hi']; exact Nat.le_refl _)]
              exact .nil
            | cons y yl ihy =>
              intro i l hi hget hd
              simp only [List.map_cons, dAll] at hd
              split at hd
              · rename_i a b ha hb
                cases hd
                have h0 := hget 0 (by simp)
                simp only [Nat.add_zero, List.getElem?_cons_zero] at h0
                have h1 := ih q e _ y.1 y.2 a h0 ha
                have h2 := ihy (i + 1) b (by simp at hi; omega) (fun j hj => by
                  have := hget (j + 1) (by simp; omega)
                  simpa [Nat.add_assoc, Nat.add_comm 1 j] using this) hb
                have e2 : cs.drop (i * P.cellsOf e) = (cs.drop (i * P.cellsOf e)).take (P.cellsOf e) ++ cs.drop ((i + 1) * P.cellsOf e) := by
                  rw [Nat.succ_mul, ← List.drop_drop, List.take_append_drop]
                rw [e2, List.flatten_cons]
                exact h1.app h2
              · cases hd
          have := key ys 0 l (by simpa using hlen) (fun j hj => by
            have := hel j (by omega)
            simpa using this) hal
          simpa using this
        · cases hd
      · cases hd
    · cases hd
end
theorem dAll_map {H : Type} {ι : Type} {r : DataW H → Option (List D)} {f : ι → DataW H} {g : ι → List D} : ∀ (l : List ι), (∀ x ∈ l, r (f x) = some (g x)) → dAll r (l.map f) = some (l.map g)
  | [], _ => rfl
  | a :: l, h => by
    simp only [List.map_cons, dAll, h a (by simp), dAll_map l (fun x hx => h x (by simp [hx]))]
/-- What is read of a slice of bytes. -/
theorem bytes_read {H : Type} {enc : TypeId × Value → H} {P : Program} {w : World} {base : Nat} {sp : Nat → Bool} {held : Bool} {t e : TypeId} {n : Nat} {cs : List Value} {x : DataW H} {p : List MemPlace} (ht : P.underlying t = some (.slice e)) (he : P.underlying e = some (.int .u8)) (hc : P.cellsOf e = 1)
    (h : DataW.trod enc P w base sp held n t cs = some (x, p)) (k : Nat) : ∃ s : List UInt8, dOf P (k + 2) t x = some [.list 1 (encB s)] := by
  rcases Go.Deep.open_slice ht h with ⟨_, hx⟩ | ⟨a, len, cap, m, q, D', Pl, _, _, hlc, _, hm, hx, hel⟩
  · cases hx
    refine ⟨[], ?_⟩
    simp only [dOf, ht, hc]
    rfl
  · simp only [Prod.mk.injEq] at hx
    obtain ⟨rfl, _⟩ := hx
    have hlm : len ≤ m := by rw [hm]; split <;> omega
    have hb : ∀ i, i < len → ∃ c : UInt8, D' i = .lit (.int .u8 c.toNat) := by
      intro i hi
      obtain ⟨cs', _, h2⟩ := hel i (by omega)
      obtain ⟨v, _, h3, hw⟩ := DataW.trod_int he h2
      simp only [Prod.mk.injEq] at h3
      have hb : 0 ≤ v ∧ v < 256 := by
        simp [Lit.wf, IntKind.min, IntKind.max, IntKind.signed, IntKind.bits] at hw
        omega
      refine ⟨UInt8.ofNat v.toNat, ?_⟩
      rw [h3.1]
      have : ((UInt8.ofNat v.toNat).toNat : Int) = v := by rw [UInt8.toNat_ofNat']; omega
      rw [this]
    obtain ⟨f, hf⟩ : ∃ f : Nat → UInt8, ∀ i, i < len → D' i = .lit (.int .u8 (f i).toNat) := by
      refine ⟨fun i => if hi : i < len then Classical.choose (hb i hi) else 0, fun i hi => ?_⟩
      simp only [dif_pos hi]
      exact Classical.choose_spec (hb i hi)
    refine ⟨(List.range len).map f, ?_⟩
    have hd : dAll (dOf P (k + 1) e) ((List.range len).map D') = some ((List.range len).map fun i => [D.int .u8 ((f i).toNat : Nat)]) := by
      refine dAll_map _ fun i hi => ?_
      rw [hf i (by simpa using hi)]
      simp only [dOf, he]
    have e0 : dOf P (k + 2) t (.slice ((List.range len).map D') ((List.range (m - len)).map fun j => D' (len + j))) = (if 0 < P.cellsOf e then (match dAll (dOf P (k + 1) e) ((List.range len).map D') with | some l => some [.list (P.cellsOf e) l] | none => none) else none) := by
      simp only [dOf, ht]
    rw [e0, hd, hc]
    simp [encB]
/-- A package-level variable that holds such data. -/
theorem glob_of_laid {P : Program} {W : World} {n : String} {d : DataW Unit} {g : Nat} {t : TypeId} {k : Nat} {ds : List D} (hg : P.globalNamed n = some g) (ht : (P.globals[g]?).map (·.type) = some t) (hd : dOf P k t d = some ds)
    (h : ∃ (g' : Nat) (t' : TypeId) (cs : Array Value) (fuel : Nat) (p : List MemPlace), P.globalNamed n = some g' ∧ (P.globals[g']?).map (·.type) = some t' ∧ W.var? P n = some cs ∧ DataW.trod (fun _ => ()) P W 0 (fun _ => true) false fuel t' cs.toList = some (d, p)) :
    RepC ⟨W, fun _ => False, fun _ => undef, [], 0⟩ (.lptr ds 0) (.pointer (some ⟨g, 0, none⟩)) := by
  obtain ⟨g', t', cs, fuel, p, h1, h2, h3, h4⟩ := h
  obtain rfl := Option.some.inj (hg.symm.trans h1)
  obtain rfl := Option.some.inj (ht.symm.trans h2)
  have hr := trod_rep (A := fun _ => False) (fun _ h => h) k fuel t cs.toList d p ds h4 hd
  have hcell := World.var?_cell hg h3
  refine .lptr ds 0 g 0 (fun i => cs.toList.getD i undef) (fun _ h => h) ?_ ?_
  · intro i hi
    obtain ⟨v, hv, _⟩ := hr.get (List.getElem?_eq_getElem hi)
    have e : cs[i]? = some v := by simpa using hv
    unfold cellAt
    rw [Nat.zero_add, hcell i, e]
    simp [hv]
  · intro i d hd'
    obtain ⟨v, hv, hrep⟩ := hr.get hd'
    have : cs.toList.getD i undef = v := by simp [List.getD, hv]
    rw [this]
    exact hrep
end Go.Am
namespace Go.Am
open Go
theorem kept_frame {w w' : World} (h : Kept (fun _ => False) w w') (may : MemPlace → Prop) : w.keptBut w' may := by
  refine ⟨h.os, h.output, fun i hi => ?_⟩
  rw [h.block i hi (fun h => h)]
  cases w.heap[i]? with
  | none => rfl
  | some o => cases o <;> first | exact ⟨rfl, rfl, rfl, fun _ _ => rfl⟩ | exact .inr ⟨rfl, rfl⟩ | rfl
theorem back_mono {R R' : Value → World → Prop} (h : ∀ v w, R v w → R' v w) : ∀ e w, back R e w → ∃ v, e = .returned v ∧ R' v w := by
  intro e w hb
  cases e with
  | returned v => exact ⟨v, rfl, h v w hb⟩
  | _ => exact hb.elim
theorem back_bool {w : World} {A : Nat → Prop} {b : Bool} {v : Value} (h : RepDV w A (.c (.bool b)) v) : v = .bool b := by
  cases h with
  | c _ _ h => cases h; rfl
/-- The cells that a datum lays. -/
def vOf : Nat → DataW Unit → List Value
  | 0, _ => []
  | n + 1, x => match x with
    | .lit (.int k m) => [.int k m]
    | .lit (.string s) => [.string ⟨s.toArray⟩]
    | .lit (.bool b) => [.bool b]
    | .agg xs => xs.flatMap (vOf n)
    | _ => []
open Go.Proofs Go.Proofs.YtgbefhljbdjncaaDoor
/-- A world in which the listed variables hold what the row says. -/
noncomputable def laidWorld (os : Os) : World :=
  let w0 := World.holding Tryd.prog os ⟨#[], #[], []⟩
  let put (h : Array Obj) (g : Nat) (cs : Array Value) : Array Obj := h.modify g fun
    | .cells _ t frozen => .cells cs t frozen
    | o => o
  let h0 := put w0.heap 0 (vOf 8 Rows.laid_tmesis_oper_simples).toArray
  let h1 := put h0 1 (vOf 8 Rows.laid_tmesis_class_members).toArray
  let h2 := put h1 4 (vOf 8 Rows.laid_unicode_utf8_acceptRanges).toArray
  let h3 := put h2 3 (vOf 8 Rows.laid_unicode_utf8_first).toArray
  { w0 with heap := h3 }
theorem maxLen_of {W : World} (h : W.ShapedOpen Tryd.prog) : ∃ m, W.cell? ⟨2, 0, none⟩ = some (.int .i64 m) :=
  cell_of_shapedOpen_int (zero := #[.int .i64 0]) (t := 3) h (of_decide_eq_true (by kernel_rfl)) (by kernel_rfl) rfl (by kernel_rfl) (by kernel_rfl) Tryd.underlying3
theorem gSimples : Tryd.prog.globalNamed "tmesis/oper.simples" = some 0 := by kernel_rfl
theorem gMembers : Tryd.prog.globalNamed "tmesis/class.members" = some 1 := by kernel_rfl
end Go.Am
namespace Go.Proofs.YtgbefhljbdjncaaDoor
open Go Go.Am Go.ChangeShapes Go.WideShapes Go.ChangeAt Go.RowKit Go.Lib
open Go.ChangeMaps (open_string shut_string)
theorem laidOut : laidOutB Tryd.prog = true := by kernel_rfl
theorem own : ownKnob Tryd.prog.godebug = none := by kernel_rfl
theorem laidRows_met (os : Os) (args : Array Value) : laidMet Tryd.prog Rows.shapeMadeRow.laid ((laidWorld os).forCall (fun _ _ => 0) ⟨#[], args, []⟩).memory :=
  (LaidIn.of_run (l := Rows.shapeMadeRow.laid) [1, 4, 3] 8 (by kernel_rfl) (by kernel_rfl) (by kernel_rfl) (by kernel_rfl)).met
theorem glob_row {W : World} (hL : laidMetH Tryd.prog Rows.shapeMadeRow.laid W) (hs : W.ShapedOpen Tryd.prog) : ∃ m, GlobOk (glb m) W (fun _ => False) := by
  rw [MakeChecks.laidMetH_plain _ _ _ (by kernel_rfl)] at hL
  obtain ⟨ps, ⟨g, t, cs, fuel, p, q, h1, h2, h3, h4, _, _⟩, _⟩ := hL
  obtain ⟨m, hm⟩ := maxLen_of hs
  refine ⟨m, fun g' ds hg => ?_⟩
  unfold glb at hg
  split at hg
  · rename_i e
    subst e
    cases hg
    exact glob_of_laid (k := 8) (t := 140) gMembers (by kernel_rfl) (by kernel_rfl) ⟨g, t, cs, fuel, p, h1, h2, h3, h4⟩
  · split at hg
    · rename_i e
      subst e
      cases hg
      exact .lptr _ 0 2 0 (fun _ => .int .i64 m) (fun _ h => h) (fun i hi => by
        have : i = 0 := by simpa using hi
        subst this
        exact hm) (fun i d hd => by
        cases i with
        | zero => cases hd; exact .int _ _
        | succ i => simp at hd)
    · cases hg
theorem witness_row_law (os : Os) {H : Type} (enc : TypeId × Value → H) :
    (OpenSpec.ofChange Rows.shapeMadeSpec).preRow enc Tryd.prog Tryd.f12 Rows.shapeMadeRow.domain false Rows.shapeMadeRow.laid ((laidWorld os).forCall (fun _ _ => 0) ⟨#[], #[.slice none 0 0, .bool false, .bool false], []⟩).memory #[.slice none 0 0, .bool false, .bool false] := by
  have hw : (DataW.whole enc Tryd.prog ((laidWorld os).forCall (fun _ _ => 0) ⟨#[], #[.slice none 0 0, .bool false, .bool false], []⟩).memory Tryd.f12.params.toList (OpenSpec.ofChange Rows.shapeMadeSpec).vars false (#[.slice none 0 0, .bool false, .bool false] : Array Value).toList 8).map (fun x => (x.1, x.2.1)) =
      some ([.nil, .lit (.bool false), .lit (.bool false)], []) := by kernel_rfl
  obtain ⟨⟨x1, x2, x3⟩, hx, hx1⟩ := Option.map_eq_some_iff.1 hw
  simp only [Prod.mk.injEq] at hx1
  obtain ⟨rfl, rfl⟩ := hx1
  exact OpenSpec.preRow_of_cond 8 hx (by kernel_rfl) (fun k hk => by cases hk) (by kernel_rfl) (laidRows_met os _)
set_option maxRecDepth 100000 in
set_option maxHeartbeats 2000000 in
theorem law_lifted (os : Os) (started : os.Started) (H : Type) (enc : TypeId × Value → H) (F : Stop.Interp) :
    ReturnsInHanded {} Tryd.checked os 12 .any ((OpenSpec.ofChange Rows.shapeMadeSpec).preRow enc Tryd.prog Tryd.f12 Rows.shapeMadeRow.domain false Rows.shapeMadeRow.laid) (((OpenSpec.ofChange Rows.shapeMadeSpec).at F).post enc Tryd.prog Tryd.f12 false true false false) := by
  refine returnsInHanded_of_row (C := Tryd.checked) (s := OpenSpec.ofChange Rows.shapeMadeSpec) own started (by kernel_rfl) Tryd.func12
    (witness_row_atRef (enc := enc) (C := Tryd.checked) false (laidWorld os) #[.slice none 0 0, .bool false, .bool false] rfl (by kernel_rfl) (by kernel_rfl) (by kernel_rfl) (witness_row_law os enc)) ?_
  intro W base args ds gs before hval0 hW _ _ _ hL hsh _
  have hval : ∀ (j : Nat) t v, Tryd.f12.params[j]? = some t → args[j]? = some v → Value.okWide Tryd.prog W .any base t v := hval0
  have hW' := hW
  obtain ⟨p, q, hA0, hV0, rfl, _, _⟩ := hW
  have hA : DataW.TrodAll enc Tryd.prog W 0 (fun _ => true) true Tryd.f12.params.toList args.toList ds p := hA0
  rw [Tryd.params12] at hA hval
  obtain ⟨v0, v1, v2, d0, d1, d2, p0, p1, p2, rfl, rfl, rfl, h0, h1, h2⟩ := trodAll_three hA
  obtain ⟨rfl, rfl⟩ := trodVars_none hV0
  obtain ⟨x0, y0, z0, rfl⟩ := okWide_slice Tryd.underlying63 (hval 0 63 v0 rfl rfl)
  have k0 := h0
  obtain ⟨n0, hn0⟩ := h0
  obtain ⟨s0, hs0⟩ := bytes_read Tryd.underlying63 Tryd.underlying5 (by kernel_rfl) hn0 6
  have lt0 : ∀ x ∈ p0, x.block < W.heap.size := DataW.trod_lt n0 _ _ _ hn0
  have r0 : RepD W (fun _ => False) (.list 1 (encB s0)) (.slice x0 y0 z0) := by
    have hr := trod_rep (A := fun _ => False) (fun _ h => h) 8 n0 63 _ _ _ _ hn0 hs0
    cases hr with
    | cons h t => exact h
  obtain ⟨a1, rfl, rfl, rfl⟩ := open_bool Tryd.underlying4 (hval 1 4 v1 rfl rfl) h1
  obtain ⟨a2, rfl, rfl, rfl⟩ := open_bool Tryd.underlying4 (hval 2 4 v2 rfl rfl) h2
  clear hA0 hV0 hval0
  obtain ⟨m, hg⟩ := glob_row hL hsh
  have hds : DsRep W (fun _ => False) [.c (.list 1 (encB s0)), .c (.bool a1), .c (.bool a2)] [.slice x0 y0 z0, .bool a1, .bool a2] :=
    DsRep.cons (.c _ _ r0) (DsRep.cons (.c _ _ (.bool _)) (DsRep.cons (.c _ _ (.bool _)) (⟨rfl, by simp⟩)))
  refine ((shapeMade_ok m).run W (fun _ => False) _ _ _ hg (fun _ h => h.elim) hds (show _ = some (DV.c (D.bool true)) by simp [G12, bytesV, bytesOf_back])).mono ?_
  intro e W' hb
  obtain ⟨v, rfl, hk, hv⟩ := back_mono (fun v w h => h) e W' hb
  obtain rfl := back_bool hv
  have bel : Below W.heap.size W W' := ⟨hk.os, hk.tape, hk.output, hk.size, fun b hb => hk.block b hb (fun h => h)⟩
  have e1 : ((OpenSpec.ofChange Rows.shapeMadeSpec).at F).fn H ([d0, .lit (.bool a1), .lit (.bool a2)] ++ []) = { results := [.lit (.bool true)], args := [d0, .lit (.bool a1), .lit (.bool a2)] } := rfl
  refine ⟨_, rfl, _, _, _, [], (p0 ++ ([] ++ [])), [], hW', ?_, ?_, ?_, kept_frame hk _, fun h => by cases h⟩
  · rw [e1]; exact trodAll_mk1 (shut_bool Tryd.underlying4 _)
  · rw [e1]; exact trodAll_mk3 (Below.trod laidOut (by kernel_rfl) (of_decide_eq_true (by kernel_rfl)) k0 bel lt0) (shut_bool Tryd.underlying4 _) (shut_bool Tryd.underlying4 _)
  · rw [e1]; rfl
theorem shapeMade_row : Rows.ShapeMadeSaid :=
  OpenClaim.holds_of_cond 12 Tryd.f12 rfl rfl rfl rfl rfl rfl rfl ⟨rfl, rfl, rfl, rfl, rfl⟩ rfl rfl rfl rfl rfl (by kernel_rfl) Tryd.func12 (by kernel_rfl)
    (of_decide_eq_true (by kernel_rfl)) (by unfold Func.isWrapper; rw [if_neg (of_decide_eq_false (by kernel_rfl))]; exact ⟨rfl, rfl⟩)
    (fun os started H enc _ F0 => by rw [OpenClaim.pre_eq_preRow]; exact law_lifted os started H enc F0)
end Go.Proofs.YtgbefhljbdjncaaDoor
namespace Go.Proofs.YtgbefhljbdjncaaDoor
open Go
theorem shapeMade_card : Rows.ShapeMadeCardSaid :=
  Claim7.holds_tied_plain_at .later [] [.data, .data, .pinned] true (true, "6456cbc1fc1d163e785213f2c915fd981d564623b269f1048007a1a865430f4a") false
    shapeMade_row (fun _ h => by cases h) (by kernel_rfl) (fun _ h => by cases h) shapeMade_row_tie rfl ⟨rfl, rfl⟩ (by kernel_rfl) rfl
    (fun f fn hf hfn => by
      obtain rfl : f = 12 := Option.some.inj ((show Tryd.prog.funcNamed "tmesis/tmesislaw11.ShapeMade" = some 12 by kernel_rfl).symm.trans hf) |>.symm
      obtain rfl : fn = Tryd.f12 := (Option.some.inj (Tryd.func12.symm.trans hfn)).symm
      exact ⟨by kernel_rfl, fun j t ht => by
        rw [Tryd.params12] at ht
        rcases j with _ | _ | _ | j
        · have e : t = 63 := by simpa using ht.symm
          subst e
          exact (show Tryd.prog.wantsStandIn 63 = false by kernel_rfl)
        · have e : t = 4 := by simpa using ht.symm
          subst e
          exact (show Tryd.prog.wantsStandIn 4 = false by kernel_rfl)
        · have e : t = 4 := by simpa using ht.symm
          subst e
          exact (show Tryd.prog.wantsStandIn 4 = false by kernel_rfl)
        · simp at ht⟩)
    (by kernel_rfl)
end Go.Proofs.YtgbefhljbdjncaaDoor
