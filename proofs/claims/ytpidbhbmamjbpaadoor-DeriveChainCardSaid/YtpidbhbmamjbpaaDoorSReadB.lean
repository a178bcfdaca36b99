/-
  Data of some types: two bytes.
-/
import Derived.Test.YtpidbhbmamjbpaaDoorSRead2
import Derived.Test.YtpidbhbmamjbpaaDoorSQU
import Derived.ChangeArms
namespace Go.Am
open Go
inductive Ty where
  | int (k : IntKind)
  | bool
  | str
  | slice (sz : Nat) (e : Ty)
  | tup (ts : List Ty)
mutual
def Ty.ok : Ty → List D → Prop
  | .int k, ds => ∃ n : Int, ds = [.int k n] ∧ (Lit.int k n).wf = true
  | .bool, ds => ∃ b : Bool, ds = [.bool b]
  | .str, ds => ∃ s : List UInt8, ds = [.str s] ∧ s.length ≤ 140737488351232
  | .slice sz e, ds => ∃ l : List (List D), ds = [.list sz l] ∧ ∀ x ∈ l, e.ok x
  | .tup ts, ds => Ty.oks ts ds
def Ty.oks : List Ty → List D → Prop
  | [], ds => ds = []
  | t :: ts, ds => ∃ a b, ds = a ++ b ∧ t.ok a ∧ Ty.oks ts b
end
def tyAll (r : TypeId → Option Ty) : List Field → Option (List Ty)
  | [] => some []
  | f :: fs => match r f.type, tyAll r fs with | some t, some ts => some (t :: ts) | _, _ => none
def offOk (P : Program) (total : Nat) : Nat → List Field → Bool
  | o, [] => o == total
  | o, f :: fs => f.offset == o && offOk P total (o + P.cellsOf f.type) fs
def tyOf (P : Program) : Nat → TypeId → Option Ty
  | 0, _ => none
  | n + 1, t => match P.underlying t with
    | some .bool => some .bool
    | some (.int k) => some (.int k)
    | some .string => some .str
    | some (.slice e) => if 0 < P.cellsOf e then (match tyOf P n e with | some τ => some (.slice (P.cellsOf e) τ) | none => none) else none
    | some (.struct fs) => (match tyAll (tyOf P n) fs.toList with | some ts => if offOk P (P.cellsOf t) 0 fs.toList = true then some (.tup ts) else none | none => none)
    | some (.array m e) => if P.cellsOf t = m * P.cellsOf e then (match tyOf P n e with | some τ => some (.tup (repl m τ)) | none => none) else none
    | _ => none
section
variable {H : Type} {enc : TypeId × Value → H} {P : Program} {w : World} {base : Nat} {sp : Nat → Bool} {held : Bool}
theorem weightsAll_mem {e : TypeId} {d : DataW H} {b : Nat} : ∀ {l : List (DataW H)}, d ∈ l → b ∈ DataW.weights P e d → b ∈ DataW.weightsAll P e l
  | [], h, _ => by cases h
  | x :: r, h, hb => by
    simp only [DataW.weightsAll, List.mem_append]
    rcases List.mem_cons.1 h with rfl | h
    · exact .inl hb
    · exact .inr (weightsAll_mem h hb)
theorem dAll_some {r : DataW H → Option (List D)} {Q : List D → Prop} : ∀ {xs : List (DataW H)}, (∀ x ∈ xs, ∃ a, r x = some a ∧ Q a) → ∃ l, dAll r xs = some l ∧ ∀ a ∈ l, Q a
  | [], _ => ⟨[], rfl, fun a h => by cases h⟩
  | x :: xs, h => by
    obtain ⟨a, h1, h2⟩ := h x (by simp)
    obtain ⟨l, h3, h4⟩ := dAll_some (xs := xs) (fun y hy => h y (by simp [hy]))
    refine ⟨a :: l, by simp only [dAll, h1, h3], fun y hy => ?_⟩
    rcases List.mem_cons.1 hy with rfl | hy
    · exact h2
    · exact h4 y hy
theorem oks_repl {τ : Ty} : ∀ {l : List (List D)}, (∀ a ∈ l, τ.ok a) → Ty.oks (repl l.length τ) l.flatten
  | [], _ => by simp only [List.length_nil, repl, Ty.oks, List.flatten_nil]
  | a :: l, h => by
    simp only [List.length_cons, repl, Ty.oks, List.flatten_cons]
    exact ⟨a, l.flatten, rfl, h a (by simp), oks_repl fun b hb => h b (by simp [hb])⟩
theorem read_ok : ∀ (k n : Nat) (t : TypeId) (cs : List Value) (x : DataW H) (p : List MemPlace) (τ : Ty), DataW.trod enc P w base sp held n t cs = some (x, p) → tyOf P k t = some τ → (∀ b ∈ DataW.weights P t x, b ≤ reachBytes) → ∃ ds, dOf P k t x = some ds ∧ τ.ok ds
  | 0, _, _, _, _, _, _, _, h, _ => by cases h
  | k + 1, n, t, cs, x, p, τ, h, hτ, hb => by
    have ih := read_ok k
    unfold tyOf at hτ
    split at hτ
    · rename_i ht
      cases hτ
      obtain ⟨b, rfl, hx⟩ := DataW.trod_bool ht h
      cases hx
      exact ⟨[.bool b], by simp only [dOf, ht], by simp only [Ty.ok]; exact ⟨b, rfl⟩⟩
    · rename_i k' ht
      cases hτ
      obtain ⟨m, rfl, hx, hw⟩ := DataW.trod_int ht h
      cases hx
      exact ⟨[.int k' m], by simp only [dOf, ht], by simp only [Ty.ok]; exact ⟨m, rfl, hw⟩⟩
    · rename_i ht
      cases hτ
      obtain ⟨s, rfl, hx, hs⟩ := DataW.trod_string ht h
      cases hx
      refine ⟨[.str s.data.toList], by simp only [dOf, ht], ?_⟩
      simp only [Ty.ok]
      refine ⟨_, rfl, ?_⟩
      exact hb _ (by simp only [DataW.weights, List.mem_singleton])
    · rename_i e ht
      split at hτ
      · rename_i hc0
        split at hτ
        · rename_i τ' hτ'
          cases hτ
          rcases Go.Deep.open_slice ht h with ⟨_, hx⟩ | ⟨a, len, cap, m, q, D', Pl, _, _, hlc, _, hm, hx, hel⟩
          · cases hx
            refine ⟨[.list (P.cellsOf e) []], by simp only [dOf, ht], ?_⟩
            simp only [Ty.ok]
            exact ⟨[], rfl, fun x h => by cases h⟩
          · simp only [Prod.mk.injEq] at hx
            obtain ⟨rfl, _⟩ := hx
            have hlm : len ≤ m := by rw [hm]; split <;> omega
            obtain ⟨l, h1, h2⟩ := dAll_some (r := dOf P k e) (Q := τ'.ok) (xs := (List.range len).map D') (by
              intro y hy
              obtain ⟨i, hi, rfl⟩ := List.mem_map.1 hy
              have hil : i < len := by simpa using hi
              obtain ⟨cs', _, h3⟩ := hel i (by omega)
              refine ih q e cs' (D' i) (Pl i) τ' h3 hτ' (fun b hb' => hb b ?_)
              simp only [DataW.weights, ht, List.mem_cons, List.mem_append]
              exact .inr (.inl (weightsAll_mem hy hb')))
            refine ⟨[.list (P.cellsOf e) l], by simp only [dOf, ht, if_pos hc0, h1], ?_⟩
            simp only [Ty.ok]
            exact ⟨l, rfl, h2⟩
        · cases hτ
      · cases hτ
    · rename_i fs ht
      split at hτ
      · rename_i ts hts
        split at hτ
        · rename_i hoff
          cases hτ
          obtain ⟨ys, m, _, hx, hl, hlen, hf⟩ := DataW.trod_struct ht h
          cases hx
          have key : ∀ (fl : List Field) (yl : List (DataW H × List MemPlace)) (o : Nat) (ts : List Ty), fl.length = yl.length → (∀ (i : Nat) (f : Field), fl[i]? = some f → DataW.trod enc P w base sp held m f.type ((cs.drop f.offset).take (P.cellsOf f.type)) = yl[i]?) →
              (∀ b ∈ DataW.weightsEach P (fl.map (·.type)) (yl.map (·.1)), b ≤ reachBytes) → tyAll (tyOf P k) fl = some ts → offOk P (P.cellsOf t) o fl = true → ∃ ds, dFields P (P.cellsOf t) (dOf P k) o fl (yl.map (·.1)) = some ds ∧ Ty.oks ts ds := by
            intro fl
            induction fl with
            | nil =>
              intro yl o ts hlen _ _ h1 h2
              cases yl with
              | nil =>
                cases h1
                simp only [offOk, beq_iff_eq] at h2
                refine ⟨[], by simp only [List.map_nil, dFields, if_pos h2], by simp only [Ty.oks]⟩
              | cons y yl => simp at hlen
            | cons f fl ihf =>
              intro yl o ts hlen hget hwt h1 h2
              cases yl with
              | nil => simp at hlen
              | cons y yl =>
                simp only [tyAll] at h1
                split at h1
                · rename_i t0 ts0 e1 e2
                  cases h1
                  simp only [offOk, Bool.and_eq_true, beq_iff_eq] at h2
                  obtain ⟨ho, h2⟩ := h2
                  have h0 := hget 0 f rfl
                  simp only [List.getElem?_cons_zero] at h0
                  simp only [List.map_cons, DataW.weightsEach, List.mem_append] at hwt
                  obtain ⟨a, ha1, ha2⟩ := ih m f.type _ y.1 y.2 t0 h0 e1 (fun b hb => hwt b (.inl hb))
                  obtain ⟨b, hb1, hb2⟩ := ihf yl (o + P.cellsOf f.type) ts0 (by simpa using hlen) (fun i g hg => by simpa using hget (i + 1) g (by simpa using hg)) (fun b hb => hwt b (.inr hb)) e2 h2
                  refine ⟨a ++ b, by simp only [List.map_cons, dFields, if_pos ho, ha1, hb1], ?_⟩
                  simp only [Ty.oks]
                  exact ⟨a, b, rfl, ha2, hb2⟩
                · cases h1
          obtain ⟨ds, h1, h2⟩ := key fs.toList ys 0 ts (by simpa using hlen.symm) (fun i f hf' => by simpa using hf i f (by simpa using hf')) (fun b hb' => hb b (by simp only [DataW.weights, ht]; exact hb')) hts hoff
          refine ⟨ds, by simp only [dOf, ht]; exact h1, ?_⟩
          simp only [Ty.ok]
          exact h2
        · cases hτ
      · cases hτ
    · rename_i m e ht
      split at hτ
      · rename_i hc
        split at hτ
        · rename_i τ' hτ'
          cases hτ
          obtain ⟨ys, q, _, hx, hl, hlen, hel⟩ := DataW.trod_array ht h
          cases hx
          obtain ⟨l, h1, h2⟩ := dAll_some (r := dOf P k e) (Q := τ'.ok) (xs := ys.map (·.1)) (by
            intro y hy
            obtain ⟨z, hz, rfl⟩ := List.mem_map.1 hy
            obtain ⟨i, hi⟩ := List.getElem?_of_mem hz
            have hil : i < ys.length := (List.getElem?_eq_some_iff.1 hi).1
            have h3 := hel i (by omega)
            rw [hi] at h3
            refine ih q e _ z.1 z.2 τ' h3 hτ' (fun b hb' => hb b ?_)
            simp only [DataW.weights, ht]
            exact weightsAll_mem hy hb')
          refine ⟨l.flatten, by simp only [dOf, ht, if_pos hc, h1], ?_⟩
          simp only [Ty.ok]
          have hll : l.length = m := by rw [dAll_len h1]; simpa using hlen
          rw [← hll]
          exact oks_repl h2
        · cases hτ
      · cases hτ
    · cases hτ
theorem arg_rep (k : Nat) {n : Nat} {t : TypeId} {cs : List Value} {x : DataW H} {p : List MemPlace} {τ : Ty} (h : DataW.trod enc P w base sp held n t cs = some (x, p)) (hτ : tyOf P k t = some τ) (hb : ∀ b ∈ DataW.weights P t x, b ≤ reachBytes) : ∃ ds, τ.ok ds ∧ RepL w (fun _ => False) ds cs := by
  obtain ⟨ds, h1, h2⟩ := read_ok k n t cs x p τ h hτ hb
  exact ⟨ds, h2, trod_rep (A := fun _ => False) (fun _ h => h) k n t cs x p ds h h1⟩
end
theorem rep_agg {w : World} {A : Nat → Prop} {ds : List D} {cs : Array Value} (h : RepL w A ds cs.toList) : RepDV w A (.agg ds) (.agg cs) := by
  have h2 : RepDV w A (.agg ds) (.agg cs.toList.toArray) := .agg ds cs.toList h.len.symm (fun i d v hd hv => by
    obtain ⟨v', h3, h4⟩ := h.get hd
    obtain rfl := Option.some.inj (h3.symm.trans hv)
    exact h4)
  simpa using h2
end Go.Am
namespace Go.Am
open Go
theorem u8w_of {n : Int} (h : (Lit.int .u8 n).wf = true) : ∃ k : Nat, n = (k : Int) ∧ k < 256 := by
  simp [Lit.wf, IntKind.min, IntKind.max, IntKind.signed, IntKind.bits] at h
  exact ⟨n.toNat, by omega, by omega⟩
end Go.Am
namespace Go.Am
open Go
theorem u8x2_is {ds : List D} (h : (Ty.tup [.int .u8, .int .u8]).ok ds) : ∃ a b : Nat, ds = [.int .u8 (a : Int), .int .u8 (b : Int)] ∧ a < 256 ∧ b < 256 := by
  simp only [Ty.ok, Ty.oks] at h
  obtain ⟨_, _, rfl, ⟨n, rfl, hn⟩, _, _, rfl, ⟨k, rfl, hk⟩, rfl⟩ := h
  obtain ⟨n, rfl, hn2⟩ := u8w_of hn
  obtain ⟨k, rfl, hk2⟩ := u8w_of hk
  exact ⟨n, k, rfl, hn2, hk2⟩
end Go.Am
