/-
  slices.Clone and slices.Insert of operators, upon what is owned.
-/
import Derived.Test.YtpidbhbmamjbpaaDoorSWH
namespace Go.Am
open Go
section
variable {X : Cx} {a b c : V} {vs : List Value}
theorem vs_one (h : VsRep X [a] vs) : ∃ v, vs = [v] ∧ RepV X a v := by
  obtain ⟨h1, h2⟩ := h
  match vs, h1 with
  | [v], _ => exact ⟨v, rfl, h2 0 _ _ rfl rfl⟩
theorem vs_three (h : VsRep X [a, b, c] vs) : ∃ u v w, vs = [u, v, w] ∧ RepV X a u ∧ RepV X b v ∧ RepV X c w := by
  obtain ⟨h1, h2⟩ := h
  match vs, h1 with
  | [u, v, w], _ => exact ⟨u, v, w, rfl, h2 0 _ _ rfl rfl, h2 1 _ _ rfl rfl, h2 2 _ _ rfl rfl⟩
end
theorem opElem : ∃ i, ElemOk Go.Proofs.Tryd.prog 24 31 i (.agg #[.string ⟨#[]⟩, .int .i64 0, .int .i64 0]) 3 := by
  obtain ⟨i0, hi0, hz0, hzs, hzb⟩ := info_parts (P := Go.Proofs.Tryd.prog) (e := 31) (z := .agg #[.string ⟨#[]⟩, .int .i64 0, .int .i64 0]) (size := 3) (bytes := 32) (by kernel_rfl)
  exact ⟨i0, Go.Proofs.Tryd.underlying24, hi0, hz0, hzs, by omega, by omega, rfl⟩
def T332 (xs : List V) (h : Hp) (K : V → Hp → Prop) : Prop := match xs with
  | [.c (.d (.list sz l))] => (sz = 3 ∨ l = []) ∧ l.length ≤ room ∧ K (.c (.own h.next l.length)) ⟨h.next + 1, (h.next, .row 3 l) :: h.obs⟩
  | _ => False
set_option maxRecDepth 100000 in
theorem hok332 (gl : Nat → Option (List D)) : HeapOk Go.Proofs.Tryd.prog gl 30 T332 := by
  refine ⟨enters_of (fn := Go.Proofs.Tryd.f30) (c := (Go.Proofs.Tryd.f30.body).getD .skip) (by kernel_rfl) (by kernel_rfl) (by kernel_rfl), ?_⟩
  intro F w h ρ xs vs K hs hx hT
  unfold T332 at hT
  split at hT
  · rename_i sz l
    obtain ⟨hsz, hroom, hK⟩ := hT
    obtain ⟨v, rfl, hv⟩ := vs_one hx
    cases hv with
    | c _ _ hq =>
      by_cases hl : l = []
      · subst hl
        cases hq with
        | d _ _ hd =>
          cases hd with
          | nil _ a c =>
            cases a with
            | none =>
              refine Calls.mono (clone_none c w) ?_
              rintro e w' ⟨rfl, rfl⟩
              obtain ⟨g1, g2, g3⟩ := new_rowNil (gl := gl) hs (sz := 3) (by omega)
              exact ⟨_, _, _, hK, .c _ _ g3, g1, g2⟩
            | some ad =>
              obtain ⟨i0, ok⟩ := opElem
              refine Calls.mono (clone_some ad 0 c w _ _ (run_append_zero _ ok.ht ok.hi _ _ 0 0 c (Nat.le_refl _))) ?_
              rintro e w' ⟨rfl, rfl⟩
              obtain ⟨g1, g2, g3⟩ := new_row (gl := gl) hs (kept_alloc w (.cells #[] 31)) (obs := h.obs) (fun y o _ h => h) (sz := 3) (l := []) (vs := []) (by omega) (fun e he => by cases he) (c := 0) rfl (Nat.le_refl _) (by omega) (fun i d v hd _ => by simp at hd) (b := w.heap.size) (t := 31) (fr := (0, 0)) (heap_alloc_new w _) (free_zero _) (Nat.le_refl _)
              exact ⟨_, _, _, hK, .c _ _ g3, g1, g2⟩
          | list _ _ b off c vs h0 => exact absurd h0 (Nat.lt_irrefl 0)
      · obtain rfl := hsz.resolve_right hl
        obtain ⟨i0, ok⟩ := opElem
        have hk0 := kept_alloc w (.cells #[] 31)
        have later0 : Later F w h ρ (w.alloc (.cells #[] 31)) h ρ := .block hk0
        have hs0 := hs.block hk0
        obtain ⟨b', c, rfl, _, hb⟩ := lst_rep hs0 (hq.mono later0) (show C.lst h (.d (.list 3 l)) = some (3, l) from rfl)
        obtain ⟨b1, off, us, rfl, sr⟩ := hb.resolve_left hl
        obtain ⟨nx, ob⟩ := h
        obtain ⟨r, w1, ρ', hrun, g1, g2, g3⟩ := append_lit (ty := 24) (l := []) hs0 ok (by simpa using hroom) hl (xv := .slice (some ⟨w.heap.size, 0, none⟩) 0 0) (.lit 3 [] _ (.nil _ _ _)) (.inr ⟨b1, off, us, rfl, sr⟩)
        refine Calls.mono (clone_some _ l.length c w _ _ hrun) ?_
        rintro e w' ⟨rfl, rfl⟩
        exact ⟨_, _, _, hK, .c _ _ g1, g2, later0.trans g3⟩
  · exact hT.elim
theorem flat_insert {l : List (List D)} {o : List D} {k : Nat} (hse : ∀ e ∈ l, e.length = 3) (hk : k ≤ l.length) : (l.take k ++ o :: l.drop k).flatten = l.flatten.take (k * 3) ++ o ++ l.flatten.drop (k * 3) := by
  have h0 : l.flatten = (l.take k).flatten ++ (l.drop k).flatten := by rw [← List.flatten_append, List.take_append_drop]
  have h1 : (l.take k).flatten.length = k * 3 := by
    rw [flat_length (fun e he => hse e (List.mem_of_mem_take he)), List.length_take, Nat.min_eq_left hk]
  rw [List.flatten_append, List.flatten_cons, h0, List.take_left' h1, List.drop_left' h1, List.append_assoc]
theorem insert_done {F : Nat → Prop} {gl : Nat → Option (List D)} {w W : World} {ρ : Rho} {nx zz k b C : Nat} {ob ob' : List (Nat × Ob)} {l : List (List D)} {o : List D} {tt : TypeId} {xs us ys rest : List Value}
    (hs : HSim F gl w ⟨nx, ob⟩ ρ) (zlt : zz < nx) (hl : look ob zz = some (.row 3 l)) (hk : k ≤ l.length) (ho : o.length = 3) (hse : ∀ e ∈ l, e.length = 3) (hp : put ob zz (.row 3 (l.take k ++ o :: l.drop k)) = some ob')
    (hkp : Kept (fun b => blkOf (ρ zz) = some b) w W) (hb2 : ∀ b', blkOf (.slice (some ⟨b, 0, none⟩) (l.length + 1) C) = some b' → blkOf (ρ zz) = some b' ∨ w.heap.size ≤ b')
    (hW : W.heap[b]? = some (.cells (xs ++ us ++ ys ++ rest).toArray tt (0, 0))) (x1 : xs.length = k * 3) (u1 : us.length = 3) (y1 : ys.length = (l.length - k) * 3) (hR : (xs ++ us ++ ys ++ rest).length = C * 3) (hn : l.length + 1 ≤ C) (hC : C ≤ 9223372036854775807)
    (rxy : ∀ (i : Nat) (d : D) (v : Value), l.flatten[i]? = some d → (xs ++ ys)[i]? = some v → RepD w (fun b => F b ∨ Own ρ ob b) d v)
    (ru : ∀ (i : Nat) (d : D) (v : Value), o[i]? = some d → us[i]? = some v → RepD w (fun b => F b ∨ Own ρ ob b) d v) :
    ∃ ρ', RepC (cx F W ⟨nx, ob'⟩ ρ') (.own zz (l.length + 1)) (.slice (some ⟨b, 0, none⟩) (l.length + 1) C) ∧ HSim F gl W ⟨nx, ob'⟩ ρ' ∧ Later F w ⟨nx, ob⟩ ρ W ⟨nx, ob'⟩ ρ' := by
  have hlen : (l.take k ++ o :: l.drop k).length = l.length + 1 := by
    simp only [List.length_append, List.length_take, List.length_cons, List.length_drop]; omega
  have hse2 : ∀ e ∈ l.take k ++ o :: l.drop k, e.length = 3 := fun e he => by
    rcases List.mem_append.1 he with h | h
    · exact hse e (List.mem_of_mem_take h)
    · rcases List.mem_cons.1 h with rfl | h
      · exact ho
      · exact hse e (List.mem_of_mem_drop h)
  have hfl : l.flatten.length = l.length * 3 := flat_length hse
  have hfi := flat_insert (o := o) hse hk
  have later : Later F w ⟨nx, ob⟩ ρ W ⟨nx, ob'⟩ (upd ρ zz (.slice (some ⟨b, 0, none⟩) (l.length + 1) C)) :=
    put_later hs hl hp hkp hb2 (.inl ⟨3, l, _, rfl, rfl, by omega, fun h => absurd h (by omega)⟩)
  refine ⟨upd ρ zz (.slice (some ⟨b, 0, none⟩) (l.length + 1) C), .own zz _ _ _ _ zlt ?_ (fun _ => upd_same _ _ _), put_hs hs hl hp hkp hb2 later ?_, later⟩
  · intro m hm
    simp only [lenAt, look_put_same hp, Option.some.injEq] at hm
    omega
  · refine .row 3 _ b C tt (0, 0) (xs ++ us ++ ys ++ rest) (by omega) hse2 (by rw [hlen]; exact upd_same _ _ _) hW hR (by omega) hC (free_zero _) ?_ (fun _ => rfl)
    intro j d u hd hu
    rw [hfi] at hd
    simp only [List.append_assoc, List.getElem?_append, List.length_take, hfl, x1, u1, y1, ho] at hd hu rxy
    rw [show min (k * 3) (l.length * 3) = k * 3 by omega] at hd
    by_cases c1 : j < k * 3
    · rw [if_pos c1] at hd hu
      rw [List.getElem?_take, if_pos c1] at hd
      exact (rxy j d u hd (by rw [if_pos c1]; exact hu)).later later
    · rw [if_neg c1] at hd hu
      by_cases c2 : j - k * 3 < 3
      · rw [if_pos c2] at hd hu
        exact (ru _ d u hd hu).later later
      · rw [if_neg c2] at hd hu
        rw [List.getElem?_drop] at hd
        have hlt := (List.getElem?_eq_some_iff.1 hd).1
        rw [hfl] at hlt
        rw [if_pos (by omega)] at hu
        refine (rxy _ d u hd ?_).later later
        rw [if_neg (by omega)]
        rw [show k * 3 + (j - k * 3 - 3) - k * 3 = j - k * 3 - 3 by omega]
        exact hu
def T333 (xs : List V) (h : Hp) (K : V → Hp → Prop) : Prop := match xs with
  | [.c (.own x n), .c (.d (.int .i64 i)), .c (.own y m)] => ∃ l o ob', ∃ k : Nat, look h.obs x = some (.row 3 l) ∧ look h.obs y = some (.row 3 [o]) ∧ x ≠ y ∧ m = 1 ∧ n = l.length ∧ i = (k : Nat) ∧ k ≤ l.length ∧ l.length + 1 ≤ room ∧ put h.obs x (.row 3 (l.take k ++ o :: l.drop k)) = some ob' ∧ K (.c (.own x (l.length + 1))) ⟨h.next, ob'⟩
  | _ => False
theorem reps_one {w : World} {A : Nat → Prop} {ds : List D} {vs : List Value} (hl : ds.length = vs.length) (h : ∀ (i : Nat) (d : D) (v : Value), ds[i]? = some d → vs[i]? = some v → RepD w A d v) : ∀ v ∈ vs, v.oneCell' = true := by
  intro v hv
  obtain ⟨i, hi, rfl⟩ := List.mem_iff_getElem.1 hv
  have := h i ds[i] vs[i] (List.getElem?_eq_getElem (by omega)) (List.getElem?_eq_getElem hi)
  generalize vs[i] = v at this
  generalize ds[i] = d at this
  cases this <;> rfl
set_option maxRecDepth 100000 in
theorem hok333 (gl : Nat → Option (List D)) : HeapOk Go.Proofs.Tryd.prog gl 31 T333 := by
  refine ⟨enters_of (fn := Go.Proofs.Tryd.f31) (c := (Go.Proofs.Tryd.f31.body).getD .skip) (by kernel_rfl) (by kernel_rfl) (by kernel_rfl), ?_⟩
  intro F w h ρ xs vs K hs hx hT
  unfold T333 at hT
  split at hT
  · rename_i x n i y m
    obtain ⟨l, o, ob', k, hl, hy, hxy, rfl, rfl, rfl, hk, hroom, hp, hK⟩ := hT
    obtain ⟨v0, v1, v2, rfl, r0, r1, r2⟩ := vs_three hx
    obtain ⟨i0, ok⟩ := opElem
    obtain ⟨nx, ob⟩ := h
    simp only at hl hy hp
    cases r0 with
    | c _ _ q0 =>
    cases r1 with
    | c _ _ q1 =>
    cases r2 with
    | c _ _ q2 =>
    cases q1 with
    | d _ _ d1 =>
    cases d1
    by_cases hkl : k = l.length
    · subst hkl
      have hcat : l.take l.length ++ o :: l.drop l.length = l ++ [o] := by rw [List.take_length, List.drop_length]
      rw [hcat] at hp
      obtain ⟨b', cp, rfl, _, hb⟩ := lst_rep hs q2 (show C.lst ⟨nx, ob⟩ (.own y 1) = some (3, [o]) by simp [C.lst, C.toD, hy])
      obtain ⟨r, w1, ρ', hrun, g1, g2, g3⟩ := append_row (ty := 24) hs hl hp ok hroom q0 hb
      cases q0 with
      | own _ _ a m c hxlt hle hv =>
        have hρ : ρ x = .slice a m c := hv (by simp [lenAt, hl])
        have hm : m = l.length ∧ m ≤ c ∧ (a = none → m = 0) := by
          have hob := hs.obs x _ hl
          cases hob with
          | rowNil _ _ hr => have := hr.symm.trans hρ; cases this; exact ⟨rfl, Nat.le_refl _, fun _ => rfl⟩
          | row _ _ b c' tt fr ws _ _ hr _ _ hc' => have := hr.symm.trans hρ; cases this; exact ⟨rfl, hc', fun h => by cases h⟩
        obtain ⟨rfl, hmc, hnil⟩ := hm
        refine Calls.mono (insert_end a l.length c b' cp w w1 r hmc hnil hrun) ?_
        rintro e w' ⟨rfl, rfl⟩
        rw [List.length_append] at g1
        exact ⟨_, _, _, hK, .c _ _ g1, g2, g3⟩
    · have hkn : k < l.length := by omega
      have hox := hs.obs x _ hl
      have hoy := hs.obs y _ hy
      cases q0 with
      | own _ _ a m c hxlt hle hv =>
      cases q2 with
      | own _ _ a2 m2 c2 hylt hle2 hv2 =>
      have hρ : ρ x = .slice a m c := hv (by simp [lenAt, hl])
      have hρ2 : ρ y = .slice a2 m2 c2 := hv2 (by simp [lenAt, hy])
      cases hox with
      | rowNil _ _ hr => exact absurd hkn (Nat.not_lt_zero _)
      | row _ _ b c' tt fr ws _ hse hr hB hL hC hM hf hrep hfr =>
      cases hoy with
      | row _ _ vb c2' tt2 fr2 ws2 _ hse2 hr2 hB2 hL2 hC2 hM2 hf2 hrep2 hfr2 =>
      obtain rfl := hfr (by omega)
      obtain rfl := hfr2 (by omega)
      simp only at hr hr2
      have e1 := hr.symm.trans hρ
      have e2 := hr2.symm.trans hρ2
      cases e1
      cases e2
      have ho3 : o.length = 3 := hse2 o (List.mem_singleton.2 rfl)
      have hC2' : 1 ≤ c2 := hC2
      have hvb : vb ≠ b := fun e => hxy (hs.inj x y _ _ b hl hy (by rw [hr]; rfl) (by rw [hr2, e]; rfl))
      have hfl : l.flatten.length = l.length * 3 := flat_length hse
      have hC3 : l.length * 3 ≤ c * 3 := Nat.mul_le_mul_right _ hC
      have wl : (ws.take (l.length * 3)).length = l.length * 3 := by rw [List.length_take]; omega
      have wl2 : (ws2.take 3).length = 3 := by rw [List.length_take]; omega
      have rA : ∀ (i : Nat) (d : D) (v : Value), l.flatten[i]? = some d → (ws.take (l.length * 3))[i]? = some v → RepD w (fun b => F b ∨ Own ρ ob b) d v := fun i d v hd hv => by
        rw [List.getElem?_take] at hv
        split at hv
        · exact hrep i d v hd hv
        · cases hv
      have rB : ∀ (i : Nat) (d : D) (v : Value), o[i]? = some d → (ws2.take 3)[i]? = some v → RepD w (fun b => F b ∨ Own ρ ob b) d v := fun i d v hd hv => by
        rw [List.getElem?_take] at hv
        split at hv
        · exact hrep2 i d v (by simpa using hd) hv
        · cases hv
      have one1 := reps_one (by rw [hfl, wl]) rA
      have one2 := reps_one (by rw [ho3, wl2]) rB
      have cA : ∀ (j : Nat) (v : Value), (ws.take (l.length * 3))[j]? = some v → w.cell? ⟨b, j, none⟩ = some v := fun j v hj => by
        rw [List.getElem?_take] at hj
        split at hj
        · simp [World.cell?, hB, hj]
        · cases hj
      have cB : ∀ (j : Nat) (v : Value), (ws2.take 3)[j]? = some v → w.cell? ⟨vb, 0 + j, none⟩ = some v := fun j v hj => by
        rw [List.getElem?_take] at hj
        split at hj
        · simp [World.cell?, hB2, hj]
        · cases hj
      have hdl : ((ws.take (l.length * 3)).drop (k * 3)).length = (l.length - k) * 3 := by rw [List.length_drop, wl]; omega
      have htl : ((ws.take (l.length * 3)).take (k * 3)).length = k * 3 := by rw [List.length_take, wl]; omega
      have rXY : ∀ (i : Nat) (d : D) (v : Value), l.flatten[i]? = some d → ((ws.take (l.length * 3)).take (k * 3) ++ (ws.take (l.length * 3)).drop (k * 3))[i]? = some v → RepD w (fun b => F b ∨ Own ρ ob b) d v := fun i d v hd hv => by
        rw [List.take_append_drop] at hv
        exact rA i d v hd hv
      by_cases hfit : l.length + 1 ≤ c
      · have hfit3 : (l.length + 1) * 3 ≤ c * 3 := Nat.mul_le_mul_right _ hfit
        have hz0 : ∀ j, w.frozen? ⟨b, j, none⟩ = false := fun j => by simp [World.frozen?, hB]
        have hz1 : ∀ j, w.frozen? ⟨vb, j, none⟩ = false := fun j => by simp [World.frozen?, hB2]
        refine Calls.mono (insert_shift b l.length c k vb 0 c2 (ws.take (l.length * 3)) (ws2.take 3) w hkn hfit hM hvb wl wl2 cA (fun j hj => by simp [World.cell?, hB]; omega) (fun j _ => hz0 j) cB one1 one2 tt2 tt ws2.length ws.length (by simp [World.shape?, hB2]) (by simp [World.shape?, hB]) (by omega) (hz1 _) (hz1 _)) ?_
        rintro e w' ⟨rfl, rfl⟩
        have s1 := setCells_row w.drew b ((k + 1) * 3) tt (0, 0) ((ws.take (l.length * 3)).drop (k * 3)) ws hB (free_zero _) (by rw [hdl]; omega) (fun v hv => one1 v (List.mem_of_mem_drop hv))
        rw [s1]
        have hB3 := setRow_heap w.drew b _ (ws.take ((k + 1) * 3) ++ (ws.take (l.length * 3)).drop (k * 3) ++ ws.drop ((k + 1) * 3 + ((ws.take (l.length * 3)).drop (k * 3)).length)).toArray tt (0, 0) hB
        have s2 := setCells_row (w.drew.setRow b (ws.take ((k + 1) * 3) ++ (ws.take (l.length * 3)).drop (k * 3) ++ ws.drop ((k + 1) * 3 + ((ws.take (l.length * 3)).drop (k * 3)).length)).toArray) b (k * 3) tt (0, 0) (ws2.take 3) _ hB3 (free_zero _) (by simp only [List.length_append, List.length_take, List.length_drop]; omega) one2
        rw [s2]
        have hB4 := setRow_heap _ b _ ((ws.take ((k + 1) * 3) ++ (ws.take (l.length * 3)).drop (k * 3) ++ ws.drop ((k + 1) * 3 + ((ws.take (l.length * 3)).drop (k * 3)).length)).take (k * 3) ++ ws2.take 3 ++ (ws.take ((k + 1) * 3) ++ (ws.take (l.length * 3)).drop (k * 3) ++ ws.drop ((k + 1) * 3 + ((ws.take (l.length * 3)).drop (k * 3)).length)).drop (k * 3 + (ws2.take 3).length)).toArray tt (0, 0) hB3
        have hrow : (ws.take ((k + 1) * 3) ++ (ws.take (l.length * 3)).drop (k * 3) ++ ws.drop ((k + 1) * 3 + ((ws.take (l.length * 3)).drop (k * 3)).length)).take (k * 3) ++ ws2.take 3 ++ (ws.take ((k + 1) * 3) ++ (ws.take (l.length * 3)).drop (k * 3) ++ ws.drop ((k + 1) * 3 + ((ws.take (l.length * 3)).drop (k * 3)).length)).drop (k * 3 + (ws2.take 3).length) =
            (ws.take (l.length * 3)).take (k * 3) ++ ws2.take 3 ++ (ws.take (l.length * 3)).drop (k * 3) ++ ws.drop ((l.length + 1) * 3) := by
          rw [wl2, hdl, show (k + 1) * 3 + (l.length - k) * 3 = (l.length + 1) * 3 by omega]
          have a1 : (ws.take ((k + 1) * 3)).length = (k + 1) * 3 := by rw [List.length_take]; omega
          rw [List.append_assoc (ws.take ((k + 1) * 3)), List.take_append_of_le_length (by omega), show k * 3 + 3 = (k + 1) * 3 by omega, List.drop_left' a1, List.take_take, List.take_take, Nat.min_eq_left (by omega), Nat.min_eq_left (by omega)]
          simp only [List.append_assoc]
        rw [hrow] at hB4 ⊢
        obtain ⟨ρ', g1, g2, g3⟩ := insert_done (o := o) hs hxlt hl hk ho3 hse hp
          (((kept_drew w).mono (fun _ h => h.elim)).trans (((kept_setRow w.drew b _).trans (kept_setRow _ b _) (fun _ _ h => h)).mono (fun x hx => by rw [hr]; simp [blkOf, hx])) (fun _ _ h => h))
          (fun b' hb' => .inl (by rw [hr]; simpa [blkOf] using hb')) hB4 htl wl2 hdl (by simp only [List.length_append, htl, wl2, hdl, List.length_drop]; omega) hfit hM rXY rB
        exact ⟨_, _, _, hK, .c _ _ g1, g2, g3⟩
      · have hCl : c = l.length := by omega
        subst hCl
        refine Calls.mono (insert_grow b l.length l.length k vb 0 c2 (ws.take (l.length * 3)) (ws2.take 3) w hkn (Nat.le_refl _) (by omega) (by unfold room at hroom; omega) wl wl2 cA cB one1 one2) ?_
        rintro e w' ⟨rfl, rfl⟩
        have hG := grownCap_ge w (l.length + 1) l.length 31
        have hG2 := grownCap_le_maxLen w (l.length + 1) l.length 31 (by unfold maxLen; unfold room at hroom; omega)
        simp only [maxLen] at hG2
        generalize grownCap w (l.length + 1) l.length 31 = G at *
        have hzs : zO.cells.size = 3 := rfl
        have hB1 := heap_alloc_new w (.cells (((ws.take (l.length * 3)).take (k * 3)).toArray ++ Builtin.zeroCells zO.cells (l.length + 1 - k) ++ Builtin.zeroCells zO.cells (G - (l.length + 1))) 31)
        have hk1 := (kept_alloc w (.cells (((ws.take (l.length * 3)).take (k * 3)).toArray ++ Builtin.zeroCells zO.cells (l.length + 1 - k) ++ Builtin.zeroCells zO.cells (G - (l.length + 1))) 31)).trans (kept_drew _) (fun _ _ h => h)
        obtain ⟨rest, hrest, hrl⟩ : ∃ rest : List Value, ((ws.take (l.length * 3)).take (k * 3)).toArray ++ Builtin.zeroCells zO.cells (l.length + 1 - k) ++ Builtin.zeroCells zO.cells (G - (l.length + 1)) = ((ws.take (l.length * 3)).take (k * 3) ++ rest).toArray ∧ rest.length = (G - k) * 3 := by
          refine ⟨(Builtin.zeroCells zO.cells (l.length + 1 - k)).toList ++ (Builtin.zeroCells zO.cells (G - (l.length + 1))).toList, by apply Array.ext'; simp, ?_⟩
          simp only [List.length_append, Array.length_toList, zeroCells_size, hzs]
          omega
        rw [hrest] at hB1 hk1 ⊢
        generalize w.alloc (.cells ((ws.take (l.length * 3)).take (k * 3) ++ rest).toArray 31) = W1 at *
        have hB2' : W1.drew.heap[w.heap.size]? = some (.cells ((ws.take (l.length * 3)).take (k * 3) ++ rest).toArray 31 (0, 0)) := hB1
        have s1 := setCells_row W1.drew w.heap.size (k * 3) 31 (0, 0) (ws2.take 3) _ hB2' (free_zero _) (by rw [List.length_append, htl, wl2, hrl]; omega) one2
        rw [s1]
        have r1 : ((ws.take (l.length * 3)).take (k * 3) ++ rest).take (k * 3) ++ ws2.take 3 ++ ((ws.take (l.length * 3)).take (k * 3) ++ rest).drop (k * 3 + (ws2.take 3).length) = (ws.take (l.length * 3)).take (k * 3) ++ ws2.take 3 ++ rest.drop 3 := by
          rw [List.take_left' htl, wl2, ← List.drop_drop, List.drop_left' htl]
        rw [r1]
        have hB3 := setRow_heap W1.drew w.heap.size _ ((ws.take (l.length * 3)).take (k * 3) ++ ws2.take 3 ++ rest.drop 3).toArray 31 (0, 0) hB2'
        have k3 := kept_setRow W1.drew w.heap.size ((ws.take (l.length * 3)).take (k * 3) ++ ws2.take 3 ++ rest.drop 3).toArray
        generalize W1.drew.setRow w.heap.size ((ws.take (l.length * 3)).take (k * 3) ++ ws2.take 3 ++ rest.drop 3).toArray = W2 at *
        have hB3' : W2.drew.heap[w.heap.size]? = some (.cells ((ws.take (l.length * 3)).take (k * 3) ++ ws2.take 3 ++ rest.drop 3).toArray 31 (0, 0)) := hB3
        have s2 := setCells_row W2.drew w.heap.size ((k + 1) * 3) 31 (0, 0) ((ws.take (l.length * 3)).drop (k * 3)) _ hB3' (free_zero _) (by simp only [List.length_append, htl, wl2, hdl, hrl, List.length_drop]; omega) (fun v hv => one1 v (List.mem_of_mem_drop hv))
        rw [s2]
        have hpre : ((ws.take (l.length * 3)).take (k * 3) ++ ws2.take 3).length = (k + 1) * 3 := by rw [List.length_append, htl, wl2]; omega
        have r2 : ((ws.take (l.length * 3)).take (k * 3) ++ ws2.take 3 ++ rest.drop 3).take ((k + 1) * 3) ++ (ws.take (l.length * 3)).drop (k * 3) ++ ((ws.take (l.length * 3)).take (k * 3) ++ ws2.take 3 ++ rest.drop 3).drop ((k + 1) * 3 + ((ws.take (l.length * 3)).drop (k * 3)).length) =
            (ws.take (l.length * 3)).take (k * 3) ++ ws2.take 3 ++ (ws.take (l.length * 3)).drop (k * 3) ++ (rest.drop 3).drop ((l.length - k) * 3) := by
          rw [List.take_left' hpre, hdl, ← List.drop_drop, List.drop_left' hpre]
        rw [r2]
        have hB4 := setRow_heap W2.drew w.heap.size _ ((ws.take (l.length * 3)).take (k * 3) ++ ws2.take 3 ++ (ws.take (l.length * 3)).drop (k * 3) ++ (rest.drop 3).drop ((l.length - k) * 3)).toArray 31 (0, 0) hB3'
        have k4 := kept_setRow W2.drew w.heap.size ((ws.take (l.length * 3)).take (k * 3) ++ ws2.take 3 ++ (ws.take (l.length * 3)).drop (k * 3) ++ (rest.drop 3).drop ((l.length - k) * 3)).toArray
        have kk : Kept (fun _ => False) w (W2.drew.setRow w.heap.size ((ws.take (l.length * 3)).take (k * 3) ++ ws2.take 3 ++ (ws.take (l.length * 3)).drop (k * 3) ++ (rest.drop 3).drop ((l.length - k) * 3)).toArray) :=
          hk1.trans (k3.trans (((kept_drew W2).mono (fun _ h => h.elim)).trans k4 (fun _ _ h => h)) (fun _ _ h => h)) (fun x hx (h : x = w.heap.size) => absurd h (by omega))
        obtain ⟨ρ', g1, g2, g3⟩ := insert_done (o := o) hs hxlt hl hk ho3 hse hp (kk.mono (fun _ h => h.elim)) (fun b' hb' => .inr (by simp [blkOf] at hb'; omega)) hB4 htl wl2 hdl (by simp only [List.length_append, htl, wl2, hdl, hrl, List.length_drop]; omega) hG hG2 rXY rB
        exact ⟨_, _, _, hK, .c _ _ g1, g2, g3⟩
  · exact hT.elim
end Go.Am
