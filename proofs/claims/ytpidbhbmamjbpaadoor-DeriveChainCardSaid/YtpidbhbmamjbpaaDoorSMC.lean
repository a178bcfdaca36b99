/-
  The abstract machine's operations are sound, the rest.
-/
import Derived.Test.YtpidbhbmamjbpaaDoorSMB
import Derived.Laws.CopyRow
import Derived.Laws.AppendOwn
import Derived.Laws.RangeString
import Derived.Laws.StructEq
import Derived.ChangeKeysEq
import Derived.WideKeyRuns
namespace Go.Am
open Go
def Gone (cs : List C) (y : Nat) : Prop := ∃ n, C.own y n ∈ cs
theorem look_shed_iff {q : C} {ob : List (Nat × Ob)} {y : Nat} {o : Ob} : look (q.shed ob) y = some o ↔ (∀ n, q ≠ .own y n) ∧ look ob y = some o := by
  cases q with
  | own x n =>
    show look (del ob x) y = some o ↔ _
    by_cases e : y = x
    · subst e
      rw [look_del_same]
      constructor
      · intro h; cases h
      · intro h; exact absurd rfl (h.1 n)
    · rw [look_del_other _ e]
      exact ⟨fun h => ⟨fun m hm => e (by injection hm with h1 _; exact h1.symm), h⟩, fun h => h.2⟩
  | _ => exact ⟨fun h => ⟨fun _ hm => (nomatch hm), h⟩, fun h => h.2⟩
theorem own_live {h : Hp} {x n : Nat} {d : D} (hd : (C.own x n).toD h = some d) : ∃ sz l, look h.obs x = some (.row sz l) ∧ n = l.length ∧ d = .list sz l := by
  simp only [C.toD] at hd
  cases hk : look h.obs x with
  | none => rw [hk] at hd; cases hd
  | some o' =>
    rw [hk] at hd
    cases o' with
    | row s' l' =>
      simp only at hd
      by_cases hnn : n = l'.length
      · rw [if_pos hnn] at hd; cases hd; exact ⟨s', l', rfl, hnn, rfl⟩
      · rw [if_neg hnn] at hd; cases hd
    | _ => cases hd
theorem toDs_live {h : Hp} {x n : Nat} : ∀ {cs : List C} {ds : List D}, toDs h cs = some ds → C.own x n ∈ cs → ∃ o, look h.obs x = some o
  | [], ds, _, hm => by cases hm
  | q :: r, ds, hd, hm => by
    unfold toDs at hd
    cases hq : q.toD h with
    | none => rw [hq] at hd; cases hd
    | some d =>
      rw [hq] at hd
      simp only at hd
      cases hr' : toDs h r with
      | none => rw [hr'] at hd; cases hd
      | some ds' =>
        cases hm with
        | head => obtain ⟨sz, l, hk, _⟩ := own_live hq; exact ⟨_, hk⟩
        | tail _ hm => exact toDs_live hr' hm
theorem look_shedCs_iff {cs : List C} : ∀ {ob : List (Nat × Ob)} {y : Nat} {o : Ob}, look (shedCs ob cs) y = some o ↔ ¬ Gone cs y ∧ look ob y = some o := by
  induction cs with
  | nil => intro ob y o; exact ⟨fun h => ⟨fun ⟨n, hn⟩ => (nomatch hn), h⟩, fun h => h.2⟩
  | cons q r ih =>
    intro ob y o
    show look (shedCs (q.shed ob) r) y = some o ↔ _
    rw [ih, look_shed_iff]
    constructor
    · rintro ⟨h1, h2, h3⟩
      refine ⟨?_, h3⟩
      rintro ⟨n, hn⟩
      cases hn with
      | head => exact h2 n rfl
      | tail _ hm => exact h1 ⟨n, hm⟩
    · rintro ⟨h1, h2⟩
      exact ⟨fun ⟨n, hn⟩ => h1 ⟨n, List.mem_cons_of_mem _ hn⟩, fun n hn => h1 ⟨n, by rw [hn]; exact List.mem_cons_self ..⟩, h2⟩
section
variable {P : Program} {o : Oper} {a : Act} {w w' : World} {F : Nat → Prop} {gl : Nat → Option (List D)} {h h' : Hp} {ρ ρ' : Rho} {v : V} {val : Value}
theorem toD_rep (hs : HSim F gl w h ρ) {q : C} {d : D} (hq : RepC (cx F w h ρ) q val) (hd : q.toD h = some d) {A' : Nat → Prop} (hA : ∀ b, A' b → F b ∨ Own ρ h.obs b)
    (hgone : ∀ x n, q = .own x n → ∀ b, blkOf (ρ x) = some b → ¬ A' b) : RepD w A' d val := by
  have weak : ∀ {d v}, RepD w (fun b => F b ∨ Own ρ h.obs b) d v → RepD w A' d v := fun hr => hr.mono (.refl (fun _ => False) w) (fun _ h => h.elim) (fun b _ h => hA b h)
  cases hd' : d with
  | list sz l =>
    subst hd'
    have hl : q.lst h = some (sz, l) := by unfold C.lst; rw [hd]
    obtain ⟨b', c, rfl, _, hcase⟩ := lst_rep hs hq hl
    rcases hcase with rfl | ⟨b, off, vs, rfl, sr⟩
    · exact .nil _ _ _
    · by_cases hne : l = []
      · subst hne; exact .nil _ _ _
      · refine .list sz l b off c vs (List.length_pos_iff.2 hne) sr.hz sr.hs sr.hc ?_ sr.cell (fun i d hd => weak (sr.rep i d hd))
        intro hb
        cases ho : q.isOwn with
        | false => exact (hA b hb).elim sr.hF (sr.apart ho)
        | true =>
          cases q with
          | own x n =>
            have hlen : lenAt h.obs x = some n := by
              obtain ⟨sz', l', hk, hn, _⟩ := own_live hd
              simp [lenAt, hk, hn]
            have hr : ρ x = .slice (some ⟨b, off, none⟩) l.length c := by
              cases hq with
              | own _ _ _ _ _ _ _ hv => exact hv hlen
            exact hgone x n rfl b (by rw [hr]; rfl) hb
          | _ => cases ho
  | _ =>
    subst hd'
    cases q with
    | d d' => cases hd; cases hq with | d _ _ hr => exact weak hr
    | own x n => obtain ⟨sz', l', _, _, e⟩ := own_live hd; cases e
    | _ => cases hd
theorem toDs_rep (hs : HSim F gl w h ρ) {A' : Nat → Prop} (hA : ∀ b, A' b → F b ∨ Own ρ h.obs b) : ∀ {cs : List C} {ds : List D} {us : List Value}, CsRep (cx F w h ρ) cs us → toDs h cs = some ds →
    (∀ x, Gone cs x → ∀ b, blkOf (ρ x) = some b → ¬ A' b) → us.length = ds.length ∧ ∀ (i : Nat) (d : D) (u : Value), ds[i]? = some d → us[i]? = some u → RepD w A' d u
  | [], ds, us, hc, hd, _ => by cases hd; exact ⟨hc.1, by simp⟩
  | q :: r, ds, us, hc, hd, hg => by
    unfold toDs at hd
    cases h1 : q.toD h with
    | none => rw [h1] at hd; cases hd
    | some d =>
      rw [h1] at hd
      simp only at hd
      cases h2 : toDs h r with
      | none => rw [h2] at hd; cases hd
      | some l =>
        rw [h2] at hd
        cases hd
        obtain ⟨hl, hc⟩ := hc
        match us, hl with
        | u :: us, hl =>
          obtain ⟨e1, e2⟩ := toDs_rep hs hA (cs := r) (ds := l) (us := us) ⟨by simpa using hl, fun i q v h1 h2 => hc (i + 1) q v (by simpa using h1) (by simpa using h2)⟩ h2 (fun x ⟨n, hn⟩ => hg x ⟨n, List.mem_cons_of_mem _ hn⟩)
          refine ⟨by simp [e1], ?_⟩
          intro i d' u' hd' hu'
          cases i with
          | zero =>
            simp at hd' hu'
            subst hd'
            subst hu'
            exact toD_rep hs (hc 0 q u rfl rfl) h1 hA (fun x n hx => hg x ⟨n, by rw [hx]; exact List.mem_cons_self ..⟩)
          | succ i => exact e2 i d' u' (by simpa using hd') (by simpa using hu')
def FlRep (w : World) (A : Nat → Prop) (sz : Nat) (l : List (List D)) (vs : List Value) : Prop :=
  vs.length = l.length * sz ∧ (∀ e ∈ l, e.length = sz) ∧ ∀ (i : Nat) (d : D) (u : Value), l.flatten[i]? = some d → vs[i]? = some u → RepD w A d u
theorem flat_splice {l l' : List (List D)} {sz i : Nat} {ds : List D} (hs : ∀ e ∈ l, e.length = sz) (h : splice l i [ds] = some l') (hd : ds.length = sz) :
    l'.flatten = l.flatten.take (i * sz) ++ ds ++ l.flatten.drop (i * sz + sz) ∧ (∀ e ∈ l', e.length = sz) ∧ l'.length = l.length ∧ i < l.length := by
  obtain ⟨e1, e2⟩ := splice_eq h
  have hi : i < l.length := by simp at e2; omega
  refine ⟨?_, ?_, ?_, hi⟩
  · rw [e1]
    simp only [List.flatten_append, List.flatten_cons, List.flatten_nil, List.append_nil, List.length_singleton]
    rw [flatten_take_drop hs]
    have ht : (l.take i).flatten = l.flatten.take (i * sz) := by
      have e : l.flatten = (l.take i).flatten ++ (l.drop i).flatten := by rw [← List.flatten_append, List.take_append_drop]
      have hl : (l.take i).flatten.length = i * sz := by
        rw [flat_length (fun e he => hs e (List.mem_of_mem_take he))]
        simp
        rw [Nat.min_eq_left (by omega)]
      rw [e, ← hl, List.take_left]
    rw [ht, Nat.add_mul, Nat.one_mul]
  · intro e he
    rw [e1] at he
    simp only [List.mem_append, List.mem_singleton] at he
    rcases he with (he | he) | he
    · exact hs e (List.mem_of_mem_take he)
    · rw [he]; exact hd
    · exact hs e (List.mem_of_mem_drop he)
  · rw [e1]; simp; omega
theorem FlRep.splice {w : World} {A : Nat → Prop} {sz : Nat} {l l' : List (List D)} {vs us : List Value} {ds : List D} {i : Nat} (h : FlRep w A sz l vs) (hs : splice l i [ds] = some l') (hd : ds.length = sz) (hu : us.length = ds.length)
    (hr : ∀ (i : Nat) (d : D) (u : Value), ds[i]? = some d → us[i]? = some u → RepD w A d u) : FlRep w A sz l' (vs.take (i * sz) ++ us ++ vs.drop (i * sz + us.length)) ∧ i * sz + us.length ≤ vs.length := by
  obtain ⟨f1, f2, f3⟩ := h
  obtain ⟨s1, s2, s3, s4⟩ := flat_splice f2 hs hd
  have hbig : i * sz + sz ≤ l.length * sz := by
    calc i * sz + sz = (i + 1) * sz := by rw [Nat.add_mul, Nat.one_mul]
      _ ≤ l.length * sz := Nat.mul_le_mul_right _ s4
  have hfl : l.flatten.length = l.length * sz := flat_length f2
  refine ⟨⟨?_, s2, ?_⟩, by omega⟩
  · simp; rw [s3]; omega
  · intro j d u hd' hu'
    rw [s1] at hd'
    simp only [List.append_assoc, List.getElem?_append, List.length_take] at hd' hu'
    by_cases c1 : j < i * sz
    · rw [if_pos (by omega), List.getElem?_take, if_pos c1] at hd'
      rw [if_pos (by omega), List.getElem?_take, if_pos c1] at hu'
      exact f3 j d u hd' hu'
    · rw [if_neg (by omega)] at hd' hu'
      rw [show min (i * sz) l.flatten.length = i * sz by omega] at hd'
      rw [show min (i * sz) vs.length = i * sz by omega] at hu'
      by_cases c2 : j - i * sz < ds.length
      · rw [if_pos c2] at hd'
        rw [if_pos (by omega)] at hu'
        exact hr _ d u hd' hu'
      · rw [if_neg c2, List.getElem?_drop] at hd'
        rw [if_neg (by omega), List.getElem?_drop] at hu'
        rw [hu, hd] at hu'
        rw [hd] at hd'
        exact f3 _ d u hd' hu'
theorem FlRep.mono {w : World} {A A' : Nat → Prop} {sz : Nat} {l : List (List D)} {vs : List Value} (h : FlRep w A sz l vs) (hA : ∀ b, A' b → A b) : FlRep w A' sz l vs :=
  ⟨h.1, h.2.1, fun i d u h1 h2 => (h.2.2 i d u h1 h2).mono (.refl (fun _ => False) w) (fun _ h => h.elim) (fun b _ h => hA b h)⟩
theorem fillE_shed {e : Env} {h : Hp} {sz : Nat} : ∀ {ps : List (Nat × Opd)} {l l' : List (List D)} {ob : List (Nat × Ob)}, fillE e h sz l ps = some (l', ob) → ∀ y o, look ob y = some o → look h.obs y = some o
  | [], l, l', ob, hf, y, o, hy => by cases hf; exact hy
  | (i, x) :: r, l, l', ob, hf, y, o, hy => by
    unfold fillE at hf
    split at hf
    · split at hf
      · split at hf
        · split at hf
          · split at hf
            · rename_i h5
              cases hf
              exact fillE_shed h5 y o (look_shedCs hy)
            · cases hf
          · cases hf
        · cases hf
      · cases hf
    · cases hf
theorem fillE_gone {e : Env} {h : Hp} {sz : Nat} : ∀ {ps : List (Nat × Opd)} {l l' : List (List D)} {ob : List (Nat × Ob)}, fillE e h sz l ps = some (l', ob) →
    ∀ p ∈ ps, ∀ cs, (ev e p.2).cells = some cs → ∀ x, Gone cs x → look ob x = none ∧ ∃ o, look h.obs x = some o
  | [], l, l', ob, hf, p, hp, _, _, _, _ => (nomatch hp)
  | (i, x) :: r, l, l', ob, hf, p, hp, cs, hcs, z, hz => by
    unfold fillE at hf
    cases hcell : (ev e x).cells with
    | none => rw [hcell] at hf; cases hf
    | some qs =>
      rw [hcell] at hf
      simp only at hf
      cases hds : toDs h qs with
      | none => rw [hds] at hf; cases hf
      | some ds =>
        rw [hds] at hf
        simp only at hf
        split at hf
        · split at hf
          · split at hf
            · rename_i h5
              cases hf
              cases hp with
              | head =>
                rw [hcell] at hcs
                cases hcs
                obtain ⟨n, hn⟩ := hz
                refine ⟨?_, toDs_live hds hn⟩
                apply Option.eq_none_iff_forall_ne_some.2
                intro o hk
                exact absurd ⟨n, hn⟩ (look_shedCs_iff.1 hk).1
              | tail _ hm =>
                obtain ⟨g1, g2⟩ := fillE_gone h5 p hm cs hcs z hz
                refine ⟨?_, g2⟩
                apply Option.eq_none_iff_forall_ne_some.2
                intro o hk
                rw [(look_shedCs_iff.1 hk).2] at g1
                cases g1
            · cases hf
          · cases hf
        · cases hf
theorem fillE_rep {N : Nat} {st : St} {H : Hint} (sm : Sim N F H.glob st ρ a w) {sz : Nat} {A' : Nat → Prop} (hA : ∀ b, A' b → F b ∨ Own ρ st.hp.obs b) :
    ∀ (ps : List (Nat × Operand)) (l : List (Nat × Opd)) (els els' : List (List D)) (ob : List (Nat × Ob)) (vs : Array Value),
    trElems H ps = some l → fillE st.env st.hp sz els l = some (els', ob) → (∀ p ∈ l, ∀ cs, (ev st.env p.2).cells = some cs → ∀ x, Gone cs x → ∀ b, blkOf (ρ x) = some b → ¬ A' b) → FlRep w A' sz els vs.toList →
    ∃ ws : Array Value, Instr.fill (fun i => some (i * sz, sz)) vs (ps.map fun p => (p.1, a.eval p.2)) = some ws ∧ FlRep w A' sz els' ws.toList ∧ els'.length = els.length
  | [], l, els, els', ob, vs, ht, hf, _, hr => by cases ht; cases hf; exact ⟨vs, rfl, hr, rfl⟩
  | (i, x) :: r, l, els, els', ob, vs, ht, hf, hg, hr => by
    unfold trElems at ht
    cases hx : trX H x with
    | none => rw [hx] at ht; cases ht
    | some y =>
      cases hrest : trElems H r with
      | none => rw [hx, hrest] at ht; cases ht
      | some ys =>
        rw [hx, hrest] at ht
        cases ht
        unfold fillE at hf
        cases hcell : (ev st.env y).cells with
        | none => rw [hcell] at hf; cases hf
        | some qs =>
          rw [hcell] at hf
          simp only at hf
          cases hds : toDs st.hp qs with
          | none => rw [hds] at hf; cases hf
          | some ds =>
            rw [hds] at hf
            simp only at hf
            split at hf
            · rename_i hlen
              cases hsp : splice els i [ds] with
              | none => rw [hsp] at hf; cases hf
              | some els1 =>
                rw [hsp] at hf
                simp only at hf
                cases hrec : fillE st.env st.hp sz els1 ys with
                | none => rw [hrec] at hf; cases hf
                | some p =>
                  obtain ⟨els2, ob1⟩ := p
                  rw [hrec] at hf
                  cases hf
                  obtain ⟨us, e0, e1, e2, e3⟩ := cells_rep (ev_rep sm hx) hcell
                  obtain ⟨t1, t2⟩ := toDs_rep sm.hs hA ⟨e1, e2⟩ hds (fun x' hgx b hb => hg (i, y) (List.mem_cons_self ..) qs hcell x' hgx b hb)
                  obtain ⟨g1, g2⟩ := hr.splice hsp hlen t1 t2
                  have hfit : i * sz + us.length ≤ vs.size := by simpa using g2
                  have hone := run_fill_one vs (i * sz) (a.eval x) us e0 hfit
                  have hlen1 : els1.length = els.length := (flat_splice hr.2.1 hsp hlen).2.2.1
                  obtain ⟨ws, w1, w2, w3⟩ := fillE_rep sm hA r ys els1 els' ob1 ((a.eval x).cells.zipIdx.foldl (fun cs (p : Value × Nat) => cs.setIfInBounds (i * sz + p.2) p.1) vs) hrest hrec
                    (fun p hp => hg p (List.mem_cons_of_mem _ hp)) (by rw [hone]; exact g1)
                  refine ⟨ws, ?_, w2, w3.trans hlen1⟩
                  simp only [List.map_cons, Instr.fill]
                  have hsz : (a.eval x).cells.size = us.length := by rw [e0]; simp
                  rw [if_neg (by rw [hsz]; simp; omega)]
                  exact w1
            · cases hf
theorem repl_eq {α : Type} (n : Nat) (x : α) : repl n x = List.replicate n x := by
  induction n with
  | zero => rfl
  | succ n ih => simp [repl, ih, List.replicate_succ]
theorem zeros_rep {w : World} {A : Nat → Prop} {zs : List Value} {z : List D} (hz : constDs zs = some z) {s : Nat} (hs : zs.length = s) (h0 : 0 < s) (n : Nat) :
    FlRep w A s (List.replicate n z) ((Array.range (n * s)).map (zs.toArray[· % zs.toArray.size]!)).toList := by
  obtain ⟨e1, e2⟩ := constDs_rep (w := w) (A := A) hz
  refine ⟨by simp, ?_, ?_⟩
  · intro e he
    obtain ⟨_, rfl⟩ := List.mem_replicate.1 he
    omega
  · intro i d u hd hu
    have hil : i < n * s := by
      have := (List.getElem?_eq_some_iff.1 hu).1
      simpa using this
    have hi1 : i / s < n := Nat.div_lt_of_lt_mul (by rw [Nat.mul_comm]; exact hil)
    have hi2 : i % s < s := Nat.mod_lt _ h0
    have hzl : z.length = s := by omega
    have hget : (List.replicate n z).flatten[i]? = z[i % s]? := by
      have h1 : (List.replicate n z)[i / s]? = some z := by simp [hi1]
      have h2 : z[i % s]? = some (z[i % s]'(by omega)) := List.getElem?_eq_getElem (by omega)
      have := flat_get (sz := s) (fun e he => by obtain ⟨_, rfl⟩ := List.mem_replicate.1 he; exact hzl) h1 h2
      rw [show i / s * s + i % s = i by rw [Nat.mul_comm]; exact Nat.div_add_mod i s] at this
      rw [this, h2]
    rw [hget] at hd
    have hu' : zs[i % s]? = some u := by
      simp only [Array.toList_map, Array.toList_range, List.getElem?_map, List.getElem?_range hil, Option.map_some, Option.some.injEq, List.size_toArray] at hu
      rw [hs] at hu
      have : i % s < zs.length := by omega
      rw [List.getElem?_eq_getElem this]
      simpa [this] using hu
    exact e2 _ d u hd hu'
end
section
variable {P : Program} {o : Oper} {a : Act} {w w' : World} {F : Nat → Prop} {gl : Nat → Option (List D)} {h h' : Hp} {ρ ρ' : Rho} {v : V} {val : Value}
theorem getD_of {l : List Value} {i : Nat} {v : Value} (h : l[i]? = some v) : l.getD i undef = v := by simp [List.getD, h]
theorem run_zeroValue {t : TypeId} {zs : List Value} (hz : zeroOf P t = some zs) : ∃ z : Value, z.cells.toList = zs ∧ ∀ w : World, (zeroValue t).run P w = .ok z w := by
  unfold zeroOf at hz
  cases hi : P.info? t with
  | none => rw [hi] at hz; cases hz
  | some i =>
    rw [hi] at hz
    simp only at hz
    cases hzv : i.zero with
    | none => rw [hzv] at hz; cases hz
    | some z =>
      rw [hzv] at hz
      cases hz
      exact ⟨z, rfl, fun w => by simp [zeroValue, typeInfo, hi, hzv]⟩
theorem step_lit {N : Nat} {st : St} {H : Hint} (sm : Sim N F H.glob st ρ a w) {t el : TypeId} {n : Nat} {ps : Array (Nat × Operand)} (ho : o.op = .buildSlice t n ps) (hu : P.underlying t = some (.slice el)) {s : Nat} (hs : szOf P el = some s) {zs : List Value} (hz : zeroOf P el = some zs)
    (h0 : 0 < s) (hbig : n * s ≤ 16777216) (hzl : zs.length = s) {z : List D} (hzd : constDs zs = some z) {l : List (Nat × Opd)} (hl : trElems H ps.toList = some l) {own : Bool}
    {cl : Call} (he : eval cl st.env st.hp (.lit s n z l own) = some (v, h')) : Step P o a w F H.glob st.hp ρ v h' := by
  obtain ⟨env, ⟨nx, ob⟩⟩ := st
  simp only [eval] at he
  cases hf : fillE env ⟨nx, ob⟩ s (repl n z) l with
  | none => rw [hf] at he; cases he
  | some p =>
    obtain ⟨els, ob'⟩ := p
    rw [hf] at he
    simp only at he
    have hs' := sm.hs
    have hsub : ∀ y o, look ob' y = some o → look ob y = some o := fun y o hy => fillE_shed hf y o hy
    have hA : ∀ b, F b ∨ Own ρ ob' b → F b ∨ Own ρ ob b := fun b hb => hb.elim .inl (fun ⟨y, o, hy, hyb⟩ => .inr ⟨y, o, hsub y o hy, hyb⟩)
    have hgone : ∀ p ∈ l, ∀ cs, (ev env p.2).cells = some cs → ∀ x, Gone cs x → ∀ b, blkOf (ρ x) = some b → ¬ (F b ∨ Own ρ ob' b) := by
      intro p hp cs hcs x hx b hb hor
      obtain ⟨g1, o1, g2⟩ := fillE_gone hf p hp cs hcs x hx
      rcases hor with hF | ⟨y, o, hy, hyb⟩
      · exact hs'.apart b hF ⟨x, o1, g2, hb⟩
      · have : y = x := hs'.inj y x o o1 b (hsub y o hy) g2 hyb hb
        subst this
        rw [g1] at hy
        cases hy
    obtain ⟨zv, hzc, hzrun⟩ := run_zeroValue hz
    have hze : zv.cells = zs.toArray := by rw [← hzc]
    obtain ⟨ws, w1, w2, w3⟩ := fillE_rep sm hA ps.toList l (repl n z) els ob' ((Array.range (n * s)).map (zs.toArray[· % zs.toArray.size]!)) hl hf hgone (by rw [repl_eq]; exact zeros_rep hzd hzl h0 n)
    have hlen : els.length = n := by rw [w3, repl_eq]; simp
    -- what the model does
    have hrun : (Instr.buildSlice t n (ps.map fun (i, x) => (i, a.eval x))).run P w = .ok (.slice (some ⟨w.heap.size, 0, none⟩) n n) (w.alloc (.cells ws el)) := by
      have hb : ¬ (n * s > 2 ^ 24) := by omega
      have hpl : (ps.map fun (i, x) => (i, a.eval x)).toList = ps.toList.map fun p => (p.1, a.eval p.2) := by simp
      simp only [Instr.buildSlice, Sem.run_bind, run_underlying hu, Result.andThen_ok, run_sizeOf hs, if_neg hb, hpl]
      by_cases hn0 : n * s = 0
      · have hn : n = 0 := by rcases Nat.mul_eq_zero.1 hn0 with h | h; exact h; omega
        subst hn
        simp only [Nat.zero_mul, if_true, pure_bind] at w1 ⊢
        have e : (Array.map (fun x => (#[] : Array Value)[x % (#[] : Array Value).size]!) (Array.range 0)) = (Array.map (fun x => zs.toArray[x % zs.toArray.size]!) (Array.range 0)) := by simp
        rw [e, w1]
        simp [newRow]
      · simp only [if_neg hn0, Sem.run_bind, hzrun, Result.andThen_ok, Sem.run_pure, hze]
        rw [w1]
        simp [newRow]
    have hex : (execOp a.eval o).run P w = .ok (.value (.slice (some ⟨w.heap.size, 0, none⟩) n n)) (w.alloc (.cells ws el)) := by
      simp [execOp, ho, hrun]
    have hcells : (w.alloc (.cells ws el)).heap[w.heap.size]? = some (.cells ws.toList.toArray el (0, 0)) := by rw [heap_alloc_new]
    have later0 : Later F w ⟨nx, ob⟩ ρ w ⟨nx, ob'⟩ ρ := .shed hsub (Nat.le_refl _)
    have hs0 : HSim F H.glob w ⟨nx, ob'⟩ ρ := hs'.shed hsub (Nat.le_refl _)
    cases own with
    | true =>
      cases he
      obtain ⟨r1, r2, r3⟩ := new_row (gl := H.glob) hs0 (kept_alloc w (.cells ws el)) (obs := ob') (fun _ _ _ h => h) h0 w2.2.1 (c := n) (by rw [w2.1, hlen]) (by omega) (by
        have : n ≤ n * s := Nat.le_mul_of_pos_right _ h0
        omega) (fun i d v h1 h2 => w2.2.2 i d v h1 h2) hcells (free_zero _) (Nat.le_refl _)
      rw [hlen] at r1 r2 r3
      have r3' := r3
      refine .value hex (.c _ _ ?_) r1 (later0.trans r2)
      rw [hlen]
      exact r3
    | false =>
      cases he
      have hk := kept_alloc w (.cells ws el)
      refine .value hex (.c _ _ (.d _ _ ?_)) (hs0.block hk) (later0.trans (.block hk))
      have hrep : ∀ i d v, els.flatten[i]? = some d → ws.toList[i]? = some v → RepD (w.alloc (.cells ws el)) (fun b => F b ∨ Own ρ ob' b) d v := fun i d v h1 h2 =>
        (w2.2.2 i d v h1 h2).mono hk (fun _ h => h.elim) (fun b _ h => h)
      by_cases hn : els = []
      · subst hn
        have : n = 0 := by simpa using hlen.symm
        subst this
        exact .nil _ _ _
      · rw [← hlen]
        refine .list s els w.heap.size 0 els.length (fun i => ws.toList.getD i undef) (List.length_pos_iff.2 hn) h0 w2.2.1 (Nat.le_refl _) ?_ ?_ ?_
        · rintro (hF | ⟨y, o, hy, hyb⟩)
          · have := hs'.flt _ hF; omega
          · have := hs'.own_lt ⟨y, o, hsub y o hy, hyb⟩; omega
        · intro i hi
          have hlt : i < ws.toList.length := by rw [w2.1]; exact hi
          rw [Nat.zero_add, cellAt_blk hcells, List.getElem?_eq_getElem hlt, getD_of (List.getElem?_eq_getElem hlt)]
        · intro i d hd
          have hi : i < ws.toList.length := by rw [w2.1, ← flat_length w2.2.1]; exact (List.getElem?_eq_some_iff.1 hd).1
          rw [getD_of (List.getElem?_eq_getElem hi)]
          exact hrep i d ws.toList[i] hd (List.getElem?_eq_getElem hi)
theorem step_litX {N : Nat} {st : St} {H : Hint} (sm : Sim N F H.glob st ρ a w) {t el : TypeId} {n : Nat} {ps : Array (Nat × Operand)} (ho : o.op = .buildSlice t n ps) (hu : P.underlying t = some (.slice el)) {s : Nat} (hs : szOf P el = some s) {zs : List Value} (hz : zeroOf P el = some zs)
    (h0 : 0 < s) (hbig : n * s ≤ 16777216) (hzl : zs.length = s) {z : List D} (hzd : constDs zs = some z) {l : List (Nat × Opd)} (hl : trElems H ps.toList = some l)
    {cl : Call} (he : eval cl st.env st.hp (.litX s n z l) = some (v, h')) : Step P o a w F H.glob st.hp ρ v h' := by
  obtain ⟨env, ⟨nx, ob⟩⟩ := st
  simp only [eval] at he
  cases hf : fillE env ⟨nx, ob⟩ s (repl n z) l with
  | none => rw [hf] at he; cases he
  | some p =>
    obtain ⟨els, ob'⟩ := p
    rw [hf] at he
    simp only at he
    have hs' := sm.hs
    have hsub : ∀ y o, look ob' y = some o → look ob y = some o := fun y o hy => fillE_shed hf y o hy
    have hA : ∀ b, F b ∨ Own ρ ob' b → F b ∨ Own ρ ob b := fun b hb => hb.elim .inl (fun ⟨y, o, hy, hyb⟩ => .inr ⟨y, o, hsub y o hy, hyb⟩)
    have hgone : ∀ p ∈ l, ∀ cs, (ev env p.2).cells = some cs → ∀ x, Gone cs x → ∀ b, blkOf (ρ x) = some b → ¬ (F b ∨ Own ρ ob' b) := by
      intro p hp cs hcs x hx b hb hor
      obtain ⟨g1, o1, g2⟩ := fillE_gone hf p hp cs hcs x hx
      rcases hor with hF | ⟨y, o, hy, hyb⟩
      · exact hs'.apart b hF ⟨x, o1, g2, hb⟩
      · have : y = x := hs'.inj y x o o1 b (hsub y o hy) g2 hyb hb
        subst this
        rw [g1] at hy
        cases hy
    obtain ⟨zv, hzc, hzrun⟩ := run_zeroValue hz
    have hze : zv.cells = zs.toArray := by rw [← hzc]
    obtain ⟨ws, w1, w2, w3⟩ := fillE_rep sm hA ps.toList l (repl n z) els ob' ((Array.range (n * s)).map (zs.toArray[· % zs.toArray.size]!)) hl hf hgone (by rw [repl_eq]; exact zeros_rep hzd hzl h0 n)
    have hlen : els.length = n := by rw [w3, repl_eq]; simp
    -- what the model does
    have hrun : (Instr.buildSlice t n (ps.map fun (i, x) => (i, a.eval x))).run P w = .ok (.slice (some ⟨w.heap.size, 0, none⟩) n n) (w.alloc (.cells ws el)) := by
      have hb : ¬ (n * s > 2 ^ 24) := by omega
      have hpl : (ps.map fun (i, x) => (i, a.eval x)).toList = ps.toList.map fun p => (p.1, a.eval p.2) := by simp
      simp only [Instr.buildSlice, Sem.run_bind, run_underlying hu, Result.andThen_ok, run_sizeOf hs, if_neg hb, hpl]
      by_cases hn0 : n * s = 0
      · have hn : n = 0 := by rcases Nat.mul_eq_zero.1 hn0 with h | h; exact h; omega
        subst hn
        simp only [Nat.zero_mul, if_true, pure_bind] at w1 ⊢
        have e : (Array.map (fun x => (#[] : Array Value)[x % (#[] : Array Value).size]!) (Array.range 0)) = (Array.map (fun x => zs.toArray[x % zs.toArray.size]!) (Array.range 0)) := by simp
        rw [e, w1]
        simp [newRow]
      · simp only [if_neg hn0, Sem.run_bind, hzrun, Result.andThen_ok, Sem.run_pure, hze]
        rw [w1]
        simp [newRow]
    have hex : (execOp a.eval o).run P w = .ok (.value (.slice (some ⟨w.heap.size, 0, none⟩) n n)) (w.alloc (.cells ws el)) := by
      simp [execOp, ho, hrun]
    have hcells : (w.alloc (.cells ws el)).heap[w.heap.size]? = some (.cells ws.toList.toArray el (0, 0)) := by rw [heap_alloc_new]
    have later0 : Later F w ⟨nx, ob⟩ ρ w ⟨nx, ob'⟩ ρ := .shed hsub (Nat.le_refl _)
    have hs0 : HSim F H.glob w ⟨nx, ob'⟩ ρ := hs'.shed hsub (Nat.le_refl _)
    cases he
    have hk := kept_alloc w (.cells ws el)
    refine .value hex (.c _ _ ?_) (hs0.block hk) (later0.trans (.block hk))
    rw [← hlen]
    refine .lit s els _ ?_
    rw [hlen]
    have hrep : ∀ i d v, els.flatten[i]? = some d → ws.toList[i]? = some v → RepD (w.alloc (.cells ws el)) (fun b => F b ∨ Own ρ ob' b) d v := fun i d v h1 h2 =>
      (w2.2.2 i d v h1 h2).mono hk (fun _ h => h.elim) (fun b _ h => h)
    by_cases hn : els = []
    · subst hn
      have : n = 0 := by simpa using hlen.symm
      subst this
      exact .nil _ _ _
    · rw [← hlen]
      refine .list s els w.heap.size 0 els.length (fun i => ws.toList.getD i undef) (List.length_pos_iff.2 hn) h0 w2.2.1 (Nat.le_refl _) ?_ ?_ ?_
      · rintro (hF | ⟨y, o, hy, hyb⟩)
        · have := hs'.flt _ hF; omega
        · have := hs'.own_lt ⟨y, o, hsub y o hy, hyb⟩; omega
      · intro i hi
        have hlt : i < ws.toList.length := by rw [w2.1]; exact hi
        rw [Nat.zero_add, cellAt_blk hcells, List.getElem?_eq_getElem hlt, getD_of (List.getElem?_eq_getElem hlt)]
      · intro i d hd
        have hi : i < ws.toList.length := by rw [w2.1, ← flat_length w2.2.1]; exact (List.getElem?_eq_some_iff.1 hd).1
        rw [getD_of (List.getElem?_eq_getElem hi)]
        exact hrep i d ws.toList[i] hd (List.getElem?_eq_getElem hi)
theorem encB_len (s : List UInt8) : (encB s).length = s.length := by simp [encB]
theorem encB_flat (s : List UInt8) : (encB s).flatten = s.map fun b => D.int .u8 b.toNat := by
  induction s with
  | nil => rfl
  | cons b r ih => simp only [encB, List.map_cons, List.flatten_cons] at ih ⊢; rw [ih]; rfl
theorem encB_one (s : List UInt8) : ∀ e ∈ encB s, e.length = 1 := by
  intro e he
  obtain ⟨b, _, rfl⟩ := List.mem_map.1 he
  rfl
theorem step_s2b (hs : HSim F gl w h ρ) {sT t el : TypeId} {x : Operand} (ho : o.op = .convert sT t x) (ht : P.underlying t = some (.slice el)) (hu : P.underlying sT = some .string) (he8 : P.underlying el = some (.int .u8))
    {y : Opd} {own : Bool} {e : Env} (hx : RepV (cx F w h ρ) (ev e y) (a.eval x)) {cl : Call} (he : eval cl e h (.s2b y own) = some (v, h')) : Step P o a w F gl h ρ v h' := by
  obtain ⟨nx, ob⟩ := h
  simp only [eval] at he
  split at he
  · rename_i s hev
    rw [hev] at hx
    split at he
    · rename_i hroom
      -- the model's bytes
      let cap := (Question.appendCap s.length 0 el).cut (w.tape w.drawn (.appendCap s.length 0 el))
      have hcap : s.length ≤ cap := by simp [cap, Question.cut]
      have hcapm : cap ≤ 9223372036854775807 := by
        have := grownCap_le_maxLen w s.length 0 el (by unfold room at hroom; simp only [maxLen]; omega)
        simpa [grownCap, maxLen] using this
      let vs : List Value := (s.map fun b => Value.int .u8 b.toNat) ++ List.replicate (cap - s.length) (.int .u8 0)
      have hvl : vs.length = cap := by simp [vs]; omega
      let w1 : World := (w.drew.alloc (.cells vs.toArray el))
      let w2 : World := w1.freeze ⟨w.heap.size, cap, none⟩ 1
      have hb2 : w2.heap[w.heap.size]? = some (.cells vs.toArray el (cap, cap + 1)) := by
        have hb1 : w1.heap[w.heap.size]? = some (.cells vs.toArray el (0, 0)) := heap_alloc_new w.drew _
        show (w1.freeze ⟨w.heap.size, cap, none⟩ 1).heap[w.heap.size]? = _
        simp [World.freeze, Array.getElem?_modify, hb1]
      have hk : Kept (fun _ => False) w w2 := by
        refine ⟨rfl, rfl, rfl, ?_, ?_⟩
        · show w.heap.size ≤ (w1.freeze _ 1).heap.size
          simp [World.freeze, w1]
        · intro b hb _
          show (w1.freeze ⟨w.heap.size, cap, none⟩ 1).heap[b]? = _
          have : w1.heap[b]? = w.heap[b]? := heap_alloc_old w.drew _ b hb
          simp [World.freeze, Array.getElem?_modify, show ¬ w.heap.size = b by omega, this]
      have hrun : (execOp a.eval o).run P w = .ok (.value (.slice (some ⟨w.heap.size, 0, none⟩) s.length cap)) w2 := by
        have hsh : w1.shape? w.heap.size = some (el, cap) := by
          have hb1 : w1.heap[w.heap.size]? = some (.cells vs.toArray el (0, 0)) := heap_alloc_new w.drew _
          simp [World.shape?, hb1, hvl]
        have harr : (Array.map (fun b : UInt8 => Value.int .u8 (b.toNat : Int)) (⟨s⟩ : Array UInt8) ++ Array.replicate (cap - s.length) (Value.int .u8 0)) = vs.toArray := by
          apply Array.ext'
          simp [vs]
        simp only [execOp, ho, convert, ev_str hx, Sem.run_bind, run_underlying hu, run_underlying ht, run_underlying he8, Result.andThen_ok, Conv.stringToBytes, run_choose, Question.forced, bytes_size, Bool.false_eq_true, if_false, World.drew_eq]
        show (((((newRow el (Array.map (fun b : UInt8 => Value.int .u8 (b.toNat : Int)) (⟨s⟩ : Array UInt8) ++ Array.replicate (cap - s.length) (Value.int .u8 0))).run P w.drew).andThen _).andThen _)) = _
        rw [harr]
        simp only [newRow, Sem.run_bind, run_newObj, Result.andThen_ok, Sem.run_pure, markStringish, run_shape, World.alloc_eq]
        show ((((Sem.run P (match w1.shape? w.heap.size with | some (_, n) => freeze { block := w.heap.size, off := n } 1 | _ => pure ()) w1).andThen _).andThen _)) = _
        rw [hsh]
        rfl
      have hf : free (cap, cap + 1) vs.length := ⟨by simp, fun i hi h => by simp only at h; omega⟩
      have hrepv : ∀ (i : Nat) (d : D) (v : Value), (encB s).flatten[i]? = some d → vs[i]? = some v → RepD w (fun b => F b ∨ Own ρ ob b) d v := by
        intro i d v hd hv
        rw [encB_flat] at hd
        have hi : i < s.length := by have := (List.getElem?_eq_some_iff.1 hd).1; simpa using this
        simp only [vs, List.getElem?_append, List.length_map, hi, if_true] at hv
        simp [hi] at hd hv
        subst hd
        subst hv
        exact .int _ _
      cases own with
      | true =>
        cases he
        obtain ⟨r1, r2, r3⟩ := new_row (gl := gl) hs hk (obs := ob) (fun _ _ _ h => h) (sz := 1) (l := encB s) (vs := vs) (c := cap) (by omega) (encB_one s) (by omega) (by rw [encB_len]; exact hcap) hcapm hrepv hb2 hf (Nat.le_refl _)
        rw [encB_len] at r1 r2 r3
        exact .value hrun (.c _ _ r3) r1 r2
      | false =>
        cases he
        refine .value hrun (.c _ _ (.d _ _ ?_)) (hs.block hk) (.block hk)
        by_cases hn : s = []
        · subst hn
          exact .nil _ _ _
        · have := RepD.list (w := w2) (A := fun b => F b ∨ Own ρ ob b) 1 (encB s) w.heap.size 0 cap (fun i => vs.getD i undef) (by rw [encB_len]; exact List.length_pos_iff.2 hn) (by omega) (encB_one s) (by rw [encB_len]; exact hcap)
            (by
              rintro (hF | hO)
              · have := hs.flt _ hF; omega
              · have := hs.own_lt hO; omega)
            (by
              intro i hi
              rw [encB_len] at hi
              have hlt : i < vs.length := by omega
              rw [Nat.zero_add, cellAt_blk hb2, List.getElem?_eq_getElem hlt]
              simp [List.getD, hlt])
            (by
              intro i d hd
              have hi : i < s.length := by have := (List.getElem?_eq_some_iff.1 hd).1; rw [encB_flat] at this; simpa using this
              have hlt : i < vs.length := by omega
              have := (hrepv i d vs[i] hd (List.getElem?_eq_getElem hlt)).mono hk (fun _ h => h.elim) (fun b _ h => h)
              simpa [List.getD, hlt] using this)
          rw [encB_len] at this
          exact this
    · cases he
  · cases he
end
section
variable {P : Program} {o : Oper} {a : Act} {w w' : World} {F : Nat → Prop} {gl : Nat → Option (List D)} {h h' : Hp} {ρ ρ' : Rho} {v : V} {val : Value}
theorem put_later {x : Nat} {o0 o1 : Ob} {ob' : List (Nat × Ob)} {v2 : Value} (hs : HSim F gl w h ρ) (hx : look h.obs x = some o0) (hp : put h.obs x o1 = some ob') (hk : Kept (fun b => blkOf (ρ x) = some b) w w')
    (hb : ∀ b, blkOf v2 = some b → blkOf (ρ x) = some b ∨ w.heap.size ≤ b)
    (hrow : (∃ sz l l2, o0 = .row sz l ∧ o1 = .row sz l2 ∧ l.length ≤ l2.length ∧ (l2.length = l.length → v2 = ρ x)) ∨ ((∀ sz l, o1 ≠ .row sz l) ∧ v2 = ρ x)) : Later F w h ρ w' ⟨h.next, ob'⟩ (upd ρ x v2) where
  kept := hk.mono (fun b hb => ⟨x, o0, hx, hb⟩)
  own := fun b hlt ⟨y, o, hy, hyb⟩ => by
    by_cases e : y = x
    · subst e
      rw [upd_same] at hyb
      rcases hb b hyb with h | h
      · exact ⟨y, o0, hx, h⟩
      · omega
    · rw [upd_other _ _ e] at hyb
      exact ⟨y, o, by rw [← look_put_other hp e]; exact hy, hyb⟩
  next := Nat.le_refl _
  rows := fun y n _ hy => by
    by_cases e : y = x
    · subst e
      have hl := look_put_same hp
      rcases hrow with ⟨sz, l, l2, rfl, rfl, hle, hv⟩ | ⟨hno, _⟩
      · simp only [lenAt, hl, Option.some.injEq] at hy
        subst hy
        refine ⟨l.length, by simp [lenAt, hx], hle, fun he => ⟨by rw [upd_same]; exact hv he.symm, by simp [szAt, hl, hx]⟩⟩
      · simp only [lenAt, hl] at hy
        cases o1 <;> first | exact absurd rfl (hno _ _) | cases hy
    · have hl := look_put_other hp e
      exact ⟨n, by rw [← lenAt_eq hl]; exact hy, Nat.le_refl _, fun _ => ⟨upd_other _ _ e, szAt_eq hl⟩⟩
  rest := fun y _ hns => by
    by_cases e : y = x
    · subst e
      rw [upd_same]
      rcases hrow with ⟨sz, l, l2, rfl, rfl, hle, hv⟩ | ⟨_, h⟩
      · have ho := hs.obs y _ hx
        cases ho with
        | rowNil _ _ hr => exact absurd hr (hns _ _ _)
        | row _ _ b c t fr vs _ _ hr => exact absurd hr (hns _ _ _)
      · exact h
    · exact upd_other _ _ e
theorem put_hs {x : Nat} {o0 o1 : Ob} {ob' : List (Nat × Ob)} {v2 : Value} (hs : HSim F gl w h ρ) (hx : look h.obs x = some o0) (hp : put h.obs x o1 = some ob') (hk : Kept (fun b => blkOf (ρ x) = some b) w w')
    (hb : ∀ b, blkOf v2 = some b → blkOf (ρ x) = some b ∨ w.heap.size ≤ b) (later : Later F w h ρ w' ⟨h.next, ob'⟩ (upd ρ x v2)) (hrep : ObRep (cx F w' ⟨h.next, ob'⟩ (upd ρ x v2)) x o1) : HSim F gl w' ⟨h.next, ob'⟩ (upd ρ x v2) := by
  refine hs.change later x o1 (look_put_same hp) (hs.lt x o0 hx) hrep (fun y o hy hl => by rw [← look_put_other hp hy]; exact hl) (fun y o hy _ => upd_other _ _ hy) ?_ ?_ ?_
  · intro y o b hy hl hbb
    refine hk.block b (hs.own_lt ⟨y, o, hl, hbb⟩) (fun h => hy (hs.inj y x o o0 b hl hx hbb h))
  · intro y o b hy hl hbb hc
    rw [upd_same] at hc
    rcases hb b hc with h | h
    · exact hy (hs.inj y x o o0 b hl hx hbb h)
    · have := hs.own_lt ⟨y, o, hl, hbb⟩; omega
  · intro b hF hc
    rw [upd_same] at hc
    rcases hb b hc with h | h
    · exact hs.apart b hF ⟨x, o0, hx, h⟩
    · have := hs.flt b hF; omega
theorem run_storeCells_free (g o : Nat) (t : TypeId) (fr : Nat × Nat) : ∀ (vs : List Value) (i : Nat) (cur : Array Value) (w : World), w.heap[g]? = some (.cells cur t fr) → free fr cur.size → o + i + vs.length ≤ cur.size → (∀ v ∈ vs, v.oneCell' = true) →
    (storeCells ⟨g, o, none⟩ vs i).run P w = .ok () (w.setRow g (cur.toList.take (o + i) ++ vs ++ cur.toList.drop (o + i + vs.length)).toArray)
  | [], i, cur, w, hg, _, _, _ => by
    simp only [storeCells, List.append_nil, List.length_nil, Nat.add_zero, List.take_append_drop, Array.toArray_toList]
    rw [setRow_self w g cur t fr hg]
    rfl
  | v :: rest, i, cur, w, hg, hfr, hl, h1 => by
    have hi : o + i < cur.size := by simp at hl; omega
    have hcell : w.cell? ⟨g, o + i, none⟩ = some cur[o + i] := by simp [World.cell?, hg, hi]
    have hfro : w.frozen? ⟨g, o + i, none⟩ = false := by
      have := hfr.2 (o + i) hi
      simp only [World.frozen?, hg]
      simp only [Bool.and_eq_false_iff, decide_eq_false_iff_not]
      omega
    have hst : (store ((⟨g, o, none⟩ : Addr).add i) v).run P w = .ok () (w.setRow g (cur.setIfInBounds (o + i) v)) := by
      rw [addr_add, run_store P w _ v _ (h1 v (by simp)), hcell]
      simp [hfro, setCell_eq_setRow w g (o + i) cur t fr v hg]
    have ih := run_storeCells_free g o t fr rest (i + 1) (cur.setIfInBounds (o + i) v) (w.setRow g (cur.setIfInBounds (o + i) v)) (setRow_heap w g cur _ t _ hg) (by simpa using hfr) (by simp at hl ⊢; omega) (fun x hx => h1 x (by simp [hx]))
    simp only [storeCells, Sem.run_bind, hst, Result.andThen_ok, ih, setRow_setRow]
    congr 3
    have e := list_seg_step cur.toList (o + i) v rest (by simp at hl ⊢; omega)
    simpa [Array.toList_setIfInBounds, Nat.add_assoc] using e
theorem kept_setRow (w : World) (g : Nat) (cs : Array Value) : Kept (fun b => b = g) w (w.setRow g cs) :=
  ⟨rfl, rfl, rfl, by simp, fun b _ hb => setRow_other w g b cs hb⟩
theorem run_store_at (w : World) {t : TypeId} {n : Nat} (hz : szOf P t = some n) {val : Value} {us : List Value} (hv : val.cells = us.toArray) (hn : us.length = n) (h1 : ∀ v ∈ us, v.oneCell' = true)
    {g off : Nat} {vs : List Value} {tt : TypeId} {fr : Nat × Nat} (hg : w.heap[g]? = some (.cells vs.toArray tt fr)) (hf : free fr vs.length) (hfit : off + us.length ≤ vs.length) :
    (Instr.storeAt t (.pointer (some ⟨g, off, none⟩)) val).run P w = .ok () (w.setRow g (vs.take off ++ us ++ vs.drop (off + us.length)).toArray) := by
  have hst := run_storeCells_free (P := P) g off tt fr us 0 vs.toArray w hg (by simpa using hf) (by simpa using hfit) h1
  simp only [Nat.add_zero] at hst
  have hsz : ¬ (val.cells.size ≠ n) := by rw [hv]; simp [hn]
  simp only [Instr.storeAt, Instr.sureAddr, storeVar, Sem.run_bind, Sem.run_pure, Result.andThen_ok, run_sizeOf hz]
  rw [if_neg hsz]
  simp only [hv]
  simpa using hst
theorem flat_set {l : List (List D)} {sz i off : Nat} {el ds el' : List D} (hs : ∀ e ∈ l, e.length = sz) (hi : l[i]? = some el) (hsp : splice el off ds = some el') :
    (l.set i el').flatten = l.flatten.take (i * sz + off) ++ ds ++ l.flatten.drop (i * sz + off + ds.length) ∧ (∀ e ∈ l.set i el', e.length = sz) := by
  obtain ⟨e1, e2⟩ := splice_eq hsp
  have hlt : i < l.length := (List.getElem?_eq_some_iff.1 hi).1
  have helz : el.length = sz := hs el (List.mem_of_getElem? hi)
  have hel'z : el'.length = sz := by rw [e1]; simp; omega
  have h1 : splice l i [el'] = some (l.set i el') := by
    clear e1 e2 hsp helz hel'z
    have : ∀ (l : List (List D)) (i : Nat), i < l.length → splice l i [el'] = some (l.set i el') := by
      intro l
      induction l with
      | nil => intro i h; simp at h
      | cons a r ih =>
        intro i h
        cases i with
        | zero => cases r <;> rfl
        | succ i => simp [splice, ih i (by simpa using h)]
    exact this l i hlt
  obtain ⟨f1, f2, _, _⟩ := flat_splice hs h1 hel'z
  refine ⟨?_, f2⟩
  rw [f1]
  apply List.ext_getElem?
  intro j
  have hfl : l.flatten.length = l.length * sz := flat_length hs
  have hbig : i * sz + sz ≤ l.length * sz := by
    calc i * sz + sz = (i + 1) * sz := by rw [Nat.add_mul, Nat.one_mul]
      _ ≤ l.length * sz := Nat.mul_le_mul_right _ hlt
  have hget : ∀ k, k < sz → l.flatten[i * sz + k]? = el[k]? := by
    intro k hk
    have : el[k]? = some (el[k]'(by omega)) := List.getElem?_eq_getElem (by omega)
    rw [this]
    exact flat_get hs hi this
  simp only [List.append_assoc, List.getElem?_append, List.length_take, hel'z, List.getElem?_take, List.getElem?_drop]
  rw [show min (i * sz) l.flatten.length = i * sz by omega, show min (i * sz + off) l.flatten.length = i * sz + off by omega]
  by_cases c1 : j < i * sz
  · rw [if_pos c1, if_pos c1, if_pos (by omega), if_pos (by omega)]
  · rw [if_neg c1]
    by_cases c2 : j - i * sz < sz
    · rw [if_pos c2, e1]
      simp only [List.append_assoc, List.getElem?_append, List.length_take, List.getElem?_take, List.getElem?_drop]
      rw [show min off el.length = off by omega]
      by_cases c3 : j - i * sz < off
      · rw [if_pos c3, if_pos c3, if_pos (by omega), if_pos (by omega)]
        have := hget (j - i * sz) c2
        rw [show i * sz + (j - i * sz) = j by omega] at this
        exact this.symm
      · have c3' : ¬ j < i * sz + off := by omega
        rw [if_neg c3, if_neg c3']
        rw [show j - (i * sz + off) = j - i * sz - off by omega]
        by_cases c4 : j - i * sz - off < ds.length
        · rw [if_pos c4, if_pos c4]
        · rw [if_neg c4, if_neg c4]
          have := hget (off + ds.length + (j - i * sz - off - ds.length)) (by omega)
          rw [← this]
          congr 1
          omega
    · have d1 : ¬ j < i * sz + off := by omega
      have d2 : ¬ j - (i * sz + off) < ds.length := by omega
      rw [if_neg c2, if_neg d1, if_neg d2]
      congr 1
      omega
theorem step_store (hs : HSim F gl w h ρ) {t : TypeId} {x y : Operand} (ho : o.op = .store t x y) {n : Nat} (hz : szOf P t = some n) {x' y' : Opd} {e : Env} (hx : RepV (cx F w h ρ) (ev e x') (a.eval x)) (hy : RepV (cx F w h ρ) (ev e y') (a.eval y))
    {cl : Call} (he : eval cl e h (.store x' y' n) = some (v, h')) : Step P o a w F gl h ρ v h' := by
  obtain ⟨nx, ob⟩ := h
  simp only [eval] at he
  cases hc : (ev e y').cells with
  | none => rw [hc] at he; cases he
  | some vs =>
    rw [hc] at he
    simp only at he
    obtain ⟨us, u0, u1, u2, u3⟩ := cells_rep hy hc
    have hone : ∀ v ∈ us, v.oneCell' = true := by
      intro u hu
      obtain ⟨i, hi, rfl⟩ := List.mem_iff_getElem.1 hu
      have hi' : i < vs.length := by omega
      exact (u2 i vs[i] us[i] (List.getElem?_eq_getElem hi') (List.getElem?_eq_getElem hi)).one (u3 _ (List.getElem_mem hi'))
    split at he
    · rename_i hn
      generalize hpv : a.eval x = pv at hx
      split at he
      · rename_i y0 off hev
        rw [hev] at hx
        split at he
        · rename_i cs hl
          cases hsp : splice cs off vs with
          | none => rw [hsp] at he; cases he
          | some cs' =>
            rw [hsp] at he
            simp only at he
            cases hp : put ob y0 (.cells cs') with
            | none => rw [hp] at he; cases he
            | some ob' =>
              rw [hp] at he
              cases he
              cases hx with
              | c _ _ hq =>
                cases hq with
                | ptr _ _ b hx' hr =>
                  have hob := hs.obs y0 _ hl
                  cases hob with
                  | cells _ b' tt fr ws hr' hb hlen hf hcs honec =>
                    have eb : b' = b := by
                      have := hr'.symm.trans hr
                      injection this with this
                      injection this with this
                      injection this
                    subst eb
                    have hρ : ρ y0 = .pointer (some ⟨b', 0, none⟩) := hr
                    obtain ⟨g1, g2, g3⟩ := splice_rep (X := cx F w ⟨nx, ob⟩ ρ) ⟨hlen, hcs⟩ ⟨u1, u2⟩ hsp
                    have hrun := run_store_at (P := P) w hz u0 (by omega) hone hb hf g2
                    have hk : Kept (fun b => blkOf (ρ y0) = some b) w (w.setRow b' (ws.take off ++ us ++ ws.drop (off + us.length)).toArray) :=
                      (kept_setRow w b' _).mono (fun x hx => by rw [hρ]; simp [blkOf, hx])
                    have later : Later F w ⟨nx, ob⟩ ρ (w.setRow b' (ws.take off ++ us ++ ws.drop (off + us.length)).toArray) ⟨nx, ob'⟩ (upd ρ y0 (ρ y0)) :=
                      put_later hs hl hp hk (fun b hb => .inl hb) (.inr ⟨fun sz l h => (nomatch h), rfl⟩)
                    refine .skip (ρ' := upd ρ y0 (ρ y0)) ?_ (put_hs hs hl hp hk (fun b hb => .inl hb) later ?_) later
                    · simp [execOp, ho, hpv, hrun]
                    · refine .cells cs' b' tt fr _ (by show upd ρ y0 (ρ y0) y0 = _; rw [upd_same]; exact hr) (setRow_heap w b' _ _ tt fr hb) g1.1 ?_ (fun i q v h1 h2 => (g1.2 i q v h1 h2).mono later) ?_
                      · have : (ws.take off ++ us ++ ws.drop (off + us.length)).length = ws.length := by simp; omega
                        rw [this]; exact hf
                      · intro q hq
                        rcases g3 q hq with h | h
                        · exact honec q h
                        · exact u3 q h
        · cases he
      · rename_i y0 m i off hev
        rw [hev] at hx
        cases hds : toDs ⟨nx, ob⟩ vs with
        | none => rw [hds] at he; cases he
        | some ds =>
          rw [hds] at he
          simp only at he
          split at he
          · rename_i sz l hl
            split at he
            · rename_i hm
              cases hel : l[i]? with
              | none => rw [hel] at he; cases he
              | some el =>
                rw [hel] at he
                simp only at he
                cases hsp : splice el off ds with
                | none => rw [hsp] at he; cases he
                | some el' =>
                  rw [hsp] at he
                  simp only at he
                  cases hp : put (shedCs ob vs) y0 (.row sz (l.set i el')) with
                  | none => rw [hp] at he; cases he
                  | some ob' =>
                    rw [hp] at he
                    cases he
                    have hsub : ∀ y o, look (shedCs ob vs) y = some o → look ob y = some o := fun y o h => look_shedCs h
                    have hl0 : look ob y0 = some (.row sz l) := hsub _ _ hl
                    have later0 : Later F w ⟨nx, ob⟩ ρ w ⟨nx, shedCs ob vs⟩ ρ := .shed hsub (Nat.le_refl _)
                    have hs1 : HSim F gl w ⟨nx, shedCs ob vs⟩ ρ := hs.shed hsub (Nat.le_refl _)
                    cases hx with
                    | c _ _ hq =>
                      obtain ⟨b, c, tt, fr, ws, hr, rfl, hb, hlen, hcl, hmx, hf, hz', hse, hrep, hi⟩ := row_at hs hq hl0 hm hel
                      obtain ⟨t1, t2⟩ := toDs_rep hs (A' := fun b => F b ∨ Own ρ (shedCs ob vs) b) (fun b hb => hb.elim .inl (fun ⟨y, o, hy, hyb⟩ => .inr ⟨y, o, hsub y o hy, hyb⟩)) ⟨u1, u2⟩ hds (by
                        rintro x1 hg b1 hb1 (hF | ⟨y1, o1, hy1, hyb1⟩)
                        · obtain ⟨n1, hn1⟩ := hg
                          obtain ⟨o2, ho2⟩ := toDs_live hds hn1
                          exact hs.apart b1 hF ⟨x1, o2, ho2, hb1⟩
                        · obtain ⟨hng, hy0⟩ := look_shedCs_iff.1 hy1
                          obtain ⟨n1, hn1⟩ := hg
                          obtain ⟨o2, ho2⟩ := toDs_live hds hn1
                          have : y1 = x1 := hs.inj y1 x1 o1 o2 b1 hy0 ho2 hyb1 hb1
                          subst this
                          exact hng ⟨n1, hn1⟩)
                      obtain ⟨e1, e2⟩ := splice_eq hsp
                      have helz : el.length = sz := hse el (List.mem_of_getElem? hel)
                      have hbig : i * sz + sz ≤ c * sz := by
                        calc i * sz + sz = (i + 1) * sz := by rw [Nat.add_mul, Nat.one_mul]
                          _ ≤ c * sz := Nat.mul_le_mul_right _ (by omega)
                      have hfit : i * sz + off + us.length ≤ ws.length := by omega
                      have hrun := run_store_at (P := P) w hz u0 (by omega) hone hb hf hfit
                      have hk : Kept (fun b => blkOf (ρ y0) = some b) w (w.setRow b (ws.take (i * sz + off) ++ us ++ ws.drop (i * sz + off + us.length)).toArray) :=
                        (kept_setRow w b _).mono (fun x hx => by rw [hr]; simp [blkOf, hx])
                      have later : Later F w ⟨nx, shedCs ob vs⟩ ρ (w.setRow b (ws.take (i * sz + off) ++ us ++ ws.drop (i * sz + off + us.length)).toArray) ⟨nx, ob'⟩ (upd ρ y0 (ρ y0)) :=
                        put_later hs1 hl hp hk (fun b hb => .inl hb) (.inl ⟨sz, l, _, rfl, rfl, by simp, fun _ => rfl⟩)
                      obtain ⟨f1, f2⟩ := flat_set hse hel hsp
                      refine .skip (ρ' := upd ρ y0 (ρ y0)) ?_ (put_hs hs1 hl hp hk (fun b hb => .inl hb) later ?_) (later0.trans later)
                      · simp [execOp, ho, hpv, hrun]
                      · refine .row sz _ b c tt fr _ hz' f2 (by show upd ρ y0 (ρ y0) y0 = _; rw [upd_same]; simpa using hr) (setRow_heap w b _ _ tt fr hb) (by simp; omega) (by simpa using hcl) hmx ?_ ?_ (row_fr hs1 hl hr hb)
                        · have : (ws.take (i * sz + off) ++ us ++ ws.drop (i * sz + off + us.length)).length = ws.length := by simp; omega
                          rw [this]; exact hf
                        · intro j d v hd hv
                          rw [f1] at hd
                          have hfl : l.flatten.length = l.length * sz := flat_length hse
                          have hlc : l.length * sz ≤ c * sz := Nat.mul_le_mul_right _ hcl
                          have hil : i * sz + sz ≤ l.length * sz := by
                            calc i * sz + sz = (i + 1) * sz := by rw [Nat.add_mul, Nat.one_mul]
                              _ ≤ l.length * sz := Nat.mul_le_mul_right _ hi
                          simp only [List.append_assoc, List.getElem?_append, List.length_take] at hd hv
                          rw [show min (i * sz + off) l.flatten.length = i * sz + off by omega] at hd
                          rw [show min (i * sz + off) ws.length = i * sz + off by omega] at hv
                          by_cases c1 : j < i * sz + off
                          · rw [if_pos c1, List.getElem?_take, if_pos c1] at hd hv
                            exact ((hrep j d v hd hv).later later0).later later
                          · rw [if_neg c1] at hd hv
                            by_cases c2 : j - (i * sz + off) < ds.length
                            · rw [if_pos c2] at hd
                              rw [if_pos (by omega)] at hv
                              exact (t2 _ d v hd hv).later later
                            · rw [if_neg c2, List.getElem?_drop] at hd
                              rw [if_neg (by omega), List.getElem?_drop] at hv
                              rw [t1] at hv
                              exact ((hrep _ d v hd hv).later later0).later later
            · cases he
          · cases he
      · cases he
    · cases he
end
section
variable {P : Program} {o : Oper} {a : Act} {w w' : World} {F : Nat → Prop} {gl : Nat → Option (List D)} {h h' : Hp} {ρ ρ' : Rho} {v : V} {val : Value}
structure ElemOk (P : Program) (t e : TypeId) (i : TypeInfo) (z : Value) (sz : Nat) : Prop where
  ht : P.underlying t = some (.slice e)
  hi : P.info? e = some i
  hz : i.zero = some z
  hs : i.size = sz
  h0 : 0 < sz
  hb : i.bytes ≤ 65536
  hc : z.cells.size = sz
theorem run_append_zero (w : World) {t ty e : TypeId} {i : TypeInfo} (ht : P.underlying t = some (.slice e)) (hi : P.info? e = some i) (base b' : Option Addr) (n cap c : Nat) (hn : n ≤ cap) :
    (Builtin.append_ #[t, t] ty #[.slice base n cap, .slice b' 0 c]).run P w = .ok (.slice base n cap) w := by
  have hf : (Builtin.firstCells i.size 0 (.slice b' 0 c)).run P w = .ok #[] w := by
    cases b' <;> simp [Builtin.firstCells, loadCells, loadCellsFrom]
  cases base <;> simp [Builtin.append_, run_underlying ht, sizeOf, typeInfo, hi, Builtin.lenOf, hn, hf, storeCells]
theorem news_of {sz : Nat} {l : List (List D)} {mine : Bool} {b off c : Nat} {vs : Nat → Value} (sr : SlRep F w h ρ sz l mine b off c vs) :
    ∃ us : List Value, us.length = l.length * sz ∧ (∀ (j : Nat) (u : Value), us[j]? = some u → w.cell? ((⟨b, off, none⟩ : Addr).add j) = some u) ∧ (∀ u ∈ us, u.oneCell' = true) ∧
      ∀ (i : Nat) (d : D) (u : Value), l.flatten[i]? = some d → us[i]? = some u → RepD w (fun b => F b ∨ Own ρ h.obs b) d u := by
  refine ⟨(List.range (l.length * sz)).map vs, by simp, ?_, ?_, ?_⟩
  · intro j u hu
    by_cases hj : j < l.length * sz
    · simp only [List.getElem?_map, List.getElem?_range hj, Option.map_some, Option.some.injEq] at hu
      subst hu
      rw [addr_add]
      exact sr.cell j hj
    · simp [hj] at hu
  · intro u hu
    obtain ⟨j, hj, rfl⟩ := List.mem_map.1 hu
    have hj' : j < l.flatten.length := by rw [flat_length sr.hs]; simpa using hj
    have := sr.rep j l.flatten[j] (List.getElem?_eq_getElem hj')
    generalize l.flatten[j] = d at this
    generalize vs j = u at this
    cases this <;> rfl
  · intro i d u hd hu
    have hi : i < l.length * sz := by rw [← flat_length sr.hs]; exact (List.getElem?_eq_some_iff.1 hd).1
    simp only [List.getElem?_map, List.getElem?_range hi, Option.map_some, Option.some.injEq] at hu
    subst hu
    exact sr.rep i d hd
theorem zeroCells_size (z : Array Value) (n : Nat) : (Builtin.zeroCells z n).size = n * z.size := size_zeroCells z n
def AppDone (P : Program) (F : Nat → Prop) (gl : Nat → Option (List D)) (w : World) (nx : Nat) (ob ob' : List (Nat × Ob)) (ρ : Rho) (t ty : TypeId) (xv yv : Value) (q : C) : Prop :=
  ∃ r w1 ρ', (Builtin.append_ #[t, t] ty #[xv, yv]).run P w = .ok r w1 ∧ RepC (cx F w1 ⟨nx, ob'⟩ ρ') q r ∧ HSim F gl w1 ⟨nx, ob'⟩ ρ' ∧ Later F w ⟨nx, ob⟩ ρ w1 ⟨nx, ob'⟩ ρ'
section
variable {nx zz sz cp b2 off2 : Nat} {ob ob' : List (Nat × Ob)} {l ys : List (List D)} {t ty el : TypeId} {i : TypeInfo} {z : Value} {mine : Bool} {vs2 : Nat → Value}
theorem append_grown (hs : HSim F gl w ⟨nx, ob⟩ ρ) (zlt : zz < nx) (hl : look ob zz = some (.row sz l)) (hp : put ob zz (.row sz (l ++ ys)) = some ob') (ok : ElemOk P t el i z sz) (hys : 0 < ys.length) (hroom : l.length + ys.length ≤ room)
    (hse : ∀ e ∈ l ++ ys, e.length = sz) {us olds : List Value} (u1 : us.length = ys.length * sz) (u4 : ∀ (i : Nat) (d : D) (u : Value), ys.flatten[i]? = some d → us[i]? = some u → RepD w (fun b => F b ∨ Own ρ ob b) d u)
    (ol1 : olds.length = l.length * sz) (ol2 : ∀ (i : Nat) (d : D) (u : Value), l.flatten[i]? = some d → olds[i]? = some u → RepD w (fun b => F b ∨ Own ρ ob b) d u) (old : Nat) {xv yv : Value}
    (hrun : (Builtin.append_ #[t, t] ty #[xv, yv]).run P w = .ok (.slice (some ⟨w.heap.size, 0, none⟩) (l.length + ys.length) (grownCap w (l.length + ys.length) old el))
      (w.drew.alloc (.cells (olds.toArray ++ us.toArray ++ Builtin.zeroCells z.cells (grownCap w (l.length + ys.length) old el - (l.length + ys.length))) el))) :
    AppDone P F gl w nx ob ob' ρ t ty xv yv (.own zz (l ++ ys).length) := by
  have hlenf : (l ++ ys).length = l.length + ys.length := by simp
  have hroomm : l.length + ys.length ≤ 9223372036854775807 := by unfold room at hroom; omega
  have hcapge := grownCap_ge w (l.length + ys.length) old el
  have hcaple := grownCap_le_maxLen w (l.length + ys.length) old el (by simp only [maxLen]; omega)
  simp only [maxLen] at hcaple
  generalize grownCap w (l.length + ys.length) old el = cap at *
  generalize hW : w.drew.alloc (.cells (olds.toArray ++ us.toArray ++ Builtin.zeroCells z.cells (cap - (l.length + ys.length))) el) = W at *
  have hk0 : Kept (fun _ => False) w W := by rw [← hW]; exact (kept_drew w).trans (kept_alloc w.drew _) (fun _ _ h => h)
  have hk : Kept (fun b => blkOf (ρ zz) = some b) w W := hk0.mono (fun _ h => h.elim)
  have hb2 : ∀ b, blkOf (.slice (some ⟨w.heap.size, 0, none⟩) (l.length + ys.length) cap) = some b → blkOf (ρ zz) = some b ∨ w.heap.size ≤ b := fun b hb => .inr (by simp [blkOf] at hb; omega)
  have later : Later F w ⟨nx, ob⟩ ρ W ⟨nx, ob'⟩ (upd ρ zz (.slice (some ⟨w.heap.size, 0, none⟩) (l.length + ys.length) cap)) :=
    put_later hs hl hp hk hb2 (.inl ⟨sz, l, _, rfl, rfl, by simp, fun h => absurd h (by rw [hlenf]; omega)⟩)
  have hws : W.heap[w.heap.size]? = some (.cells (olds ++ us ++ (Builtin.zeroCells z.cells (cap - (l.length + ys.length))).toList).toArray el (0, 0)) := by
    have := heap_alloc_new w.drew (.cells (olds.toArray ++ us.toArray ++ Builtin.zeroCells z.cells (cap - (l.length + ys.length))) el)
    rw [hW, show w.drew.heap.size = w.heap.size from rfl] at this
    rw [this]
    congr 2
    apply Array.ext'
    simp
  have hwl : (olds ++ us ++ (Builtin.zeroCells z.cells (cap - (l.length + ys.length))).toList).length = cap * sz := by
    simp only [List.length_append, ol1, u1, Array.length_toList, zeroCells_size, ok.hc, ← Nat.add_mul]
    congr 1
    omega
  refine ⟨_, W, upd ρ zz (.slice (some ⟨w.heap.size, 0, none⟩) (l.length + ys.length) cap), hrun, .own zz _ _ _ _ zlt ?_ (fun _ => upd_same _ _ _), put_hs hs hl hp hk hb2 later ?_, later⟩
  · intro m hm
    simp only [lenAt, look_put_same hp, Option.some.injEq] at hm
    omega
  · refine .row sz (l ++ ys) w.heap.size cap el (0, 0) _ ok.h0 hse (by rw [hlenf]; exact upd_same _ _ _) hws hwl (by omega) hcaple (free_zero _) ?_ (fun _ => rfl)
    intro j d u hd hu
    rw [List.flatten_append] at hd
    have hfl : l.flatten.length = l.length * sz := flat_length (fun e he => hse e (List.mem_append_left _ he))
    have hfy : ys.flatten.length = ys.length * sz := flat_length (fun e he => hse e (List.mem_append_right _ he))
    simp only [List.append_assoc, List.getElem?_append, hfl, ol1] at hd hu
    by_cases c1 : j < l.length * sz
    · rw [if_pos c1] at hd hu
      exact (ol2 j d u hd hu).later later
    · rw [if_neg c1] at hd hu
      have hj2 : j - l.length * sz < us.length := by
        rw [u1, ← hfy]; exact (List.getElem?_eq_some_iff.1 hd).1
      rw [if_pos hj2] at hu
      exact (u4 _ d u hd hu).later later
theorem append_roomy (hs : HSim F gl w ⟨nx, ob⟩ ρ) (zlt : zz < nx) (hl : look ob zz = some (.row sz l)) (hp : put ob zz (.row sz (l ++ ys)) = some ob') (ok : ElemOk P t el i z sz) (hys : 0 < ys.length)
    (hse : ∀ e ∈ l ++ ys, e.length = sz) {us : List Value} (u1 : us.length = ys.length * sz) (u2 : ∀ (j : Nat) (u : Value), us[j]? = some u → w.cell? ((⟨b2, off2, none⟩ : Addr).add j) = some u) (u3 : ∀ u ∈ us, u.oneCell' = true)
    (u4 : ∀ (i : Nat) (d : D) (u : Value), ys.flatten[i]? = some d → us[i]? = some u → RepD w (fun b => F b ∨ Own ρ ob b) d u)
    {b c' : Nat} {tt : TypeId} {fr : Nat × Nat} {ws : List Value} (hρ : ρ zz = .slice (some ⟨b, 0, none⟩) l.length c') (hb : w.heap[b]? = some (.cells ws.toArray tt fr)) (hlen' : ws.length = c' * sz) (hm : c' ≤ 9223372036854775807)
    (hf : free fr ws.length) (hrep : ∀ (i : Nat) (d : D) (v : Value), l.flatten[i]? = some d → ws[i]? = some v → RepD w (fun b => F b ∨ Own ρ ob b) d v) (hfit : l.length + ys.length ≤ c') :
    AppDone P F gl w nx ob ob' ρ t ty (.slice (some ⟨b, 0, none⟩) l.length c') (.slice (some ⟨b2, off2, none⟩) ys.length cp) (.own zz (l ++ ys).length) := by
  have hlenf : (l ++ ys).length = l.length + ys.length := by simp
  have hfits : l.length * sz + us.length ≤ ws.length := by
    rw [u1, hlen', ← Nat.add_mul]; exact Nat.mul_le_mul_right _ hfit
  have hst := run_storeCells_free (P := P) b (l.length * sz) tt fr us 0 ws.toArray w hb (by simpa using hf) (by simpa using hfits) u3
  simp only [Nat.add_zero] at hst
  have hfc := run_firstCells_some (P := P) w sz ys.length ⟨b2, off2, none⟩ ys.length cp us u1 u2
  have hst' : (storeCells ⟨b, l.length * sz, none⟩ us).run P w = .ok () (w.setRow b (ws.take (l.length * sz) ++ us ++ ws.drop (l.length * sz + us.length)).toArray) := by simpa using hst
  have hwlen : (ws.take (l.length * sz) ++ us ++ ws.drop (l.length * sz + us.length)).length = ws.length := by simp; omega
  have hget : ∀ (j : Nat) (d : D) (u : Value), (l ++ ys).flatten[j]? = some d → (ws.take (l.length * sz) ++ us ++ ws.drop (l.length * sz + us.length))[j]? = some u → RepD w (fun b => F b ∨ Own ρ ob b) d u := by
    intro j d u hd hu
    rw [List.flatten_append] at hd
    have hfl : l.flatten.length = l.length * sz := flat_length (fun e he => hse e (List.mem_append_left _ he))
    have hfy : ys.flatten.length = ys.length * sz := flat_length (fun e he => hse e (List.mem_append_right _ he))
    simp only [List.append_assoc, List.getElem?_append, hfl, List.length_take] at hd hu
    rw [show min (l.length * sz) ws.length = l.length * sz by omega] at hu
    by_cases c1 : j < l.length * sz
    · rw [if_pos c1] at hd
      rw [if_pos c1, List.getElem?_take, if_pos c1] at hu
      exact hrep j d u hd hu
    · rw [if_neg c1] at hd hu
      have hj2 : j - l.length * sz < us.length := by
        rw [u1, ← hfy]; exact (List.getElem?_eq_some_iff.1 hd).1
      rw [if_pos hj2] at hu
      exact u4 _ d u hd hu
  generalize ws.take (l.length * sz) ++ us ++ ws.drop (l.length * sz + us.length) = ws2 at *
  have hrun : (Builtin.append_ #[t, t] ty #[.slice (some ⟨b, 0, none⟩) l.length c', .slice (some ⟨b2, off2, none⟩) ys.length cp]).run P w = .ok (.slice (some ⟨b, 0, none⟩) (l.length + ys.length) c') (w.setRow b ws2.toArray) := by
    simp [Builtin.append_, run_underlying ok.ht, sizeOf, typeInfo, ok.hi, Builtin.lenOf, hfit, hfc, addr_add, ok.hs, hst']
  have hk : Kept (fun b => blkOf (ρ zz) = some b) w (w.setRow b ws2.toArray) := (kept_setRow w b _).mono (fun x hx => by rw [hρ]; simp [blkOf, hx])
  have hb2 : ∀ b', blkOf (.slice (some ⟨b, 0, none⟩) (l.length + ys.length) c') = some b' → blkOf (ρ zz) = some b' ∨ w.heap.size ≤ b' := fun b' hb' => .inl (by rw [hρ]; simpa [blkOf] using hb')
  have later : Later F w ⟨nx, ob⟩ ρ (w.setRow b ws2.toArray) ⟨nx, ob'⟩ (upd ρ zz (.slice (some ⟨b, 0, none⟩) (l.length + ys.length) c')) :=
    put_later hs hl hp hk hb2 (.inl ⟨sz, l, _, rfl, rfl, by simp, fun h => absurd h (by rw [hlenf]; omega)⟩)
  refine ⟨_, _, upd ρ zz (.slice (some ⟨b, 0, none⟩) (l.length + ys.length) c'), hrun, .own zz _ _ _ _ zlt ?_ (fun _ => upd_same _ _ _), put_hs hs hl hp hk hb2 later ?_, later⟩
  · intro m hm'
    simp only [lenAt, look_put_same hp, Option.some.injEq] at hm'
    omega
  · exact .row sz (l ++ ys) b c' tt fr ws2 ok.h0 hse (by rw [hlenf]; exact upd_same _ _ _) (setRow_heap w b _ _ tt fr hb) (by rw [hwlen, hlen']) (by omega) hm (by rw [hwlen]; exact hf) (fun j d u hd hu => (hget j d u hd hu).later later) (row_fr hs hl hρ hb)
theorem append_none (hs : HSim F gl w ⟨nx, ob⟩ ρ) (zlt : zz < nx) (hl : look ob zz = some (.row sz l)) (hp : put ob zz (.row sz (l ++ [])) = some ob') (ok : ElemOk P t el i z sz) {ax b' : Option Addr} {m c c2 : Nat} (hρ : ρ zz = .slice ax m c) :
    AppDone P F gl w nx ob ob' ρ t ty (.slice ax m c) (.slice b' 0 c2) (.own zz (l ++ []).length) := by
  have hob := hs.obs zz _ hl
  have hle' : m ≤ c := by
    cases hob with
    | rowNil _ _ hr => have := hr.symm.trans hρ; cases this; exact Nat.le_refl _
    | row _ _ b c' tt fr ws _ _ hr _ _ hc' => have := hr.symm.trans hρ; cases this; exact hc'
  have hrun := run_append_zero (P := P) (ty := ty) w ok.ht ok.hi ax b' m c c2 hle'
  have later : Later F w ⟨nx, ob⟩ ρ w ⟨nx, ob'⟩ (upd ρ zz (ρ zz)) := put_later hs hl hp (.refl _ _) (fun b hb => .inl hb) (.inl ⟨sz, l, _, rfl, rfl, by simp, fun _ => rfl⟩)
  have hob' : ObRep (cx F w ⟨nx, ob'⟩ (upd ρ zz (ρ zz))) zz (.row sz (l ++ [])) := by
    have := ObRep.mono later (upd_same _ _ _) (fun b _ => rfl) hob
    simpa using this
  refine ⟨_, w, upd ρ zz (ρ zz), hrun, .own zz _ ax m c zlt ?_ (fun _ => (upd_same _ _ _).trans hρ), put_hs hs hl hp (.refl _ _) (fun b hb => .inl hb) later hob', later⟩
  intro k hk
  simp only [lenAt, look_put_same hp, Option.some.injEq] at hk
  omega
theorem append_row (hs : HSim F gl w ⟨nx, ob⟩ ρ) (hl : look ob zz = some (.row sz l)) (hp : put ob zz (.row sz (l ++ ys)) = some ob') (ok : ElemOk P t el i z sz) (hroom : l.length + ys.length ≤ room) {xv : Value} {b' : Option Addr}
    (hx : RepC (cx F w ⟨nx, ob⟩ ρ) (.own zz l.length) xv) (hcase : ys = [] ∨ ∃ (b off : Nat) (vs : Nat → Value), b' = some ⟨b, off, none⟩ ∧ SlRep F w ⟨nx, ob⟩ ρ sz ys mine b off cp vs) :
    AppDone P F gl w nx ob ob' ρ t ty xv (.slice b' ys.length cp) (.own zz (l ++ ys).length) := by
  have hlen : lenAt ob zz = some l.length := by simp [lenAt, hl]
  have hob := hs.obs zz _ hl
  cases hx with
  | own _ _ ax m c hxlt hle hv =>
    have hρ : ρ zz = .slice ax m c := hv hlen
    have zlt : zz < nx := hxlt
    by_cases hys : ys = []
    · subst hys
      exact append_none hs zlt hl hp ok hρ
    · obtain ⟨b2, off2, vs2, rfl, sr⟩ := hcase.resolve_left hys
      obtain ⟨us, u1, u2, u3, u4⟩ := news_of sr
      have hyl : 0 < ys.length := List.length_pos_iff.2 hys
      have hroom' : (l.length + ys.length) * i.bytes ≤ 140737488355328 := by
        unfold room at hroom
        calc (l.length + ys.length) * i.bytes ≤ 2147483648 * 65536 := Nat.mul_le_mul hroom ok.hb
          _ = 140737488355328 := by decide
      have hroomm : l.length + ys.length ≤ 9223372036854775807 := by unfold room at hroom; omega
      cases hob with
      | rowNil _ hz hr =>
        have := hr.symm.trans hρ
        cases this
        have hrun := run_append_nil (P := P) w t ty el i z ok.ht ok.hi ok.hz ⟨b2, off2, none⟩ ys.length cp us (by rw [u1, ok.hs]) u2 hyl (by simp at hroomm; omega) (by simp at hroom'; omega)
        exact append_grown hs zlt hl hp ok hyl hroom (by simpa using sr.hs) u1 u4 (olds := []) (by simp) (by simp) 0 (by simpa using hrun)
      | row _ _ b c' tt fr ws hz hse hr hb hlen' hc' hm hf hrep =>
        have := hr.symm.trans hρ
        injection this with e1 e2 e3
        subst e1 e2 e3
        have hse2 : ∀ e ∈ l ++ ys, e.length = sz := fun e he => (List.mem_append.1 he).elim (hse e) (sr.hs e)
        by_cases hfit : l.length + ys.length ≤ c'
        · exact append_roomy hs zlt hl hp ok hyl hse2 u1 u2 u3 u4 hr hb hlen' hm hf hrep hfit
        · have hbig : l.length * sz ≤ ws.length := by rw [hlen']; exact Nat.mul_le_mul_right _ hc'
          have hrun := run_append_grow (P := P) w t ty el i z ok.ht ok.hi ok.hz ⟨b, 0, none⟩ l.length c' (ws.take (l.length * sz)) (by rw [ok.hs]; simp; omega)
            (fun j u hu => by
              rw [addr_add, Nat.zero_add]
              have h1 := cellAt_blk hb j
              unfold cellAt at h1
              rw [h1]
              rw [List.getElem?_take] at hu
              split at hu
              · exact hu
              · cases hu)
            ⟨b2, off2, none⟩ ys.length cp us (by rw [u1, ok.hs]) u2 (by omega) (by omega) (growslice_fits (by omega) hroom')
          refine append_grown hs zlt hl hp ok hyl hroom hse2 u1 u4 (olds := ws.take (l.length * sz)) (by simp; omega) (fun j d u hd hu => ?_) c' hrun
          rw [List.getElem?_take] at hu
          split at hu
          · exact hrep j d u hd hu
          · cases hu
theorem append_nil (hs : HSim F gl w ⟨nx, ob⟩ ρ) (ok : ElemOk P t el i z sz) (hroom : ys.length ≤ room) (hys : ys ≠ []) {b' : Option Addr} (hcase : ys = [] ∨ ∃ (b off : Nat) (vs : Nat → Value), b' = some ⟨b, off, none⟩ ∧ SlRep F w ⟨nx, ob⟩ ρ sz ys mine b off cp vs) :
    ∃ r w1 ρ', (Builtin.append_ #[t, t] ty #[.slice none 0 0, .slice b' ys.length cp]).run P w = .ok r w1 ∧ RepC (cx F w1 ⟨nx + 1, (nx, .row sz ys) :: ob⟩ ρ') (.own nx ys.length) r ∧ HSim F gl w1 ⟨nx + 1, (nx, .row sz ys) :: ob⟩ ρ' ∧ Later F w ⟨nx, ob⟩ ρ w1 ⟨nx + 1, (nx, .row sz ys) :: ob⟩ ρ' := by
  obtain ⟨b2, off2, vs2, rfl, sr⟩ := hcase.resolve_left hys
  obtain ⟨us, u1, u2, u3, u4⟩ := news_of sr
  have hyl : 0 < ys.length := List.length_pos_iff.2 hys
  have hroom' : ys.length * i.bytes ≤ 140737488355328 := by
    unfold room at hroom
    calc ys.length * i.bytes ≤ 2147483648 * 65536 := Nat.mul_le_mul hroom ok.hb
      _ = 140737488355328 := by decide
  have hroomm : ys.length ≤ 9223372036854775807 := by unfold room at hroom; omega
  have hrun := run_append_nil (P := P) w t ty el i z ok.ht ok.hi ok.hz ⟨b2, off2, none⟩ ys.length cp us (by rw [u1, ok.hs]) u2 hyl (by omega) (by omega)
  have hcapge := grownCap_ge w ys.length 0 el
  have hcaple := grownCap_le_maxLen w ys.length 0 el (by simp only [maxLen]; omega)
  simp only [maxLen] at hcaple
  have hk0 : Kept (fun _ => False) w (w.drew.alloc (.cells (us.toArray ++ Builtin.zeroCells z.cells (grownCap w ys.length 0 el - ys.length)) el)) := (kept_drew w).trans (kept_alloc w.drew _) (fun _ _ h => h)
  have hws : (w.drew.alloc (.cells (us.toArray ++ Builtin.zeroCells z.cells (grownCap w ys.length 0 el - ys.length)) el)).heap[w.heap.size]? = some (.cells (us ++ (Builtin.zeroCells z.cells (grownCap w ys.length 0 el - ys.length)).toList).toArray el (0, 0)) := by
    have := heap_alloc_new w.drew (.cells (us.toArray ++ Builtin.zeroCells z.cells (grownCap w ys.length 0 el - ys.length)) el)
    rw [show w.drew.heap.size = w.heap.size from rfl] at this
    rw [this]
    congr 2
    apply Array.ext'
    simp
  have hwl : (us ++ (Builtin.zeroCells z.cells (grownCap w ys.length 0 el - ys.length)).toList).length = grownCap w ys.length 0 el * sz := by
    simp only [List.length_append, u1, Array.length_toList, zeroCells_size, ok.hc, ← Nat.add_mul]
    congr 1
    omega
  obtain ⟨r1, r2, r3⟩ := new_row (gl := gl) hs hk0 (obs := ob) (fun _ _ _ h => h) ok.h0 sr.hs hwl hcapge hcaple (fun j d u hd hu => by
    have hfy : ys.flatten.length = ys.length * sz := flat_length sr.hs
    have hj : j < us.length := by rw [u1, ← hfy]; exact (List.getElem?_eq_some_iff.1 hd).1
    simp only [List.getElem?_append, if_pos hj] at hu
    exact u4 j d u hd hu) hws (free_zero _) (Nat.le_refl _)
  exact ⟨_, _, _, hrun, r3, r1, r2⟩
theorem append_lit (hs : HSim F gl w ⟨nx, ob⟩ ρ) (ok : ElemOk P t el i z sz) (hroom : l.length + ys.length ≤ room) (hys : ys ≠ []) {xv : Value} {b' : Option Addr} (hx : RepC (cx F w ⟨nx, ob⟩ ρ) (.lit sz l) xv) (hcase : ys = [] ∨ ∃ (b off : Nat) (vs : Nat → Value), b' = some ⟨b, off, none⟩ ∧ SlRep F w ⟨nx, ob⟩ ρ sz ys mine b off cp vs) :
    ∃ r w1 ρ', (Builtin.append_ #[t, t] ty #[xv, .slice b' ys.length cp]).run P w = .ok r w1 ∧ RepC (cx F w1 ⟨nx + 1, (nx, .row sz (l ++ ys)) :: ob⟩ ρ') (.own nx (l ++ ys).length) r ∧ HSim F gl w1 ⟨nx + 1, (nx, .row sz (l ++ ys)) :: ob⟩ ρ' ∧ Later F w ⟨nx, ob⟩ ρ w1 ⟨nx + 1, (nx, .row sz (l ++ ys)) :: ob⟩ ρ' := by
  obtain ⟨b2, off2, vs2, rfl, sr⟩ := hcase.resolve_left hys
  obtain ⟨us, u1, u2, u3, u4⟩ := news_of sr
  have hyl : 0 < ys.length := List.length_pos_iff.2 hys
  have hroom' : (l.length + ys.length) * i.bytes ≤ 140737488355328 := by
    unfold room at hroom
    calc (l.length + ys.length) * i.bytes ≤ 2147483648 * 65536 := Nat.mul_le_mul hroom ok.hb
      _ = 140737488355328 := by decide
  have hroomm : l.length + ys.length ≤ 9223372036854775807 := by unfold room at hroom; omega
  have core : ∀ (ad : Addr) (olds : List Value), olds.length = l.length * sz → (∀ (j : Nat) (u : Value), olds[j]? = some u → w.cell? (ad.add j) = some u) → (∀ (j : Nat) (d : D) (u : Value), l.flatten[j]? = some d → olds[j]? = some u → RepD w (fun b => F b ∨ Own ρ ob b) d u) → (∀ e ∈ l, e.length = sz) →
      ∃ r w1 ρ', (Builtin.append_ #[t, t] ty #[.slice (some ad) l.length l.length, .slice (some ⟨b2, off2, none⟩) ys.length cp]).run P w = .ok r w1 ∧ RepC (cx F w1 ⟨nx + 1, (nx, .row sz (l ++ ys)) :: ob⟩ ρ') (.own nx (l ++ ys).length) r ∧ HSim F gl w1 ⟨nx + 1, (nx, .row sz (l ++ ys)) :: ob⟩ ρ' ∧ Later F w ⟨nx, ob⟩ ρ w1 ⟨nx + 1, (nx, .row sz (l ++ ys)) :: ob⟩ ρ' := by
      intro ad olds o1 o2 o3 hse
      have hrun := run_append_grow (P := P) w t ty el i z ok.ht ok.hi ok.hz ad l.length l.length olds (by rw [ok.hs]; exact o1) o2 ⟨b2, off2, none⟩ ys.length cp us (by rw [u1, ok.hs]) u2 (by omega) (by omega) (growslice_fits (by omega) hroom')
      have hcapge := grownCap_ge w (l.length + ys.length) l.length el
      have hcaple := grownCap_le_maxLen w (l.length + ys.length) l.length el (by simp only [maxLen]; omega)
      simp only [maxLen] at hcaple
      generalize grownCap w (l.length + ys.length) l.length el = cap at *
      have hse2 : ∀ e ∈ l ++ ys, e.length = sz := fun e he => (List.mem_append.1 he).elim (hse e) (sr.hs e)
      have hk0 : Kept (fun _ => False) w (w.drew.alloc (.cells (olds.toArray ++ us.toArray ++ Builtin.zeroCells z.cells (cap - (l.length + ys.length))) el)) := (kept_drew w).trans (kept_alloc w.drew _) (fun _ _ h => h)
      have hws : (w.drew.alloc (.cells (olds.toArray ++ us.toArray ++ Builtin.zeroCells z.cells (cap - (l.length + ys.length))) el)).heap[w.heap.size]? = some (.cells (olds ++ us ++ (Builtin.zeroCells z.cells (cap - (l.length + ys.length))).toList).toArray el (0, 0)) := by
        have := heap_alloc_new w.drew (.cells (olds.toArray ++ us.toArray ++ Builtin.zeroCells z.cells (cap - (l.length + ys.length))) el)
        rw [show w.drew.heap.size = w.heap.size from rfl] at this
        rw [this]
        congr 2
        apply Array.ext'
        simp
      have hwl : (olds ++ us ++ (Builtin.zeroCells z.cells (cap - (l.length + ys.length))).toList).length = cap * sz := by
        simp only [List.length_append, o1, u1, Array.length_toList, zeroCells_size, ok.hc, ← Nat.add_mul]
        congr 1
        omega
      have hlenf : (l ++ ys).length = l.length + ys.length := by simp
      obtain ⟨r1, r2, r3⟩ := new_row (gl := gl) hs hk0 (obs := ob) (fun _ _ _ h => h) ok.h0 hse2 hwl (by rw [hlenf]; exact hcapge) hcaple (fun j d u hd hu => by
        rw [List.flatten_append] at hd
        have hfl : l.flatten.length = l.length * sz := flat_length hse
        have hfy : ys.flatten.length = ys.length * sz := flat_length sr.hs
        simp only [List.append_assoc, List.getElem?_append, hfl, o1] at hd hu
        by_cases c1 : j < l.length * sz
        · rw [if_pos c1] at hd hu
          exact o3 j d u hd hu
        · rw [if_neg c1] at hd hu
          have hj2 : j - l.length * sz < us.length := by
            rw [u1, ← hfy]; exact (List.getElem?_eq_some_iff.1 hd).1
          rw [if_pos hj2] at hu
          exact u4 _ d u hd hu) hws (free_zero _) (Nat.le_refl _)
      rw [hlenf] at r1 r2 r3 ⊢
      exact ⟨_, _, _, hrun, r3, r1, r2⟩
  cases hx with
  | lit _ _ a hd =>
    cases hd with
    | nil =>
      cases a with
      | none => exact append_nil (P := P) (ty := ty) hs ok (by simpa using hroom) hys (.inr ⟨b2, off2, vs2, rfl, sr⟩)
      | some ad => exact core ad [] (by simp) (fun j u h => by simp at h) (fun j d u _ h => by simp at h) (fun e h => by cases h)
    | list _ _ b off _ vs _ hz hse hc hA hcell hrep =>
      let olds := (List.range (l.length * sz)).map vs
      have o1 : olds.length = l.length * sz := by simp [olds]
      have o2 : ∀ (j : Nat) (u : Value), olds[j]? = some u → w.cell? ((⟨b, off, none⟩ : Addr).add j) = some u := by
        intro j u hu
        by_cases hj : j < l.length * sz
        · simp only [olds, List.getElem?_map, List.getElem?_range hj, Option.map_some, Option.some.injEq] at hu
          subst hu
          rw [addr_add]
          exact hcell j hj
        · simp [olds, hj] at hu
      have o3 : ∀ (j : Nat) (d : D) (u : Value), l.flatten[j]? = some d → olds[j]? = some u → RepD w (fun b => F b ∨ Own ρ ob b) d u := by
        intro j d u hd hu
        have hj : j < l.length * sz := by rw [← flat_length hse]; exact (List.getElem?_eq_some_iff.1 hd).1
        simp only [olds, List.getElem?_map, List.getElem?_range hj, Option.map_some, Option.some.injEq] at hu
        subst hu
        exact hrep j d hd
      exact core _ olds o1 o2 o3 hse
end
theorem step_append (hs : HSim F gl w h ρ) {c : Go.Call} {x y : Operand} {t el : TypeId} {i : TypeInfo} {z : Value} {sz : Nat} (ho : o.op = .call c) (hcal : c.callee = .builtin .append) (hargs : c.args.toList = [x, y]) (hty : c.argTypes.toList = [t, t]) (ok : ElemOk P t el i z sz)
    {x' y' : Opd} {e : Env} (hx : RepV (cx F w h ρ) (ev e x') (a.eval x)) (hy : RepV (cx F w h ρ) (ev e y') (a.eval y)) {cl : Call} (he : eval cl e h (.append x' y' sz) = some (v, h')) : Step P o a w F gl h ρ v h' := by
  have ha : c.args = #[x, y] := by rw [← Array.toArray_toList (xs := c.args), hargs]
  have hat : c.argTypes = #[t, t] := by rw [← Array.toArray_toList (xs := c.argTypes), hty]
  have hex : ∀ {r w1}, (Builtin.append_ #[t, t] o.type #[a.eval x, a.eval y]).run P w = .ok r w1 → (execOp a.eval o).run P w = .ok (.value r) w1 := by
    intro r w1 hr
    simp [execOp, ho, resolve, hcal, ha, hat, invoke, builtin, hr]
  obtain ⟨nx, ob⟩ := h
  simp only [eval] at he
  generalize hyv : a.eval y = yv at hy hex
  generalize hxv : a.eval x = xv at hx hex
  split at he
  · rename_i cy hevy
    rw [hevy] at hy
    cases hly : cy.lst ⟨nx, ob⟩ with
    | none => rw [hly] at he; cases he
    | some p =>
      obtain ⟨sz', ys⟩ := p
      rw [hly] at he
      simp only at he
      cases hy with
      | c _ _ hqy =>
        obtain ⟨b', cp, rfl, _, hcase0⟩ := lst_rep hs hqy hly
        split at he
        · cases he
        · rename_i hsized
          have hcase : ys = [] ∨ ∃ (b off : Nat) (vs : Nat → Value), b' = some ⟨b, off, none⟩ ∧ SlRep F w ⟨nx, ob⟩ ρ sz ys cy.isOwn b off cp vs := by
            by_cases hys : ys = []
            · exact .inl hys
            · have hszz : sz' = sz := by
                simp only [sized, Bool.or_eq_true, beq_iff_eq, List.isEmpty_iff] at hsized
                exact hsized.resolve_right hys
              subst hszz
              exact hcase0
          split at he
          · rename_i zz n hevx
            rw [hevx] at hx
            split at he
            · rename_i sz'' l hl
              split at he
              · rename_i hcond
                obtain ⟨rfl, rfl, hroom⟩ := hcond
                cases hp : put ob zz (.row sz'' (l ++ ys)) with
                | none => rw [hp] at he; cases he
                | some ob' =>
                  rw [hp] at he
                  cases he
                  cases hx with
                  | c _ _ hqx =>
                    obtain ⟨r, w1, ρ', h1, h2, h3, h4⟩ := append_row (P := P) (ty := o.type) hs hl hp ok hroom hqx hcase
                    exact .value (hex h1) (.c _ _ h2) h3 h4
              · cases he
            · cases he
          · rename_i hevx
            rw [hevx] at hx
            cases hx with
            | c _ _ hqx =>
              cases hqx with
              | nil =>
                split at he
                · rename_i hroom
                  by_cases hys : ys = []
                  · subst hys
                    cases he
                    have hrun := run_append_zero (P := P) (ty := o.type) w ok.ht ok.hi none b' 0 0 cp (Nat.le_refl _)
                    exact .value (hex hrun) (.c _ _ .nil) hs (.refl _ _ _ _)
                  · have hne : ys.isEmpty = false := by simpa using hys
                    rw [hne] at he
                    cases he
                    obtain ⟨r, w1, ρ', h1, h2, h3, h4⟩ := append_nil (P := P) (ty := o.type) hs ok hroom hys hcase
                    exact .value (hex h1) (.c _ _ h2) h3 h4
                · cases he
          · rename_i sz'' l hevx
            rw [hevx] at hx
            split at he
            · rename_i hcond
              obtain ⟨rfl, hroom⟩ := hcond
              by_cases hys : ys = []
              · subst hys
                cases he
                cases hx with
                | c _ _ hqx =>
                  cases hqx with
                  | lit _ _ aa hd =>
                    have hrun := run_append_zero (P := P) (ty := o.type) w ok.ht ok.hi aa b' l.length l.length cp (Nat.le_refl _)
                    exact .value (hex hrun) (.c _ _ (.lit _ _ aa hd)) hs (.refl _ _ _ _)
              · have hne : ys.isEmpty = false := by simpa using hys
                rw [hne] at he
                cases he
                cases hx with
                | c _ _ hqx =>
                  obtain ⟨r, w1, ρ', h1, h2, h3, h4⟩ := append_lit (P := P) (ty := o.type) hs ok hroom hys hqx hcase
                  exact .value (hex h1) (.c _ _ h2) h3 h4
            · cases he
          · cases he
  · cases he
end
section
variable {P : Program} {o : Oper} {a : Act} {w w' : World} {F : Nat → Prop} {gl : Nat → Option (List D)} {h h' : Hp} {ρ ρ' : Rho} {v : V} {val : Value}
theorem free_freeze {fr : Nat × Nat} {n : Nat} (hf : free fr n) : free (if fr.1 == fr.2 then (n, n + 1) else (min fr.1 n, max fr.2 (n + 1))) n := by
  obtain ⟨h1, h2⟩ := hf
  by_cases he : fr.1 = fr.2
  · simp only [he, beq_self_eq_true, if_true]
    exact ⟨by simp, fun i hi h => by simp only at h; omega⟩
  · have : (fr.1 == fr.2) = false := by simpa using he
    simp only [this, Bool.false_eq_true, if_false]
    have hn : n ≤ fr.1 := by
      rcases Nat.lt_or_ge fr.1 n with h | h
      · exact absurd ⟨Nat.le_refl _, by omega⟩ (h2 fr.1 h)
      · exact h
    exact ⟨by simp only; omega, fun i hi h => by simp only at h; omega⟩
theorem step_b2b (hs : HSim F gl w h ρ) {t el : TypeId} {x : Operand} (ho : o.op = .convert t t x) (ht : P.underlying t = some (.slice el)) (he8 : P.underlying el = some (.int .u8))
    {y : Opd} {e : Env} (hx : RepV (cx F w h ρ) (ev e y) (a.eval x)) {cl : Call} (he : eval cl e h (.b2b y) = some (v, h')) : Step P o a w F gl h ρ v h' := by
  obtain ⟨nx, ob⟩ := h
  simp only [eval] at he
  split at he
  · rename_i z n hev
    split at he
    · rename_i sz l hl
      split at he
      · rename_i hcond
        obtain ⟨rfl, rfl, hpos⟩ := hcond
        split at he
        · rename_i ob' hp
          cases he
          rw [hev] at hx
          generalize hval : a.eval x = val at hx
          cases hx with
          | c _ _ hq =>
            cases hq with
            | own _ _ ax m c hxlt hle hv =>
              have hρ : ρ z = .slice ax m c := hv (by simp [lenAt, hl])
              have hob := hs.obs z _ hl
              cases hob with
              | rowNil => simp at hpos
              | row _ _ b c' tt fr ws hz hse hr hb hwl hlc hm hf hrep =>
                have hr' : ρ z = .slice (some ⟨b, 0, none⟩) l.length c' := hr
                rw [hρ] at hr'
                cases hr'
                have hb : w.heap[b]? = some (.cells ws.toArray tt fr) := hb
                have hblt : b < w.heap.size := (Array.getElem?_eq_some_iff.1 hb).1
                let fr' : Nat × Nat := if fr.1 == fr.2 then (ws.length, ws.length + 1) else (min fr.1 ws.length, max fr.2 (ws.length + 1))
                have hb' : (w.freeze ⟨b, ws.length, none⟩ 1).heap[b]? = some (.cells ws.toArray tt fr') := by
                  simp [World.freeze, Array.getElem?_modify, hb, fr']
                have hk : Kept (fun b' => blkOf (ρ z) = some b') w (w.freeze ⟨b, ws.length, none⟩ 1) := by
                  refine ⟨rfl, rfl, rfl, by simp [World.freeze], ?_⟩
                  intro b' _ hn
                  have hne : ¬ b = b' := fun e => hn (by rw [hρ, ← e]; rfl)
                  simp [World.freeze, Array.getElem?_modify, hne]
                have hbv : ∀ b', blkOf (ρ z) = some b' → blkOf (ρ z) = some b' ∨ w.heap.size ≤ b' := fun b' h => .inl h
                have later : Later F w ⟨nx, ob⟩ ρ (w.freeze ⟨b, ws.length, none⟩ 1) ⟨nx, ob'⟩ (upd ρ z (ρ z)) :=
                  put_later hs hl hp hk hbv (.inl ⟨1, l, l, rfl, rfl, Nat.le_refl _, fun _ => rfl⟩)
                have hs' : HSim F gl (w.freeze ⟨b, ws.length, none⟩ 1) ⟨nx, ob'⟩ (upd ρ z (ρ z)) :=
                  put_hs hs hl hp hk hbv later (.row 1 l b c tt fr' ws hz hse ((upd_same ρ z (ρ z)).trans hρ) hb' hwl hlc hm (free_freeze hf) (fun i d v h1 h2 => (hrep i d v h1 h2).later later) (fun h => absurd h (by omega)))
                refine .value (val := .slice (some ⟨b, 0, none⟩) l.length c) ?_ (.c _ _ ?_) hs' later
                · have hsh : w.shape? b = some (tt, ws.length) := by simp [World.shape?, hb]
                  simp [execOp, ho, convert, run_underlying ht, run_underlying he8, hval, markStringish, hsh]
                · refine .own _ _ _ _ _ hxlt ?_ (fun _ => (upd_same ρ z (ρ z)).trans hρ)
                  intro m hm'
                  have : lenAt ob' z = some l.length := by simp [lenAt, look_put_same hp]
                  simp only [this, Option.some.injEq] at hm'
                  omega
        · cases he
      · cases he
    · cases he
  · cases he
theorem step_range (hs : HSim F gl w h ρ) {t : TypeId} {x : Operand} (ho : o.op = .range t x) (ht : P.underlying t = some .string)
    {y : Opd} {e : Env} (hx : RepV (cx F w h ρ) (ev e y) (a.eval x)) {cl : Call} (he : eval cl e h (.range y) = some (v, h')) : Step P o a w F gl h ρ v h' := by
  obtain ⟨nx, ob⟩ := h
  simp only [eval] at he
  split at he
  · rename_i s hev
    cases he
    rw [hev] at hx
    have hval := ev_str hx
    have hk := kept_alloc w (.stringIter ⟨⟨s⟩⟩ 0)
    have hv : ∀ b', blkOf (.pointer (some ⟨w.heap.size, 0, none⟩)) = some b' → w.heap.size ≤ b' := fun b' h => by simp [blkOf] at h; omega
    refine .value (val := .pointer (some ⟨w.heap.size, 0, none⟩)) (w' := w.alloc (.stringIter ⟨⟨s⟩⟩ 0)) ?_ (.c _ _ (.iter _ _ (by simp) (upd_same _ _ _))) (hs.new hk hv (fun _ _ _ h => h) (.iter s 0 w.heap.size (upd_same _ _ _) (heap_alloc_new w _))) (.new hk hv (fun _ _ _ h => h))
    have := run_range_string (P := P) w t ⟨⟨s⟩⟩ ht
    simp only [execOp, ho, hval, Sem.run_bind, this]
    rfl
  · cases he
theorem step_next (hs : HSim F gl w h ρ) {x : Operand} (ho : o.op = .next x true)
    {y : Opd} {e : Env} (hx : RepV (cx F w h ρ) (ev e y) (a.eval x)) {cl : Call} (he : eval cl e h (.next y) = some (v, h')) : Step P o a w F gl h ρ v h' := by
  obtain ⟨nx, ob⟩ := h
  simp only [eval] at he
  split at he
  · rename_i z hev
    split at he
    · rename_i s pos hl
      rw [hev] at hx
      generalize hval : a.eval x = val at hx
      cases hx with
      | c _ _ hq =>
        cases hq with
        | iter _ r hxlt hr =>
          have hob := hs.obs z _ hl
          cases hob with
          | iter _ _ r' hr' hb =>
            have e1 : ρ z = .pointer (some ⟨r, 0, none⟩) := hr
            have e2 : ρ z = .pointer (some ⟨r', 0, none⟩) := hr'
            rw [e1] at e2
            cases e2
            have hb : w.heap[r]? = some (.stringIter ⟨⟨s⟩⟩ pos) := hb
            have hrlt : r < w.heap.size := (Array.getElem?_eq_some_iff.1 hb).1
            split at he
            · rename_i hlt
              split at he
              · rename_i ob' hp
                cases he
                let w2 : World := { w with heap := w.heap.setIfInBounds r (.stringIter ⟨⟨s⟩⟩ (pos + (Utf8.decode ⟨⟨s⟩⟩ pos).2)) }
                have hb' : w2.heap[r]? = some (.stringIter ⟨⟨s⟩⟩ (pos + (Utf8.decode ⟨⟨s⟩⟩ pos).2)) := by simp [w2, hrlt]
                have hk : Kept (fun b' => blkOf (ρ z) = some b') w w2 := by
                  refine ⟨rfl, rfl, rfl, by simp [w2], ?_⟩
                  intro b' _ hn
                  have hne : r ≠ b' := fun e => hn (by rw [e1, ← e]; rfl)
                  simp [w2, Array.getElem?_setIfInBounds_ne hne]
                have hbv : ∀ b', blkOf (ρ z) = some b' → blkOf (ρ z) = some b' ∨ w.heap.size ≤ b' := fun b' h => .inl h
                have later : Later F w ⟨nx, ob⟩ ρ w2 ⟨nx, ob'⟩ (upd ρ z (ρ z)) := put_later hs hl hp hk hbv (.inr ⟨fun sz l h => (by cases h), rfl⟩)
                have hs' : HSim F gl w2 ⟨nx, ob'⟩ (upd ρ z (ρ z)) := put_hs hs hl hp hk hbv later (.iter s _ r ((upd_same ρ z (ρ z)).trans e1) hb')
                refine .value (val := .tuple #[.bool true, .int .i64 pos, .int .i32 (Utf8.decode ⟨⟨s⟩⟩ pos).1]) (w' := w2) ?_ ?_ hs' later
                · have hsz : pos < (ByteArray.mk ⟨s⟩).size := hlt
                  simp [execOp, ho, hval, Instr.next, getObj, setObj, Sem.run, hb, hsz, goInt, w2]
                · refine .tup _ [_, _, _] rfl ?_
                  intro i q v hq hv
                  match i with
                  | 0 => simp at hq hv; subst hq; subst hv; exact rep_bool _
                  | 1 => simp at hq hv; subst hq; subst hv; exact rep_int _ _
                  | 2 => simp at hq hv; subst hq; subst hv; exact rep_int _ _
                  | i + 3 => simp at hq
              · cases he
            · rename_i hge
              cases he
              refine .quiet hs (val := .tuple #[.bool false]) ?_ ?_
              · have hsz : ¬ pos < (ByteArray.mk ⟨s⟩).size := hge
                simp [execOp, ho, hval, Instr.next, getObj, Sem.run, hb, hsz]
              · refine .tup _ [_] rfl ?_
                intro i q v hq hv
                match i with
                | 0 => simp at hq hv; subst hq; subst hv; exact rep_bool _
                | i + 1 => simp at hq
    · cases he
  · cases he
end
section
variable {P : Program} {w : World} {A : Nat → Prop}
theorem bytes_beq (x y : List UInt8) : (ByteArray.mk ⟨x⟩ == ByteArray.mk ⟨y⟩) = (x == y) := by
  have : (ByteArray.mk ⟨x⟩ == ByteArray.mk ⟨y⟩) = ((⟨x⟩ : Array UInt8) == ⟨y⟩) := rfl
  rw [this, Bool.eq_iff_iff]
  simp
inductive Rl (w : World) (A : Nat → Prop) : List D → List Value → Prop
  | nil : Rl w A [] []
  | cons {d : D} {v : Value} {ds : List D} {vs : List Value} (h : RepD w A d v) (t : Rl w A ds vs) : Rl w A (d :: ds) (v :: vs)
theorem Rl.len {ds : List D} {vs : List Value} (h : Rl w A ds vs) : vs.length = ds.length := by
  induction h with
  | nil => rfl
  | cons _ _ ih => simp [ih]
theorem Rl.of : ∀ {ds : List D} {vs : List Value}, vs.length = ds.length → (∀ (i : Nat) (d : D) (v : Value), ds[i]? = some d → vs[i]? = some v → RepD w A d v) → Rl w A ds vs
  | [], [], _, _ => .nil
  | d :: ds, v :: vs, hl, hc => .cons (hc 0 d v rfl rfl) (Rl.of (by simpa using hl) fun i d v h1 h2 => hc (i + 1) d v (by simpa using h1) (by simpa using h2))
theorem Rl.drop {ds : List D} {vs : List Value} (h : Rl w A ds vs) : ∀ n, Rl w A (ds.drop n) (vs.drop n) := by
  induction h with
  | nil => intro n; simp; exact .nil
  | cons h t ih =>
    intro n
    cases n with
    | zero => exact .cons h t
    | succ n => simpa using ih n
theorem Rl.take {ds : List D} {vs : List Value} (h : Rl w A ds vs) : ∀ n, Rl w A (ds.take n) (vs.take n) := by
  induction h with
  | nil => intro n; simp; exact .nil
  | cons h t ih =>
    intro n
    cases n with
    | zero => exact .nil
    | succ n => simpa using .cons h (ih n)
theorem sameFs_len : ∀ {ks : List Nat} {l r : List D} {q : Bool}, sameFs ks l r = some q → l.length = ks.length ∧ r.length = ks.length
  | [], [], [], _, _ => ⟨rfl, rfl⟩
  | [], [], _ :: _, _, h => by cases h
  | [], _ :: _, _, _, h => by cases h
  | _ :: _, [], _, _, h => by cases h
  | _ :: _, _ :: _, [], _, h => by cases h
  | k :: ks, a :: l, b :: r, q, h => by
    unfold sameFs at h
    cases h1 : sameF k a b with
    | none => rw [h1] at h; cases h
    | some x =>
      cases h2 : sameFs ks l r with
      | none => rw [h1, h2] at h; cases h
      | some y =>
        obtain ⟨e1, e2⟩ := sameFs_len h2
        simp [e1, e2]
theorem sameFs_app : ∀ {k1 k2 : List Nat} {l r : List D} {q : Bool}, sameFs (k1 ++ k2) l r = some q →
    ∃ a b, sameFs k1 (l.take k1.length) (r.take k1.length) = some a ∧ sameFs k2 (l.drop k1.length) (r.drop k1.length) = some b ∧ q = (a && b)
  | [], k2, l, r, q, h => ⟨true, q, by simp [sameFs], by simpa using h, by simp⟩
  | k :: k1, k2, [], _, q, h => by simp [sameFs] at h
  | k :: k1, k2, _ :: _, [], q, h => by simp [sameFs] at h
  | k :: k1, k2, a :: l, b :: r, q, h => by
    simp only [List.cons_append, sameFs] at h
    cases h1 : sameF k a b with
    | none => rw [h1] at h; cases h
    | some x =>
      cases h2 : sameFs (k1 ++ k2) l r with
      | none => rw [h1, h2] at h; cases h
      | some y =>
        rw [h1, h2] at h
        cases h
        obtain ⟨a', b', e1, e2, e3⟩ := sameFs_app h2
        exact ⟨x && a', b', by simp [sameFs, h1, e1], by simpa using e2, by rw [e3, Bool.and_assoc]⟩
def valOf (P : Program) (t : TypeId) (vs : List Value) : Value := match aggOf P t, vs with | some false, [v] => v | _, _ => .agg vs.toArray
theorem valOf_agg {t : TypeId} (h : aggOf P t = some true) (vs : List Value) : valOf P t vs = .agg vs.toArray := by simp [valOf, h]
theorem valOf_one {t : TypeId} (h : aggOf P t = some false) (v : Value) : valOf P t [v] = v := by simp [valOf, h]
theorem run_part {t : TypeId} {s off : Nat} {xs : List Value} {g : Bool} (hz : szOf P t = some s) (hg : aggOf P t = some g) (h1 : g = false → s = 1) (hle : off + s ≤ xs.length) : (part t xs.toArray off).run P w = .ok (valOf P t ((xs.drop off).take s)) w := by
  cases g with
  | true =>
    rw [valOf_agg hg]
    simp [part, run_isAgg_t hg, run_sizeOf hz, List.take_drop]
  | false =>
    obtain rfl := h1 rfl
    have hlt : off < xs.length := by omega
    have e : (xs.drop off).take 1 = [xs[off]] := by rw [List.drop_eq_getElem_cons hlt]; rfl
    rw [e, valOf_one hg]
    simp [part, run_isAgg_f hg, hlt]
theorem kinds_agg : ∀ {d : Nat} {t : TypeId} {ks : List Nat}, kinds P d t = some ks → ∃ g, aggOf P t = some g ∧ (g = false → ks.length = 1)
  | 0, _, _, h => by cases h
  | d + 1, t, ks, h => by
    unfold kinds at h
    cases hu : P.underlying t with
    | none => rw [hu] at h; cases h
    | some td =>
      rw [hu] at h
      cases td <;> first | (cases h; done) | skip
      all_goals first
        | (cases h; exact ⟨false, by simp [aggOf, hu], fun _ => rfl⟩)
        | exact ⟨true, by simp [aggOf, hu], fun e => by cases e⟩
theorem repl_flat {n : Nat} {ks : List Nat} : (repl n ks).flatten.length = n * ks.length := by
  induction n with
  | zero => simp [repl]
  | succ n ih => simp only [repl, List.flatten_cons, List.length_append, ih, Nat.succ_mul]; omega
def EqT (P : Program) (d : Nat) (t : TypeId) (ks : List Nat) : Prop :=
  ∀ (w : World) (A : Nat → Prop) (d' : Nat), d ≤ d' → ∀ (ls rs : List D) (xs ys : List Value) (q : Bool), Rl w A ls xs → Rl w A rs ys → sameFs ks ls rs = some q → (Op.equalIn d' t (valOf P t xs) (valOf P t ys)).run P w = .ok q w
theorem run_eqFields {d : Nat} (IH : ∀ t ks, kinds P d t = some ks → EqT P d t ks) {d' : Nat} (hd : d ≤ d') {ls rs : List D} {xs ys : List Value} (hx : Rl w A ls xs) (hy : Rl w A rs ys) :
    ∀ (fs : List Field) (off : Nat) (ks : List Nat) (q : Bool), kindsF P (kinds P d) off fs = some ks → sameFs ks (ls.drop off) (rs.drop off) = some q → (Op.eqFields d' xs.toArray ys.toArray fs).run P w = .ok q w
  | [], off, ks, q, hk, hq => by
    cases hk
    cases h1 : ls.drop off with
    | cons a l => rw [h1] at hq; cases hq
    | nil =>
      cases h2 : rs.drop off with
      | cons a l => rw [h1, h2] at hq; cases hq
      | nil => rw [h1, h2] at hq; cases hq; simp [Op.eqFields]
  | f :: fs, off, ks, q, hk, hq => by
    unfold kindsF at hk
    split at hk
    · rename_i hn
      split at hk
      · rename_i k1 s hk1 hs
        split at hk
        · rename_i hl
          split at hk
          · rename_i k2 hk2
            cases hk
            obtain ⟨a, b, e1, e2, rfl⟩ := sameFs_app hq
            rw [List.drop_drop, List.drop_drop, hl] at e2
            rw [hl] at e1
            obtain ⟨l1, l2⟩ := sameFs_len e1
            rw [List.length_take, List.length_drop, hl] at l1 l2
            have lx := hx.len
            have ly := hy.len
            obtain ⟨g, hg, hg1⟩ := kinds_agg hk1
            have hle : ∀ zs : List Value, s ≤ zs.length - off → off + s ≤ zs.length ∨ s = 0 := by intro zs h; omega
            have hs0 : s = 0 ∨ off + s ≤ xs.length := by omega
            have hs1 : s = 0 ∨ off + s ≤ ys.length := by omega
            have pp : ∀ zs : List Value, (s = 0 ∨ off + s ≤ zs.length) → (part f.type zs.toArray f.offset).run P w = .ok (valOf P f.type ((zs.drop off).take s)) w := by
              intro zs hz
              rw [hn.2]
              rcases hz with rfl | hz
              · cases g with
                | true => rw [valOf_agg hg]; simp [part, run_isAgg_t hg, run_sizeOf hs]
                | false => have := hg1 rfl; omega
              · exact run_part hs hg (fun e => by rw [← hl]; exact hg1 e) hz
            have r := IH f.type k1 hk1 w A d' hd _ _ _ _ _ ((hx.drop off).take s) ((hy.drop off).take s) e1
            have rest := run_eqFields IH hd hx hy fs (off + s) k2 b hk2 e2
            simp only [Op.eqFields, hn.1, ne_eq, not_false_eq_true, if_true, Sem.run_bind, pp xs hs0, pp ys hs1, Result.andThen_ok, r]
            cases a
            · simp
            · simpa using rest
          · cases hk
        · cases hk
      · cases hk
    · cases hk
theorem run_eqItems {d d' : Nat} {e : TypeId} {ks : List Nat} (IH : EqT P d e ks) (hd : d ≤ d') {g : Bool} (hg : aggOf P e = some g) (hg1 : g = false → ks.length = 1) (hs : szOf P e = some ks.length) {ls rs : List D} {xs ys : List Value} (hx : Rl w A ls xs) (hy : Rl w A rs ys) :
    ∀ (n i : Nat) (q : Bool), sameFs (repl n ks).flatten (ls.drop (i * ks.length)) (rs.drop (i * ks.length)) = some q → (Op.eqItems d' e ks.length xs.toArray ys.toArray (List.range' i n)).run P w = .ok q w
  | 0, i, q, hq => by
    simp only [repl, List.flatten_nil] at hq
    cases h1 : ls.drop (i * ks.length) with
    | cons a l => rw [h1] at hq; cases hq
    | nil =>
      cases h2 : rs.drop (i * ks.length) with
      | cons a l => rw [h1, h2] at hq; cases hq
      | nil => rw [h1, h2] at hq; cases hq; simp [Op.eqItems]
  | n + 1, i, q, hq => by
    simp only [repl, List.flatten_cons] at hq
    obtain ⟨a, b, e1, e2, rfl⟩ := sameFs_app hq
    obtain ⟨l1, l2⟩ := sameFs_len e1
    rw [List.length_take, List.length_drop] at l1 l2
    have lx := hx.len
    have ly := hy.len
    have hi : i * ks.length + ks.length = (i + 1) * ks.length := by rw [Nat.succ_mul]
    rw [List.drop_drop, List.drop_drop, hi] at e2
    have pp : ∀ zs : List Value, (ks.length = 0 ∨ i * ks.length + ks.length ≤ zs.length) → (part e zs.toArray (i * ks.length)).run P w = .ok (valOf P e ((zs.drop (i * ks.length)).take ks.length)) w := by
      intro zs hz
      rcases hz with h0 | hz
      · cases g with
        | true => rw [valOf_agg hg]; simp [part, run_isAgg_t hg, run_sizeOf hs, h0]
        | false => have := hg1 rfl; omega
      · exact run_part hs hg hg1 hz
    have r := IH w A d' hd _ _ _ _ _ ((hx.drop (i * ks.length)).take ks.length) ((hy.drop (i * ks.length)).take ks.length) e1
    have rest := run_eqItems IH hd hg hg1 hs hx hy n (i + 1) b e2
    have px := pp xs (by omega)
    have py := pp ys (by omega)
    simp only [List.range'_succ, Op.eqItems, Sem.run_bind, px, py, Result.andThen_ok, r]
    cases a
    · simp
    · simpa using rest
theorem one_of {k : Nat} {ls rs : List D} {xs ys : List Value} {q : Bool} (hx : Rl w A ls xs) (hy : Rl w A rs ys) (h : sameFs [k] ls rs = some q) : ∃ a b x y, sameF k a b = some q ∧ xs = [x] ∧ ys = [y] ∧ RepD w A a x ∧ RepD w A b y := by
  cases hx with
  | nil => cases h
  | cons h1 t1 =>
    cases hy with
    | nil => cases h
    | cons h2 t2 =>
      rename_i a x l xs b y r ys
      unfold sameFs at h
      cases e1 : sameF k a b with
      | none => rw [e1] at h; cases h
      | some p =>
        cases e2 : sameFs [] l r with
        | none => rw [e1, e2] at h; cases h
        | some p2 =>
          have := sameFs_len e2
          cases t1 with
          | cons _ _ => simp at this
          | nil =>
            cases t2 with
            | cons _ _ => simp at this
            | nil =>
              rw [e1] at h
              simp only [sameFs, Bool.and_true, Option.some.injEq] at h
              subst h
              exact ⟨a, b, x, y, e1, rfl, rfl, h1, h2⟩
theorem equal_cells : ∀ (d : Nat) (t : TypeId) (ks : List Nat), kinds P d t = some ks → EqT P d t ks
  | 0, _, _, h => by cases h
  | d + 1, t, ks, h => by
    intro w A d' hd ls rs xs ys q hx hy hq
    obtain ⟨d'', rfl⟩ : ∃ n, d' = n + 1 := ⟨d' - 1, by omega⟩
    have hd2 : d ≤ d'' := by omega
    unfold kinds at h
    have plain : ∀ k, aggOf P t = some false → ks = [k] → (∀ a b x y, sameF k a b = some q → RepD w A a x → RepD w A b y → (Op.equalIn (d'' + 1) t x y).run P w = .ok q w) → (Op.equalIn (d'' + 1) t (valOf P t xs) (valOf P t ys)).run P w = .ok q w := by
      rintro k ha rfl hp
      obtain ⟨a, b, x, y, e, rfl, rfl, h1, h2⟩ := one_of hx hy hq
      rw [valOf_one ha, valOf_one ha]
      exact hp a b x y e h1 h2
    cases hu : P.underlying t with
    | none => rw [hu] at h; cases h
    | some td =>
      rw [hu] at h
      cases td with
      | bool =>
        cases h
        refine plain 2 (by simp [aggOf, hu]) rfl ?_
        intro a b x y e h1 h2
        unfold sameF at e
        split at e <;> first | contradiction | (cases e; done) | skip
        cases e
        cases h1
        cases h2
        simp [Op.equalIn, run_underlying hu]
      | string =>
        cases h
        refine plain 1 (by simp [aggOf, hu]) rfl ?_
        intro a b x y e h1 h2
        unfold sameF at e
        split at e <;> first | contradiction | (cases e; done) | skip
        cases e
        cases h1
        cases h2
        simp [Op.equalIn, run_underlying hu, bytes_beq]
      | int k0 =>
        cases h
        refine plain 0 (by simp [aggOf, hu]) rfl ?_
        intro a b x y e h1 h2
        unfold sameF at e
        split at e <;> first | contradiction | (cases e; done) | skip
        split at e
        · rename_i hk
          subst hk
          cases e
          cases h1
          cases h2
          simp [Op.equalIn, run_underlying hu]
        · cases e
      | struct fs =>
        simp only at h
        split at h
        · cases h
        · rename_i hst
          have ha : aggOf P t = some true := by simp [aggOf, hu]
          have hf : P.fieldsOf t = fs := by simp [Program.fieldsOf, hu]
          rw [valOf_agg ha, valOf_agg ha, run_equalIn_struct w d'' t xs.toArray ys.toArray (by rw [hf]; exact hu) (by simpa using hst), hf]
          exact run_eqFields (fun t ks => equal_cells d t ks) hd2 hx hy fs.toList 0 ks q h (by simpa using hq)
      | array n e =>
        simp only at h
        split at h
        · rename_i ks1 s hk hs
          split at h
          · rename_i hl
            cases h
            have ha : aggOf P t = some true := by simp [aggOf, hu]
            obtain ⟨g, hg, hg1⟩ := kinds_agg hk
            have hi : ∃ i, P.info? e = some i := by
              unfold szOf at hs
              cases hi : P.info? e with
              | none => rw [hi] at hs; cases hs
              | some i => exact ⟨i, rfl⟩
            obtain ⟨i, hi⟩ := hi
            have hc : P.cellsOf e = ks1.length := by
              unfold szOf at hs
              rw [hi] at hs
              rw [hl]
              simpa [Program.cellsOf, hi] using hs
            rw [valOf_agg ha, valOf_agg ha, run_equalIn_array (w := w) d'' xs.toArray ys.toArray hu hi, hc, List.range_eq_range']
            exact run_eqItems (equal_cells d e ks1 hk) hd2 hg hg1 (by rw [hl]; exact hs) hx hy n 0 q (by simpa using hq)
          · cases h
        · cases h
      | _ => cases h
theorem equal_run {t : TypeId} {ks : List Nat} (hk : kinds P 10 t = some ks) {ls rs : List D} {xs ys : List Value} {q : Bool} (hx : Rl w A ls xs) (hy : Rl w A rs ys) (hq : sameFs ks ls rs = some q) : (Op.equal t (valOf P t xs) (valOf P t ys)).run P w = .ok q w :=
  equal_cells 10 t ks hk w A 10000 (by decide) ls rs xs ys q hx hy hq
def ChkT (P : Program) (d : Nat) (t : TypeId) (ks : List Nat) : Prop :=
  ∀ (w : World) (em : Bool) (d' : Nat), d ≤ d' → ∀ (xs : List Value), xs.length = ks.length → (Instr.checkKey em d' t (valOf P t xs)).run P w = .ok () w
theorem kindsF_all {k : TypeId → Option (List Nat)} : ∀ {fs : List Field} {off : Nat} {ks : List Nat}, kindsF P k off fs = some ks → ∀ f ∈ fs, f.name ≠ "_" ∧ ∃ k1, k f.type = some k1 ∧ szOf P f.type = some k1.length ∧ f.offset + k1.length ≤ off + ks.length
  | [], _, _, _, f, hf => by cases hf
  | f0 :: fs, off, ks, h, f, hf => by
    unfold kindsF at h
    split at h
    · rename_i hn
      split at h
      · rename_i k1 s hk1 hs
        split at h
        · rename_i hl
          split at h
          · rename_i k2 hk2
            cases h
            cases hf with
            | head => exact ⟨hn.1, k1, hk1, by rw [hl]; exact hs, by rw [hn.2]; simp⟩
            | tail _ hm =>
              obtain ⟨a, k3, b, c, e⟩ := kindsF_all hk2 f hm
              exact ⟨a, k3, b, c, by simp; omega⟩
          · cases h
        · cases h
      · cases h
    · cases h
theorem check_cells : ∀ (d : Nat) (t : TypeId) (ks : List Nat), kinds P d t = some ks → ChkT P d t ks
  | 0, _, _, h => by cases h
  | d + 1, t, ks, h => by
    intro w em d' hd xs hx
    obtain ⟨d'', rfl⟩ : ∃ n, d' = n + 1 := ⟨d' - 1, by omega⟩
    have hd2 : d ≤ d'' := by omega
    have part_of : ∀ {t1 : TypeId} {k1 : List Nat} {off : Nat}, kinds P d t1 = some k1 → szOf P t1 = some k1.length → off + k1.length ≤ xs.length → (part t1 xs.toArray off).run P w = .ok (valOf P t1 ((xs.drop off).take k1.length)) w := by
      intro t1 k1 off hk hs hle
      obtain ⟨g, hg, hg1⟩ := kinds_agg hk
      exact run_part hs hg hg1 hle
    unfold kinds at h
    cases hu : P.underlying t with
    | none => rw [hu] at h; cases h
    | some td =>
      rw [hu] at h
      cases td with
      | bool => unfold Instr.checkKey; simp [run_underlying hu]
      | string => unfold Instr.checkKey; simp [run_underlying hu]
      | int k0 => unfold Instr.checkKey; simp [run_underlying hu]
      | struct fs =>
        simp only at h
        split at h
        · cases h
        · have ha : aggOf P t = some true := by simp [aggOf, hu]
          rw [valOf_agg ha]
          unfold Instr.checkKey
          simp only [Sem.run_bind, run_underlying hu, Result.andThen_ok]
          rw [← Array.forIn_toList]
          have each := kindsF_all h
          clear h
          generalize fs.toList = L at each
          induction L with
          | nil => simp
          | cons f L ih =>
            obtain ⟨hn, k1, e1, e2, e3⟩ := each f (by simp)
            have p1 := part_of (off := f.offset) e1 e2 (by omega)
            have p2 := check_cells d f.type k1 e1 w em d'' hd2 ((xs.drop f.offset).take k1.length) (by simp; omega)
            simp only [List.forIn_cons, Sem.run_bind, hn, ne_eq, not_false_eq_true, if_true, Result.andThen_ok, p1, p2, Sem.run_pure]
            exact ih (fun y hy => each y (by simp [hy]))
      | array n e =>
        simp only at h
        split at h
        · rename_i ks1 s hk hs
          split at h
          · rename_i hl
            cases h
            have ha : aggOf P t = some true := by simp [aggOf, hu]
            rw [← hl] at hs
            rw [valOf_agg ha]
            unfold Instr.checkKey
            simp only [Sem.run_bind, run_underlying hu, Result.andThen_ok]
            simp only [Std.Legacy.Range.forIn_eq_forIn_range', Std.Legacy.Range.size, Nat.sub_zero, Nat.add_one_sub_one, Nat.div_one]
            rw [repl_flat] at hx
            have each : ∀ j ∈ List.range' 0 n, j * ks1.length + ks1.length ≤ xs.length := by
              intro j hj
              rw [← List.range_eq_range', List.mem_range] at hj
              rw [hx, ← Nat.succ_mul]
              exact Nat.mul_le_mul_right _ hj
            generalize List.range' 0 n = is at each
            induction is with
            | nil => simp
            | cons j is ih =>
              have p1 := part_of (off := j * ks1.length) hk hs (each j (by simp))
              have p2 := check_cells d e ks1 hk w em d'' hd2 ((xs.drop (j * ks1.length)).take ks1.length) (by have := each j (by simp); simp; omega)
              simp only [List.forIn_cons, Sem.run_bind, run_sizeOf hs, Result.andThen_ok, p1, p2, Sem.run_pure]
              exact ih (fun y hy => each y (by simp [hy]))
          · cases h
        · cases h
      | _ => cases h
theorem sameBits_flat {k : Nat} {a b : D} {x y : Value} {n : Nat} (h : sameF k a b = some true) (h1 : RepD w A a x) (h2 : RepD w A b y) : Instr.sameBits n y x = true := by
  unfold sameF at h
  split at h
  · split at h
    · rename_i hk
      subst hk
      cases h1
      cases h2
      simp only [Option.some.injEq, beq_iff_eq] at h
      subst h
      unfold Instr.sameBits; simp
    · cases h
  · cases h1
    cases h2
    simp only [Option.some.injEq, beq_iff_eq] at h
    subst h
    rename_i s
    have e : (ByteArray.mk ⟨s⟩ == ByteArray.mk ⟨s⟩) = true := by rw [bytes_beq]; simp
    unfold Instr.sameBits; exact e
  · cases h1
    cases h2
    simp only [Option.some.injEq, beq_iff_eq] at h
    subst h
    unfold Instr.sameBits; simp
  · cases h
theorem sameBits_cells {n : Nat} : ∀ {ks : List Nat} {ls rs : List D} {xs ys : List Value}, Rl w A ls xs → Rl w A rs ys → sameFs ks ls rs = some true → Instr.sameBits (n + 1) (.agg ys.toArray) (.agg xs.toArray) = true := by
  intro ks ls rs xs ys hx hy h
  have e := sameFs_len h
  have lx := hx.len
  have ly := hy.len
  simp only [Instr.sameBits, List.size_toArray, Bool.and_eq_true, beq_iff_eq]
  refine ⟨by omega, ?_⟩
  clear e lx ly
  induction hx generalizing ks rs ys with
  | nil => simp
  | cons h1 t1 ih =>
    cases hy with
    | nil => simp
    | cons h2 t2 =>
      cases ks with
      | nil => cases h
      | cons k ks =>
        unfold sameFs at h
        split at h
        · rename_i p q e1 e2
          simp only [Option.some.injEq, Bool.and_eq_true] at h
          obtain ⟨rfl, rfl⟩ := h
          simp only [List.zip_cons_cons, List.all_cons, Bool.and_eq_true]
          exact ⟨sameBits_flat e1 h1 h2, by simpa using ih t2 e2⟩
        · cases h
end
section
variable {P : Program} {o : Oper} {a : Act} {w w' : World} {F : Nat → Prop} {gl : Nat → Option (List D)} {h h' : Hp} {ρ ρ' : Rho} {v : V} {val : Value}
theorem step_makeMap (hs : HSim F gl w h ρ) {t kt et : TypeId} (ho : o.op = .makeMap t none) (_ : P.underlying t = some (.map kt et)) {e : Env} {cl : Call} (he : eval cl e h .makeMap = some (v, h')) : Step P o a w F gl h ρ v h' := by
  obtain ⟨nx, ob⟩ := h
  cases he
  have hk := kept_alloc w (.map #[] 0)
  have hv : ∀ b', blkOf (.map (some w.heap.size)) = some b' → w.heap.size ≤ b' := fun b' h => by simp [blkOf] at h; omega
  refine .value (val := .map (some w.heap.size)) (w' := w.alloc (.map #[] 0)) ?_ (.c _ _ (.map _ _ (by simp) (upd_same _ _ _)))
    (hs.new hk hv (fun _ _ _ h => h) (.map [] w.heap.size [] 0 (upd_same _ _ _) (heap_alloc_new w _) rfl (by simp) (by simp))) (.new hk hv (fun _ _ _ h => h))
  simp [execOp, ho, Instr.makeMap]
theorem flatDs_rep {X : Cx} : ∀ {cs : List C} {ds : List D} {vs : List Value}, flatDs cs = some ds → vs.length = cs.length → (∀ (i : Nat) (q : C) (v : Value), cs[i]? = some q → vs[i]? = some v → RepC X q v) → Rl X.w X.A ds vs
  | [], ds, vs, h, hl, _ => by
    cases h
    obtain rfl := List.length_eq_zero_iff.1 hl
    exact .nil
  | c :: cs, ds, v :: vs, h, hl, hc => by
    cases c <;> first | (cases h; done) | skip
    rename_i d
    unfold flatDs at h
    split at h
    · rename_i l _ h2
      cases h
      have h0 := hc 0 (.d d) v rfl rfl
      cases h0 with
      | d _ _ h0 => exact .cons h0 (flatDs_rep h2 (by simpa using hl) fun i q v h1 h2 => hc (i + 1) q v (by simpa using h1) (by simpa using h2))
    · cases h
theorem keyD_rep {X : Cx} {q : V} {kd : D} {v : Value} (hq : RepV X q v) (h : keyD q = some kd) : RepK X.w X.A kd v := by
  unfold keyD at h
  split at h
  · rename_i d
    split at h
    · rename_i hf
      cases h
      cases hq with
      | c _ _ hq => cases hq with
        | d _ _ hd => exact .flat _ _ hf hd
    · cases h
  · rename_i cs
    split at h
    · rename_i ds hd
      cases h
      cases hq with
      | agg _ vs hl hc =>
        have := flatDs_rep hd hl hc
        refine .wide _ _ this.len ?_
        clear hd hl hc
        induction this with
        | nil => intro i d v h1 _; simp at h1
        | cons h t ih =>
          intro i d v h1 h2
          cases i with
          | zero => simp at h1 h2; subst h1; subst h2; exact h
          | succ i => exact ih i d v (by simpa using h1) (by simpa using h2)
    · cases h
  · cases h
def MapRep (X : Cx) (es : List (D × C)) (mes : List MapEntry) : Prop := mes.length = es.length ∧ ∀ (i : Nat) (p : D × C) (m : MapEntry), es[i]? = some p → mes[i]? = some m → RepK X.w X.A p.1 m.key ∧ RepC X p.2 m.val
theorem MapRep.tail {X : Cx} {p : D × C} {es : List (D × C)} {m : MapEntry} {mes : List MapEntry} (h : MapRep X (p :: es) (m :: mes)) : MapRep X es mes :=
  ⟨by simpa using h.1, fun i p m h1 h2 => h.2 (i + 1) p m (by simpa using h1) (by simpa using h2)⟩
structure Finder (P : Program) (w : World) (A : Nat → Prop) (wd : Bool) (ks : List Nat) (kt : TypeId) (kd : D) (u : Value) (Fnd : List MapEntry → Nat → Option (Nat × Value) → Prop) : Prop where
  nil : ∀ n, Fnd [] n none
  hit : ∀ k' m mes n, RepK w A k' m.key → sameK wd ks kd k' = some true → Fnd (m :: mes) n (some (n, m.val)) ∧ Instr.sameBits 10000 m.key u = true
  miss : ∀ k' m mes n r, RepK w A k' m.key → sameK wd ks kd k' = some false → Fnd mes (n + 1) r → Fnd (m :: mes) n r
  run : ∀ mes r, Fnd mes 0 r → (Instr.findKey kt u mes).run P w = .ok r w
  check : ∀ em, (Instr.checkKey em 10000 kt u).run P w = .ok () w
theorem sameF_flat {k : Nat} {a b : D} {q : Bool} (h : sameF k a b = some q) : a.flat = true ∧ b.flat = true := by
  unfold sameF at h
  split at h <;> first | exact ⟨rfl, rfl⟩ | cases h
theorem finder_flat {A : Nat → Prop} {ks : List Nat} {kt : TypeId} (hk : kinds P 10 kt = some ks) (ha : aggOf P kt = some false) {kd : D} {u : Value} (hu : RepK w A kd u) (ho : okK false ks kd = true) : ∃ Fnd, Finder P w A false ks kt kd u Fnd := by
  have hchk : ∀ em, (Instr.checkKey em 10000 kt u).run P w = .ok () w := by
    intro em
    have := check_cells 10 kt ks hk w em 10000 (by decide) [u] (by obtain ⟨g, hg, h1⟩ := kinds_agg hk; rw [ha] at hg; cases hg; simpa using (h1 rfl).symm)
    rwa [valOf_one ha] at this
  have hd : RepD w A kd u := by
    cases hu with
    | flat _ _ _ h => exact h
    | wide ds vs _ _ => 
      exfalso
      unfold okK at ho
      cases ks with
      | nil => simp [okFs] at ho
      | cons k r => simp only [okFs] at ho; cases k with
        | zero => simp [okF] at ho
        | succ k => cases k with
          | zero => simp [okF] at ho
          | succ k => cases k <;> simp [okF] at ho
  cases hut : P.underlying kt with
  | none => unfold kinds at hk; rw [hut] at hk; cases hk
  | some td =>
    have now : ∀ k' v' b, RepK w A k' v' → sameK false ks kd k' = some b → Instr.sameNow td u v' = some b ∧ (b = true → Instr.sameBits 10000 v' u = true) := by
      intro k' v' b hr hs
      unfold sameK at hs
      simp only at hs
      have ka : ∃ k, ks = [k] ∧ (k = 0 ∧ (∃ q, td = .int q) ∨ k = 1 ∧ td = .string ∨ k = 2 ∧ td = .bool) := by
        unfold kinds at hk
        rw [hut] at hk
        unfold aggOf at ha
        rw [hut] at ha
        cases td <;> first | (cases hk; done) | (simp at ha; done) | skip
        · cases hk; exact ⟨2, rfl, .inr (.inr ⟨rfl, rfl⟩)⟩
        · cases hk; exact ⟨0, rfl, .inl ⟨rfl, _, rfl⟩⟩
        · cases hk; exact ⟨1, rfl, .inr (.inl ⟨rfl, rfl⟩)⟩
      obtain ⟨k, rfl, hk2⟩ := ka
      have hs2 : sameF k kd k' = some b := by
        unfold sameFs at hs
        cases hq : sameF k kd k' with
        | none => rw [hq] at hs; cases hs
        | some x => rw [hq] at hs; simpa [sameFs] using hs
      have hr' : RepD w A k' v' := by
        cases hr with
        | flat _ _ _ h => exact h
        | wide => have := (sameF_flat hs2).2; simp [D.flat] at this
      refine ⟨?_, fun hb => by subst hb; exact sameBits_flat hs2 hd hr'⟩
      rcases hk2 with ⟨rfl, q, rfl⟩ | ⟨rfl, rfl⟩ | ⟨rfl, rfl⟩
      all_goals
        unfold sameF at hs2
        split at hs2 <;> first | contradiction | (cases hs2; done) | skip
      · split at hs2
        · rename_i hkk
          subst hkk
          cases hs2
          cases hd
          cases hr'
          simp [Instr.sameNow]
        · cases hs2
      · cases hs2
        cases hd
        cases hr'
        simp [Instr.sameNow, bytes_beq]
      · cases hs2
        cases hd
        cases hr'
        simp [Instr.sameNow]
    refine ⟨fun mes n r => Instr.findNow td u mes n = some r, fun n => rfl, ?_, ?_, ?_, hchk⟩
    · intro k' m mes n hr hs
      obtain ⟨h1, h2⟩ := now k' m.key true hr hs
      exact ⟨by simp [Instr.findNow, h1], h2 rfl⟩
    · intro k' m mes n r hr hs hf
      obtain ⟨h1, _⟩ := now k' m.key false hr hs
      simp only [Instr.findNow, h1]
      exact hf
    · intro mes r hf
      simp [Instr.findKey, run_underlying hut, hf]
theorem finder_wide {A : Nat → Prop} {ks : List Nat} {kt : TypeId} (hk : kinds P 10 kt = some ks) (ha : aggOf P kt = some true) {kd : D} {u : Value} (hu : RepK w A kd u) (ho : okK true ks kd = true) : ∃ Fnd, Finder P w A true ks kt kd u Fnd := by
  have hwide : (match P.underlying kt with | some (.array _ _) | some (.struct _) => true | _ => false) = true := by
    unfold aggOf at ha
    split at ha <;> simp_all
  have hlen : ∀ {ks : List Nat} {x : List D}, okFs ks x = true → x.length = ks.length := by
    intro ks
    induction ks with
    | nil => intro x h; cases x with | nil => rfl | cons _ _ => simp [okFs] at h
    | cons k r ih =>
      intro x h
      cases x with
      | nil => simp [okFs] at h
      | cons a l =>
        simp only [okFs] at h
        split at h
        · simp [ih h]
        · cases h
  cases hu with
  | flat d v hf h => cases kd <;> simp [okK] at ho; simp [D.flat] at hf
  | wide ds vs hl hc =>
    have hx : Rl w A ds vs := .of hl hc
    have eq : ∀ k' v' b, RepK w A k' v' → sameK true ks (.list 0 [ds]) k' = some b → (Op.equal kt (.agg vs.toArray) v').run P w = .ok b w ∧ (b = true → Instr.sameBits 10000 v' (.agg vs.toArray) = true) := by
      intro k' v' b hr hs
      cases hr with
      | flat _ _ hf _ => cases k' <;> first | (simp [sameK] at hs; done) | (simp [D.flat] at hf; done)
      | wide ds' vs' hl' hc' =>
        have hy : Rl w A ds' vs' := .of hl' hc'
        have hs' : sameFs ks ds ds' = some b := hs
        have := equal_run (P := P) (w := w) hk hx hy hs'
        rw [valOf_agg ha, valOf_agg ha] at this
        exact ⟨this, fun hb => by subst hb; exact sameBits_cells hx hy hs'⟩
    refine ⟨fun mes n r => (Instr.findAsking kt (.agg vs.toArray) mes n).run P w = .ok r w, fun n => by simp [Instr.findAsking], ?_, ?_, ?_, ?_⟩
    · intro k' m mes n hr hs
      obtain ⟨h1, h2⟩ := eq k' m.key true hr hs
      exact ⟨by simp [Instr.findAsking, h1], h2 rfl⟩
    · intro k' m mes n r hr hs hf
      obtain ⟨h1, _⟩ := eq k' m.key false hr hs
      simp only [Instr.findAsking, Sem.run_bind, h1, Result.andThen_ok]
      simpa using hf
    · intro mes r hf
      rw [run_findKey_eq w hwide]
      exact hf
    · intro em
      have := check_cells 10 kt ks hk w em 10000 (by decide) vs (by rw [hl]; exact hlen (by simpa [okK] using ho))
      rwa [valOf_agg ha] at this
theorem finder {A : Nat → Prop} {wd : Bool} {ks : List Nat} {kt : TypeId} (hk : kinds P 10 kt = some ks) (ha : aggOf P kt = some wd) {kd : D} {u : Value} (hu : RepK w A kd u) (ho : okK wd ks kd = true) : ∃ Fnd, Finder P w A wd ks kt kd u Fnd := by
  cases wd with
  | false => exact finder_flat hk ha hu ho
  | true => exact finder_wide hk ha hu ho
theorem findK_run {X : Cx} {wd : Bool} {ks : List Nat} {kt : TypeId} {kd : D} {u : Value} {Fnd : List MapEntry → Nat → Option (Nat × Value) → Prop} (F : Finder P w X.A wd ks kt kd u Fnd) (hX : X.w = w) : ∀ {es : List (D × C)} {mes : List MapEntry} {r : Option C}, MapRep X es mes → findK wd ks kd es = some r → ∀ n,
    ∃ r', Fnd mes n r' ∧ (match r, r' with | none, none => True | some q, some (_, v) => RepC X q v | _, _ => False)
  | [], mes, r, hr, hf, n => by
    cases hf
    have : mes = [] := List.length_eq_zero_iff.1 hr.1
    subst this
    exact ⟨none, F.nil n, trivial⟩
  | (k', c) :: es, mes, r, hr, hf, n => by
    match mes, hr.1 with
    | m :: mes, _ =>
      obtain ⟨h1, h2⟩ := hr.2 0 (k', c) m rfl rfl
      rw [hX] at h1
      unfold findK at hf
      cases hk : sameK wd ks kd k' with
      | none => rw [hk] at hf; cases hf
      | some b =>
        rw [hk] at hf
        cases b with
        | true =>
          cases hf
          exact ⟨some (n, m.val), (F.hit k' m mes n h1 hk).1, h2⟩
        | false =>
          obtain ⟨r', e1, e2⟩ := findK_run F hX hr.tail hf (n + 1)
          exact ⟨r', F.miss k' m mes n r' h1 hk e1, e2⟩
theorem step_mapGet (hs : HSim F gl w h ρ) {t kt et : TypeId} {m k : Operand} {ok : Bool} (ho : o.op = .lookup t m k ok) (ht : P.underlying t = some (.map kt et)) {wd : Bool} {ks : List Nat} (hk : kinds P 10 kt = some ks) (hka : aggOf P kt = some wd) {z : C} {zv : Value} (hz : ∀ w : World, (zeroValue et).run P w = .ok zv w) (hzc : constC zv = some z)
    {m' k' : Opd} {e : Env} (hm : RepV (cx F w h ρ) (ev e m') (a.eval m)) (hkr : RepV (cx F w h ρ) (ev e k') (a.eval k)) {cl : Call} (he : eval cl e h (.mapGet wd ks m' k' z ok) = some (v, h')) : Step P o a w F gl h ρ v h' := by
  obtain ⟨nx, ob⟩ := h
  simp only [eval] at he
  split at he
  · rename_i y kd hev hevk
    rw [hev] at hm
    have hkd := keyD_rep hkr hevk
    split at he
    · rename_i es hok hl
      generalize hmv : a.eval m = mv at hm
      generalize hkv : a.eval k = kv at hkd
      cases hm with
      | c _ _ hq =>
        cases hq with
        | map _ r hxlt hr =>
          have hob := hs.obs y _ hl
          cases hob with
          | map _ r' mes clock hr' hb hlen hke hone =>
            have e1 : ρ y = .map (some r) := hr
            have e2 : ρ y = .map (some r') := hr'
            rw [e1] at e2
            cases e2
            have hb : w.heap[r]? = some (.map mes.toArray clock) := hb
            obtain ⟨Fnd, FF⟩ := finder (P := P) (w := w) hk hka hkd hok
            cases hf : findK wd ks kd es with
            | none => rw [hf] at he; cases he
            | some fr =>
              obtain ⟨r2, f1, f2⟩ := findK_run (X := cx F w ⟨nx, ob⟩ ρ) FF rfl ⟨hlen, hke⟩ hf 0
              have f1 := FF.run _ _ f1
              have hck := FF.check
              rw [hf] at he
              have hget : ((getObj r).run P w : Result Obj) = .ok (.map mes.toArray clock) w := by simp [getObj, Sem.run, hb]
              have pair : ∀ (c : C) (u : Value) (b : Bool), RepC (cx F w ⟨nx, ob⟩ ρ) c u → RepV (cx F w ⟨nx, ob⟩ ρ) (.tup [.c c, .c (.d (.bool b))]) (.tuple #[u, .bool b]) := by
                intro c u b hc
                refine .tup _ [_, _] rfl ?_
                intro i q v hq hv
                match i with
                | 0 => simp at hq hv; subst hq; subst hv; exact .c _ _ hc
                | 1 => simp at hq hv; subst hq; subst hv; exact rep_bool _
                | i + 2 => simp at hq
              cases fr with
              | some q =>
                cases r2 with
                | none => exact f2.elim
                | some x =>
                  obtain ⟨i, u⟩ := x
                  cases ok with
                  | true =>
                    cases he
                    refine .quiet hs (val := .tuple #[u, .bool true]) ?_ (pair _ _ _ f2)
                    simp [execOp, ho, hmv, hkv, Instr.lookup, run_underlying ht, hget, hck, f1]
                  | false =>
                    cases he
                    refine .quiet hs (val := u) ?_ (.c _ _ f2)
                    simp [execOp, ho, hmv, hkv, Instr.lookup, run_underlying ht, hget, hck, f1]
              | none =>
                cases r2 with
                | some x => exact f2.elim
                | none =>
                  cases ok with
                  | true =>
                    cases he
                    refine .quiet hs (val := .tuple #[zv, .bool false]) ?_ (pair _ _ _ (constC_rep hzc))
                    simp [execOp, ho, hmv, hkv, Instr.lookup, run_underlying ht, hget, hck, f1, hz]
                  | false =>
                    cases he
                    refine .quiet hs (val := zv) ?_ (.c _ _ (constC_rep hzc))
                    simp [execOp, ho, hmv, hkv, Instr.lookup, run_underlying ht, hget, hck, f1, hz]
    · cases he
  · cases he
theorem setK_rep {X : Cx} {wd : Bool} {ks : List Nat} {kt : TypeId} {kd : D} {u uv : Value} {q : C} {Fnd : List MapEntry → Nat → Option (Nat × Value) → Prop} (F : Finder P w X.A wd ks kt kd u Fnd) (hX : X.w = w) (hu : RepK X.w X.A kd u) (hq : RepC X q uv) (clock : Nat) :
    ∀ {es es' : List (D × C)} {mes : List MapEntry}, MapRep X es mes → setK wd ks kd q es = some es' → ∀ n, ∃ r', Fnd mes n r' ∧
      (match r' with
        | none => MapRep X es' (mes ++ [⟨u, uv, clock⟩])
        | some (i, _) => ∃ j m, i = n + j ∧ mes[j]? = some m ∧ Instr.sameBits 10000 m.key u = true ∧ MapRep X es' (mes.set j { m with key := u, val := uv }))
  | [], es', mes, hr, hs, n => by
    cases hs
    have : mes = [] := List.length_eq_zero_iff.1 hr.1
    subst this
    refine ⟨none, F.nil n, rfl, ?_⟩
    intro i p m h1 h2
    cases i with
    | zero => simp at h1 h2; subst h1; subst h2; exact ⟨hu, hq⟩
    | succ i => simp at h1
  | (k', c) :: es, es', mes, hr, hs, n => by
    match mes, hr.1 with
    | m :: mes, _ =>
      obtain ⟨h1, h2⟩ := hr.2 0 (k', c) m rfl rfl
      unfold setK at hs
      cases hk : sameK wd ks kd k' with
      | none => rw [hk] at hs; cases hs
      | some b =>
        rw [hk] at hs
        cases b with
        | true =>
          cases hs
          have hit := F.hit k' m mes n (hX ▸ h1) hk
          refine ⟨some (n, m.val), hit.1, 0, m, rfl, rfl, hit.2, by simpa using hr.1, ?_⟩
          intro i p m' g1 g2
          cases i with
          | zero => simp at g1 g2; subst g1; subst g2; exact ⟨hu, hq⟩
          | succ i => exact hr.2 (i + 1) p m' (by simpa using g1) (by simpa using g2)
        | false =>
          simp only at hs
          cases hs' : setK wd ks kd q es with
          | none => rw [hs'] at hs; cases hs
          | some es2 =>
            rw [hs'] at hs
            cases hs
            obtain ⟨r', e1, e2⟩ := setK_rep F hX hu hq clock hr.tail hs' (n + 1)
            refine ⟨r', F.miss k' m mes n r' (hX ▸ h1) hk e1, ?_⟩
            cases r' with
            | none =>
              refine ⟨by simpa using e2.1, ?_⟩
              intro i p m' g1 g2
              cases i with
              | zero => simp at g1 g2; subst g1; subst g2; exact ⟨h1, h2⟩
              | succ i => exact e2.2 i p m' (by simpa using g1) (by simpa using g2)
            | some x =>
              obtain ⟨i, v⟩ := x
              obtain ⟨j, m1, q1, q2, q3, q4, q5⟩ := e2
              refine ⟨j + 1, m1, by omega, by simpa using q2, q3, by simpa using q4, ?_⟩
              intro i p m' g1 g2
              cases i with
              | zero => simp at g1 g2; subst g1; subst g2; exact ⟨h1, h2⟩
              | succ i => exact q5 i p m' (by simpa using g1) (by simpa using g2)
theorem setK_any {wd : Bool} {ks : List Nat} {kd : D} {q : C} (hq : q.isAny = false) : ∀ {es es' : List (D × C)}, setK wd ks kd q es = some es' → (∀ p ∈ es, p.2.isAny = false) → ∀ p ∈ es', p.2.isAny = false
  | [], es', hs, _ => by cases hs; simpa using hq
  | (k', c) :: es, es', hs, h => by
    unfold setK at hs
    cases hk : sameK wd ks kd k' with
    | none => rw [hk] at hs; cases hs
    | some b =>
      rw [hk] at hs
      cases b with
      | true =>
        cases hs
        intro p hp
        cases hp with
        | head => exact hq
        | tail _ hm => exact h p (List.mem_cons_of_mem _ hm)
      | false =>
        simp only at hs
        cases hs' : setK wd ks kd q es with
        | none => rw [hs'] at hs; cases hs
        | some es2 =>
          rw [hs'] at hs
          cases hs
          intro p hp
          cases hp with
          | head => exact h (k', c) (List.mem_cons_self ..)
          | tail _ hm => exact setK_any hq hs' (fun p hp => h p (List.mem_cons_of_mem _ hp)) p hm
theorem step_mapSet (hs : HSim F gl w h ρ) {t kt et : TypeId} {m k x : Operand} (ho : o.op = .mapUpdate t m k x ∨ o.op = .insert t m k x) (ht : P.underlying t = some (.map kt et)) {wd : Bool} {ks : List Nat} (hk : kinds P 10 kt = some ks) (hka : aggOf P kt = some wd)
    {m' k' x' : Opd} {e : Env} (hm : RepV (cx F w h ρ) (ev e m') (a.eval m)) (hkr : RepV (cx F w h ρ) (ev e k') (a.eval k)) (hxr : RepV (cx F w h ρ) (ev e x') (a.eval x)) {cl : Call} (he : eval cl e h (.mapSet wd ks m' k' x') = some (v, h')) : Step P o a w F gl h ρ v h' := by
  obtain ⟨nx, ob⟩ := h
  simp only [eval] at he
  split at he
  · rename_i y kd q hev hevk hevx
    rw [hev] at hm
    have hkd := keyD_rep hkr hevk
    rw [hevx] at hxr
    split at he
    · rename_i es hany hok hl
      generalize hmv : a.eval m = mv at hm
      generalize hkv : a.eval k = kv at hkd
      generalize hxv : a.eval x = xv at hxr
      cases hm with
      | c _ _ hq =>
        cases hq with
        | map _ r hxlt hr =>
          have hob := hs.obs y _ hl
          cases hob with
          | map _ r' mes clock hr' hb hlen hke hone =>
            have e1 : ρ y = .map (some r) := hr
            have e2 : ρ y = .map (some r') := hr'
            rw [e1] at e2
            cases e2
            have hb : w.heap[r]? = some (.map mes.toArray clock) := hb
            have hrlt : r < w.heap.size := (Array.getElem?_eq_some_iff.1 hb).1
            obtain ⟨Fnd, FF⟩ := finder (P := P) (w := w) hk hka hkd hok
            have hck := FF.check
            cases hxr with
            | c _ _ hxq =>
              cases hse : setK wd ks kd q es with
              | none => rw [hse] at he; cases he
              | some es' =>
                rw [hse] at he
                simp only at he
                cases hp : put ob y (.map es') with
                | none => rw [hp] at he; cases he
                | some ob' =>
                  rw [hp] at he
                  cases he
                  obtain ⟨r2, f1, f2⟩ := setK_rep (X := cx F w ⟨nx, ob⟩ ρ) FF rfl hkd hxq clock ⟨hlen, hke⟩ hse 0
                  have hfind := FF.run _ _ f1
                  have hget : ((getObj r).run P w : Result Obj) = .ok (.map mes.toArray clock) w := by simp [getObj, Sem.run, hb]
                  have hset : ∀ o, (setObj r o).run P w = .ok () { w with heap := w.heap.setIfInBounds r o } := fun o => by simp [setObj, Sem.run, hb]
                  have hbv : ∀ b', blkOf (ρ y) = some b' → blkOf (ρ y) = some b' ∨ w.heap.size ≤ b' := fun b' h => .inl h
                  have fin : ∀ (ms : List MapEntry) (cl2 : Nat), MapRep (cx F w ⟨nx, ob⟩ ρ) es' ms → (execOp a.eval o).run P w = .ok .skip { w with heap := w.heap.setIfInBounds r (.map ms.toArray cl2) } → Step P o a w F gl ⟨nx, ob⟩ ρ (.tup []) ⟨nx, ob'⟩ := by
                    intro ms cl2 hms hrun
                    have hk' : Kept (fun b' => blkOf (ρ y) = some b') w { w with heap := w.heap.setIfInBounds r (.map ms.toArray cl2) } := by
                      refine ⟨rfl, rfl, rfl, by simp, ?_⟩
                      intro b' _ hn
                      have hne : r ≠ b' := fun e => hn (by rw [e1, ← e]; rfl)
                      simp [Array.getElem?_setIfInBounds_ne hne]
                    have later := put_later hs hl hp hk' hbv (.inr ⟨fun sz l h => (by cases h), rfl⟩)
                    refine .skip hrun (put_hs hs hl hp hk' hbv later (.map es' r ms cl2 ((upd_same ρ y (ρ y)).trans e1) (by simp [hrlt]) hms.1 (fun i p m g1 g2 => ⟨(hms.2 i p m g1 g2).1.later later, (hms.2 i p m g1 g2).2.mono later⟩) (setK_any hany hse hone))) later
                  cases r2 with
                  | none =>
                    refine fin _ (clock + 1) f2 ?_
                    rcases ho with ho | ho <;> simp [execOp, ho, hmv, hkv, hxv, Instr.mapUpdate, run_underlying ht, hget, hck, hfind, hset]
                  | some x2 =>
                    obtain ⟨i, v2⟩ := x2
                    obtain ⟨j, me, q1, q2, q3, q4⟩ := f2
                    have hi : i = j := by omega
                    subst hi
                    refine fin _ clock q4 ?_
                    have hmod : (mes.modify i fun e => ({ key := kv, val := xv, born := e.born } : MapEntry)) = mes.set i { key := kv, val := xv, born := me.born } := by
                      simp [List.modify_eq_set, q2]
                    rcases ho with ho | ho <;> simp [execOp, ho, hmv, hkv, hxv, Instr.mapUpdate, run_underlying ht, hget, hck, hfind, hset, Instr.keyThatStays, q2, q3, hmod]
    · cases he
  · cases he
theorem step_eqA (hs : HSim F gl w h ρ) {op : BinOp} {t yt : TypeId} {x y : Operand} (ho : o.op = .binOp op t x y yt) {neg : Bool} {ks : List Nat} (hc : aggCmp P op t = some (neg, ks)) {x' y' : Opd} {e : Env} (hx : RepV (cx F w h ρ) (ev e x') (a.eval x)) (hy : RepV (cx F w h ρ) (ev e y') (a.eval y))
    {cl : Call} (he : eval cl e h (.eqA neg ks x' y') = some (v, h')) : Step P o a w F gl h ρ v h' := by
  simp only [eval] at he
  split at he
  · rename_i cs ds e1 e2
    rw [e1] at hx
    rw [e2] at hy
    split at he
    · rename_i l r f1 f2
      generalize hxv : a.eval x = xv at hx
      generalize hyv : a.eval y = yv at hy
      cases hx with
      | agg _ vs hl1 hc1 =>
        cases hy with
        | agg _ us hl2 hc2 =>
          have r1 := flatDs_rep f1 hl1 hc1
          have r2 := flatDs_rep f2 hl2 hc2
          cases hq : sameFs ks l r with
          | none => rw [hq] at he; cases he
          | some q =>
            rw [hq] at he
            have hop : (op = .eql ∧ neg = false ∨ op = .neq ∧ neg = true) ∧ aggOf P t = some true ∧ kinds P 10 t = some ks ∧ P.eqGuardType P.depth t = false := by
              unfold aggCmp at hc
              cases op <;> first | (cases hc; done) | skip
              all_goals
                simp only at hc
                split at hc
                · rename_i h1 h2
                  split at hc
                  · cases hc
                  · rename_i h3
                    cases hc
                    exact ⟨by simp, h1, h2, by simpa using h3⟩
                · cases hc
            obtain ⟨hop, ha, hk, hg⟩ := hop
            have heq : (Op.equal t (.agg vs.toArray) (.agg us.toArray)).run P w = .ok q w := by
              have := equal_run (P := P) (w := w) hk r1 r2 hq
              rwa [valOf_agg ha, valOf_agg ha] at this
            have hgd : (eqGuard op t x y (.agg vs.toArray) (.agg us.toArray)).run P w = .ok () w := run_eqGuard_agg w op t x y _ _ hg
            rcases hop with ⟨rfl, rfl⟩ | ⟨rfl, rfl⟩
            · cases he
              refine .quiet hs (val := .bool q) ?_ (rep_bool _)
              simp [execOp, ho, hxv, hyv, binOp, heq, hgd]
            · cases he
              refine .quiet hs (val := .bool (!q)) ?_ (rep_bool _)
              simp [execOp, ho, hxv, hyv, binOp, heq, hgd]
    · cases he
  · cases he
theorem step_r2s (hs : HSim F gl w h ρ) {s t : TypeId} {x : Operand} (ho : o.op = .convert s t x) (ht : P.underlying t = some .string) (hu : ∃ k, P.underlying s = some (.int k))
    {y : Opd} {e : Env} (hx : RepV (cx F w h ρ) (ev e y) (a.eval x)) {cl : Call} (he : eval cl e h (.r2s y) = some (v, h')) : Step P o a w F gl h ρ v h' := by
  simp only [eval] at he
  split at he
  · rename_i k n hb
    split at he
    · rename_i hn
      cases he
      rw [hb] at hx
      obtain ⟨k', hk'⟩ := hu
      have henc : Utf8.encode n = ⟨⟨[UInt8.ofNat n.toNat]⟩⟩ := by
        have hv : Utf8.valid n = true := by simp only [Utf8.valid, Bool.or_eq_true, Bool.and_eq_true, decide_eq_true_eq]; omega
        have hc : n.toNat < 128 := by omega
        unfold Utf8.encode
        simp only [hv, if_true, hc]
      refine .quiet hs (val := .string ⟨⟨[UInt8.ofNat n.toNat]⟩⟩) ?_ (.c _ _ (.d _ _ (.str _)))
      simp [execOp, ho, convert, run_underlying ht, run_underlying hk', ev_int hx, Conv.intToString, henc]
    · cases he
  · cases he
theorem step_isNil (hs : HSim F gl w h ρ) {op : BinOp} {t yt : TypeId} {x y : Operand} (ho : o.op = .binOp op t x y yt) {neg : Bool} (hc : nilCmp P op t y = some neg) {x' : Opd} {e : Env} (hx : RepV (cx F w h ρ) (ev e x') (a.eval x))
    {cl : Call} (he : eval cl e h (.isNil neg x') = some (v, h')) : Step P o a w F gl h ρ v h' := by
  have hy : (∃ el, P.underlying t = some (.slice el)) ∧ y = .const (.slice none 0 0) ∧ (op = .eql ∧ neg = false ∨ op = .neq ∧ neg = true) := by
    unfold nilCmp at hc
    split at hc
    · rename_i el hsl
      refine ⟨⟨el, by unfold isSl at hsl; split at hsl <;> cases hsl; assumption⟩, rfl, ?_⟩
      cases op <;> cases hc <;> simp
    · cases hc
  obtain ⟨⟨el, hu⟩, rfl, hop⟩ := hy
  have hyv : a.eval (.const (.slice none 0 0)) = .slice none 0 0 := rfl
  have key : ∀ b n c, a.eval x = .slice b n c → (binOp op t (.slice b n c) (.slice none 0 0)).run P w = .ok (.bool (if neg = true then !b.isNone else b.isNone)) w ∧ (eqGuard op t x (.const (.slice none 0 0)) (.slice b n c) (.slice none 0 0)).run P w = .ok () w := by
    intro b n c _
    refine ⟨?_, eqGuard_pass op t x _ (by simp) (by simp) w⟩
    have he2 : ∀ d, (Op.equalIn (d + 1) t (.slice b n c) (.slice none 0 0)).run P w = .ok b.isNone w := by
      intro d
      cases b <;> simp [Op.equalIn, run_underlying hu]
    have he1 : (Op.equal t (.slice b n c) (.slice none 0 0)).run P w = .ok b.isNone w := he2 9999
    rcases hop with ⟨rfl, rfl⟩ | ⟨rfl, rfl⟩ <;> simp [binOp, he1]
  simp only [eval] at he
  split at he
  · rename_i hev
    cases he
    rw [hev] at hx
    generalize hxv : a.eval x = xv at hx
    cases hx with
    | c _ _ hq =>
      cases hq
      obtain ⟨k1, k2⟩ := key none 0 0 hxv
      refine .quiet hs (val := .bool (!neg)) ?_ (rep_bool _)
      simp [execOp, ho, hxv, hyv, k1, k2]
  · rename_i q _ hev
    rw [hev] at hx
    split at he
    · rename_i sz d l hl
      cases he
      generalize hxv : a.eval x = xv at hx
      cases hx with
      | c _ _ hq =>
        obtain ⟨b, c, rfl, _, hb⟩ := lst_rep hs hq hl
        rcases hb with hb | ⟨b1, off, vs, rfl, _⟩
        · cases hb
        · obtain ⟨k1, k2⟩ := key (some ⟨b1, off, none⟩) (l.length + 1) c hxv
          refine .quiet hs (val := .bool neg) ?_ (rep_bool _)
          simp [execOp, ho, hxv, hyv, k1, k2]
    · cases he
  · cases he
end
end Go.Am
