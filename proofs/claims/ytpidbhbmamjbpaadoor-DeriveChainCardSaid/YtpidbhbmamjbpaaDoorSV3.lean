/-
  derive's deriver: count, any, ways, each by the others at smaller rows.
-/
import Derived.Test.YtpidbhbmamjbpaaDoorSV2
import Derived.Test.YtpidbhbmamjbpaaDoorSMG
namespace Go.Am
open Go
noncomputable def pureD : List (Nat × (List DV → Option DV)) := [(49, T23 partE), (50, T27), (21, T29 partE), (58, T344)]
def noT : List V → Hp → (V → Hp → Prop) → Prop := fun _ _ _ => False
noncomputable def clD : Nat → Call
  | 0 => tblh pureD [(37, noT), (39, noT), (38, noT), (36, noT), (15, noT), (40, noT), (16, noT)]
  | m + 1 => tblh pureD [(37, wpOf (clD m) c335 [.t 6]), (39, wpOf (clD m) c337 [.t 8]), (38, wpOf (clD m) c336 [.t 10]), (36, wpOf (clD m) c334 [.t 10]), (15, wpOf (clD m) c320 [.t 4]), (40, wpOf (clD m) c338 [.t 12]), (16, wpOf (clD m) c321 [.t 10])]
theorem fineD : ∀ m, Fine (clD m)
  | 0 => by
    have h : ∀ args h K, noT args h K → ∃ v h', K v h' ∧ ∀ K' : V → Hp → Prop, K' v h' → noT args h K' := fun _ _ _ h => h.elim
    exact fine_cons h (fine_cons h (fine_cons h (fine_cons h (fine_cons h (fine_cons h (fine_cons h (fine_nil _)))))))
  | m + 1 => by
    have h : ∀ c rs args h K, wpOf (clD m) c rs args h K → ∃ v h', K v h' ∧ ∀ K' : V → Hp → Prop, K' v h' → wpOf (clD m) c rs args h K' := fun c rs args h K hk => wpOf_one (fineD m) hk
    exact fine_cons (h _ _) (fine_cons (h _ _) (fine_cons (h _ _) (fine_cons (h _ _) (fine_cons (h _ _) (fine_cons (h _ _) (fine_cons (h _ _) (fine_nil _)))))))
theorem pureOfD (m : Nat) : (clD m).pure = look pureD := by cases m <;> rfl
theorem hcl23 (m : Nat) : (clD m).pure 49 = some (T23 partE) := by rw [pureOfD]; rfl
theorem hcl27 (m : Nat) : (clD m).pure 50 = some T27 := by rw [pureOfD]; rfl
theorem hcl29 (m : Nat) : (clD m).pure 21 = some (T29 partE) := by rw [pureOfD]; rfl
theorem hcl344 (m : Nat) : (clD m).pure 58 = some T344 := by rw [pureOfD]; rfl
def iD (b : Bool) : Int := if b then 1 else 0
def Q336 (m : Nat) : Prop := ∀ (X : DX) (es : List (D × C)) (nx : Nat) (ob : List (Nat × Ob)), DXok X → DH X es nx ob → ∀ (a b : Nat) (o : Int) (on : Nat) (outer right : Bool), b ≤ X.c.toks.length → (outer = true → o = (on : Int) ∧ on < X.c.ops.length) → 64 * (b - a) + 50 ≤ m →
  wpOf (clD m) c336 [.t 10] [.c (.ptr X.x 0), .c (.d (.int .i64 (a : Nat))), .c (.d (.int .i64 (b : Nat))), .c (.d (.int .i64 o)), .agg [.d (.bool outer), .d (.bool right)]] ⟨nx, ob⟩ (RD X nx ob (.c (.d (.int .i64 (X.c.A on outer right a b : Nat)))))
def Q320 (m : Nat) : Prop := ∀ (X : DX) (es : List (D × C)) (nx : Nat) (ob : List (Nat × Ob)), DXok X → DH X es nx ob → ∀ (a b : Nat) (t : Option Nat), b ≤ X.c.toks.length → topOk X.c t → 64 * (b - a) + 40 ≤ m →
  wpOf (clD m) c320 [.t 4] [.c (.ptr X.x 0), .agg [.d (.int .i64 (a : Nat)), .d (.int .i64 (b : Nat)), .d (.int .i64 (topI t))]] ⟨nx, ob⟩ (RD X nx ob (.c (.d (.int .i64 (X.c.C a b t : Nat)))))
def Q334 (m : Nat) : Prop := ∀ (X : DX) (es : List (D × C)) (nx : Nat) (ob : List (Nat × Ob)), DXok X → DH X es nx ob → ∀ (a b k p i : Nat) (done : Bool), a < b → b ≤ X.c.toks.length → k < X.c.ops.length → p ≤ (X.c.sh k).parts.length → a ≤ i → i ≤ b → 64 * (b - a) + fuelOf (X.c.sh k) p done ≤ m →
  wpOf (clD m) c334 [.t 10] [.c (.ptr X.x 0), .agg [.d (.int .i64 (a : Nat)), .d (.int .i64 (b : Nat)), .d (.int .i64 (k : Nat))], .c (.d (.int .i64 (p : Nat))), .c (.d (.int .i64 (iD done))), .c (.d (.int .i64 (i : Nat)))] ⟨nx, ob⟩ (RD X nx ob (.c (.d (.int .i64 (X.c.W k a b p done i : Nat)))))
theorem RD.keep {X : DX} {nx nx' : Nat} {ob ob' : List (Nat × Ob)} {v0 v : V} {h : Hp} (hn : nx ≤ nx') (hk : ∀ y, y < nx → y ≠ X.my → look ob' y = look ob y) (r : RD X nx' ob' v0 v h) : RD X nx ob v0 v h :=
  ⟨r.1, Nat.le_trans hn r.2.1, r.2.2.1, fun y hy hm => (r.2.2.2 y (Nat.lt_of_lt_of_le hy hn) hm).trans (hk y hy hm)⟩
def anyS (c : Drv) (o : Nat) (outer right : Bool) (a b : Nat) : Nat → Nat
  | 0 => 0
  | j + 1 => c.C a b none + sumTo (fun k => if c.fitT o (some k) outer right = true then c.C a b (some k) else 0) j
theorem sumTo_le {f : Nat → Nat} (h : ∀ i, f i ≤ 2) : ∀ n, sumTo f n ≤ 2 * n
  | 0 => Nat.le_refl _
  | n + 1 => by
    have := sumTo_le h n
    have := h n
    unfold sumTo
    omega
theorem anyS_le (c : Drv) (o : Nat) (outer right : Bool) (a b : Nat) : ∀ j, anyS c o outer right a b j ≤ 2 * j
  | 0 => Nat.le_refl _
  | j + 1 => by
    have h1 := C_le (c := c) a b none
    have h2 := sumTo_le (f := fun k => if c.fitT o (some k) outer right = true then c.C a b (some k) else 0) (fun i => by split; exact C_le ..; omega) j
    show c.C a b none + sumTo _ j ≤ 2 * (j + 1)
    omega
theorem top_of {c : Drv} (j : Nat) (h : j < c.ops.length + 1) : ∃ t, topI t = (j : Int) - 1 ∧ topOk c t ∧ ∀ o outer right a b, anyS c o outer right a b (j + 1) = anyS c o outer right a b j + (if c.fitT o t outer right = true then c.C a b t else 0) := by
  cases j with
  | zero => exact ⟨none, rfl, fun k hk => (by cases hk), fun o outer right a b => (by simp [anyS, sumTo, Drv.fitT])⟩
  | succ j =>
    refine ⟨some j, (by simp [topI]), fun k hk => (by cases hk; omega), fun o outer right a b => ?_⟩
    exact (Nat.add_assoc ..).symm
set_option maxRecDepth 8000 in
set_option maxHeartbeats 4000000 in
theorem w336 {n : Nat} (h320 : Q320 n) : Q336 (n + 1) := by
  intro X es nx ob ok D a b o on outer right hb ho hm
  have hops := ok.ops
  have hlen : (X.c.ops.map opD).length = X.c.ops.length := List.length_map ..
  unfold wpOf c336
  repeat' first | refine GoH ?_ | (refine step_boxA rfl ?_; intro ob0 hb0 hk0) | refine ZB rfl ?_|refine ZC rfl ?_
  refine awp_loop (fun k st => ∃ (j nx' : Nat) (ob' : List (Nat × Ob)) (es' : List (Am.D × C)), j ≤ X.c.ops.length + 1 ∧ X.c.ops.length + 1 - j < k ∧ nx + 1 ≤ nx' ∧ DH X es' nx' ob' ∧ look ob' nx = some (.cells [.d (.bool outer), .d (.bool right)]) ∧ (∀ y, y < nx → y ≠ X.my → look ob' y = look ob y) ∧
    st = ⟨[(0, .c (.ptr X.x 0)), (1, .c (.d (.int .i64 (a : Nat)))), (2, .c (.d (.int .i64 (b : Nat)))), (3, .c (.d (.int .i64 o))), (9, .c (.ptr nx 0)), (11, .c (.d (.int .i64 (anyS X.c on outer right a b j : Nat)))), (12, .c (.d (.int .i64 ((j : Int) - 1))))], ⟨nx', ob'⟩⟩) (X.c.ops.length + 2) ?_ (by rintro st ⟨j, _, _, _, _, h, _⟩; omega) ?_
  · exact weak_keep [0, 1, 2, 3, 9, 11, 12] rfl ⟨0, nx + 1, ob0, es, by omega, by omega, Nat.le_refl _, D.keep (Nat.le_succ _) hk0, hb0, fun y hy _ => hk0 y hy, rfl⟩
  · rintro m K hK st ⟨j, nx1, ob1, es1, h1, h2, h3, D1, hb1, hk1, rfl⟩
    have hx := D1.hx
    by_cases hend : j = X.c.ops.length + 1
    · have hres : X.c.A on outer right a b = min 2 (anyS X.c on outer right a b j) := by rw [hend]; rfl
      repeat' first | refine GoH ?_ | refine ZB (ev_load rfl hx rfl) ?_ | refine ZB (ev_lss_f rfl rfl (by omega)) ?_ | refine ZB (ev_min2 rfl rfl) ?_ | refine ZB rfl ?_|refine ZC rfl ?_
      exact ⟨_, rfl, (by rw [hres]; rfl), (by show nx ≤ nx1; omega), ⟨es1, D1⟩, hk1⟩
    · obtain ⟨t, ht1, ht2, ht3⟩ := top_of (c := X.c) j (by omega)
      have hS := anyS_le X.c on outer right a b j
      have hC := C_le (c := X.c) a b t
      rw [← ht1]
      have h337 := fun nx ob es (D : DH X es nx ob) => w337 (hcl23 n) ok D (o := o) (on := on) ht2 (outer := outer) (right := right) ho
      have hnext := ht3 on outer right a b
      cases hf : X.c.fitT on t outer right with
      | false =>
        rw [hf] at hnext
        simp only [Bool.false_eq_true, if_false, Nat.add_zero] at hnext
        rw [hf] at h337
        repeat' first
          | refine GoH ?_
          | refine ZB (ev_load rfl hx rfl) ?_
          | refine ZB (ev_load rfl hb1 rfl) ?_
          | refine ZB (ev_lss_t rfl rfl (by omega)) ?_
          | (refine step_hR rfl (fineD _) (h337 _ _ _ D1) ?_; rintro v nx2 ob2 ⟨rfl, h4, ⟨es2, D2⟩, hk2⟩)
          | refine ZB (ev_add rfl rfl (by omega) (by omega)) ?_
          | refine ZB rfl ?_|refine ZC rfl ?_
        simp only at h4 D2 hk2
        exact hK _ (weak_keep [0, 1, 2, 3, 9, 11, 12] rfl ⟨j + 1, nx2, ob2, es2, by omega, by omega, by omega, D2, (hk2 _ (by omega) (by have := D.lm; omega)).trans hb1, fun y hy hm => (hk2 y (by omega) hm).trans (hk1 y hy hm), by rw [hnext, show ((j + 1 : Nat) : Int) - 1 = topI t + 1 by omega]; rfl⟩)
      | true =>
        rw [hf] at hnext
        simp only [if_true] at hnext
        rw [hf] at h337
        repeat' first
          | refine GoH ?_
          | refine ZB (ev_load rfl hx rfl) ?_
          | refine ZB (ev_load rfl hb1 rfl) ?_
          | refine ZB (ev_lss_t rfl rfl (by omega)) ?_
          | (refine step_hR rfl (fineD _) (h337 _ _ _ D1) ?_; rintro v nx2 ob2 ⟨rfl, h4, ⟨es2, D2⟩, hk2⟩)
          | (refine step_hR rfl (fineD _) (h320 X es2 nx2 ob2 ok D2 a b t hb ht2 (by omega)) ?_; rintro v nx3 ob3 ⟨rfl, h5, ⟨es3, D3⟩, hk3⟩)
          | refine ZB (ev_addN rfl rfl (by omega)) ?_
          | refine ZB (ev_add rfl rfl (by omega) (by omega)) ?_
          | refine ZB rfl ?_|refine ZC rfl ?_
        simp only at h4 D2 hk2 h5 D3 hk3
        exact hK _ (weak_keep [0, 1, 2, 3, 9, 11, 12] rfl ⟨j + 1, nx3, ob3, es3, by omega, by omega, by omega, D3, (hk3 _ (by omega) (by have := D.lm; omega)).trans ((hk2 _ (by omega) (by have := D.lm; omega)).trans hb1), fun y hy hm => (hk3 y (by omega) hm).trans ((hk2 y (by omega) hm).trans (hk1 y hy hm)), by rw [hnext, show ((j + 1 : Nat) : Int) - 1 = topI t + 1 by omega]; rfl⟩)
end Go.Am
