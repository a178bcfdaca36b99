/-
  derive's deriver: below, its open half; all of it; how long trees are.
-/
import Derived.Test.YtpidbhbmamjbpaaDoorSV8
namespace Go.Am
open Go
theorem sh_pos {c : Drv} {k a b : Nat} (hab : a < b) (h : 0 < c.W k a b 0 false a) : 1 ≤ (c.sh k).parts.length := by
  cases hs : shapeOf c.part (c.op k).pat with
  | some v =>
    have : c.sh k = v := by unfold Drv.sh shOf; rw [hs]
    rw [this]
    exact (mayS_inv (shapeOf_some hs).2.2).1
  | none =>
    have e : c.sh k = noSh := by unfold Drv.sh shOf; rw [hs]
    have ho : opn (c.sh k) 0 false = none := by rw [e]; rfl
    rw [W_shut ho (Nat.zero_le _), if_pos (by rw [e]; rfl), if_neg (by omega)] at h
    cases h
theorem len_Bl {c : Drv} {a b k : Nat} (hT : ∀ x y o r, y - x < b - a → (c.Tr x y k o r).length ≤ y - x) : ∀ (n p : Nat) (done : Bool) (i : Nat), fuelOf (c.sh k) p done ≤ n → p ≤ (c.sh k).parts.length → a ≤ i → 0 < c.W k a b p done i → (c.Bl a b k p done i).1.length + ((c.sh k).parts.length - p) ≤ b - i
  | 0, p, done, i, h, _, _, _ => by unfold fuelOf at h; split at h <;> omega
  | n + 1, p, done, i, hn, hp, hai, hw => by
    cases ho : opn (c.sh k) p done with
    | none =>
      rw [Bl_shut ho hp]
      rw [W_shut ho hp] at hw
      by_cases hpl : p = (c.sh k).parts.length
      · rw [if_pos hpl] at hw
        rw [if_pos hpl]
        simp
        omega
      · rw [if_neg hpl] at hw
        rw [if_neg hpl]
        split at hw
        · rename_i h
          have := len_Bl hT n (p + 1) false (i + 1) (by unfold fuelOf at *; simp; split at hn <;> omega) (by omega) (by omega) hw
          omega
        · cases hw
    | some w =>
      obtain ⟨o, r⟩ := w
      obtain rfl := opn_done ho
      obtain ⟨j, hj, hj2, _⟩ := cut_of hai ho hp hw
      obtain ⟨h1, h2, h3, h4⟩ := cut_lt hj
      rw [Bl_open ho hp, hj]
      have := len_Bl hT n p true (i + 1 + j) (by unfold fuelOf at *; simp at *; omega) hp (by omega) h3
      have ht := hT i (i + 1 + j) o r (by omega)
      simp only [List.length_append]
      omega
theorem len_Tr {c : Drv} : ∀ (n a b o : Nat) (outer right : Bool), b - a ≤ n → (c.Tr a b o outer right).length ≤ b - a
  | 0, a, b, o, outer, right, h => by
    have : b - a = 0 := by omega
    unfold Drv.Tr
    rw [this]
    exact Nat.zero_le _
  | n + 1, a, b, o, outer, right, h => by
    by_cases hab : a < b
    · rw [Tr_eq hab]
      unfold Drv.treeStep
      cases hp : c.pick o outer right a b with
      | none => exact Nat.zero_le _
      | some j =>
        obtain ⟨_, _, h3, _⟩ := firstT_some hp
        simp only [Bool.and_eq_true, decide_eq_true_eq] at h3
        cases j with
        | zero =>
          simp only
          split
          · simp; omega
          · rename_i hne
            have := len_Tr (c := c) n (a + 1) (b - 1) 0 false false (by omega)
            have hc := h3.2
            rw [show topN 0 = none from rfl, C_none hab, if_neg (by omega)] at hc
            have h2 : a + 2 < b := by
              by_cases h2 : a + 2 < b
              · exact h2
              · rw [if_neg (by omega)] at hc; cases hc
            simp only [List.length_cons]
            omega
        | succ k =>
          have hc := h3.2
          rw [show topN (k + 1) = some k from rfl, C_some hab] at hc
          have hw : 0 < c.W k a b 0 false a := by omega
          have h1 := sh_pos hab hw
          have := len_Bl (c := c) (k := k) (a := a) (b := b) (fun x y o r hxy => len_Tr n x y k o r (by omega)) _ 0 false a (Nat.le_refl _) (Nat.zero_le _) (Nat.le_refl _) hw
          have e : (c.below (fun x y o r => c.Tr x y k o r) a b k (fuelOf (c.sh k) 0 false) 0 false a).1.length = (c.Bl a b k 0 false a).1.length := rfl
          simp only [List.length_cons, e]
          omega
    · have : b - a = 0 := by omega
      unfold Drv.Tr
      rw [this]
      exact Nat.zero_le _
set_option maxRecDepth 8000 in
set_option maxHeartbeats 8000000 in
theorem w338o {n : Nat} (h336 : Q336 n) (h334 : Q334 n) (h321 : Q321 n) (h338 : Q338 n) {X : DX} (ok : DXok X) {a b k p i : Nat} (hab : a < b) (hb : b ≤ X.c.toks.length) (hk : k < X.c.ops.length) (hp : p ≤ (X.c.sh k).parts.length) (hai : a ≤ i) (hib : i ≤ b) (hm : 64 * (b - a) + fuelOf (X.c.sh k) p false ≤ n + 1)
    {o r : Bool} (ho : opn (X.c.sh k) p false = some (o, r)) {sz b1 b2 b3 kb n0 : Nat} {u0 u1 u2 u3 : C} {es : List (D × C)} {nx0 nx : Nat} {ob0 ob : List (Nat × Ob)} (W : WS X a b k o r sz b1 b2 b3 es nx ob) (hn : nx0 ≤ nx) (hf : ∀ y, y < nx0 → y ≠ X.my → look ob y = look ob0 y)
    (hkb : look ob kb = some (.cells [u0, u1, u2, u3, .d (.int .i64 (n0 : Nat))])) (hk1 : kb < nx0) (hk2 : kb ≠ X.my) (hk3 : kb ≠ X.x) (hk4 : kb ≠ X.sx) (hk5 : kb ≠ b1 ∧ kb ≠ b2 ∧ kb ≠ b3) (hn0 : n0 + fuelOf (X.c.sh k) p false ≤ 100) (hpos : 0 < X.c.W k a b p false i) :
    awp (clD (n + 1)) (c338.tail 3) (HeapQ [.t 12] (RB X nx0 ob0 kb [u0, u1, u2, u3, .d (.int .i64 ((n0 + (X.c.Bl a b k p false i).2 : Nat) : Int))] (X.c.Bl a b k p false i).1)) (stB X p i kb b1 b2 b3 true nx ob) := by
  have htoks := ok.toks
  obtain ⟨jc, hcut, hjc, hbefore⟩ := cut_of hai ho hp hpos
  have hw := Bl_open (c := X.c) (a := a) (b := b) (i := i) ho hp
  rw [hcut] at hw
  simp only at hw
  have hfu : fuelOf (X.c.sh k) p true < fuelOf (X.c.sh k) p false := by unfold fuelOf; simp
  have hfu1 : 1 ≤ fuelOf (X.c.sh k) p true := by unfold fuelOf; simp
  unfold stB c338
  dsimp only [ACode.tail]
  repeat' first | refine GoH ?_ | refine ZB (ev_add1N rfl rfl (by omega)) ?_ | refine ZB rfl ?_|refine ZC rfl ?_
  refine awp_loop (fun q st => ∃ (j nx1 : Nat) (ob1 : List (Nat × Ob)) (es1 : List (Am.D × C)), j ≤ jc ∧ jc - j < q ∧ nx ≤ nx1 ∧ WS X a b k o r sz b1 b2 b3 es1 nx1 ob1 ∧ (∀ y, y < nx0 → y ≠ X.my → look ob1 y = look ob0 y) ∧ look ob1 kb = some (.cells [u0, u1, u2, u3, .d (.int .i64 (n0 : Nat))]) ∧
    st = ⟨[(0, .c (.ptr X.x 0)), (2, .c (.d (.int .i64 (p : Nat)))), (4, .c (.d (.int .i64 (i : Nat)))), (5, .c (.ptr kb 4)), (7, .c (.ptr b1 0)), (14, .c (.ptr b3 0)), (16, .c (.d (.int .i64 ((i + 1 + j : Nat) : Int))))], ⟨nx1, ob1⟩⟩) (jc + 1) ?_ (by rintro st ⟨j, _, _, _, _, h, _⟩; omega) ?_
  · exact weak_keep [0, 2, 4, 5, 7, 14, 16] rfl ⟨0, nx, ob, es, by omega, by omega, Nat.le_refl _, W, hf, hkb, rfl⟩
  · rintro q K hK st ⟨j, nx1, ob1, es1, h1, h2, h3, W1, hf1, hkb1, rfl⟩
    have g1 := W1.h1
    have g3 := W1.h3
    obtain ⟨cl1, cl2, cl3, cl4⟩ := cut_lt hcut
    have hWl := W_le (c := X.c) k a b p true (i + 1 + j)
    by_cases hend : j = jc
    · subst hend
      rw [hw]
      have hl1 := len_Tr (c := X.c) _ i (i + 1 + j) k o r (Nat.le_refl _)
      have hl2 := len_Bl (c := X.c) (k := k) (a := a) (b := b) (fun x y o r _ => len_Tr _ x y k o r (Nat.le_refl _)) _ p true (i + 1 + j) (Nat.le_refl _) hp (by omega) cl3
      have hlm := W.dh.lm
      have hlx := W.dh.lx
      have hls := W.dh.ls
      repeat' first
        | (apply ZS)
        | refine GoH ?_
        | refine ZB (ev_load rfl g1 rfl) ?_
        | refine ZB (ev_leq_t rfl rfl (by omega)) ?_
        | refine ZB (ev_sub rfl rfl (by omega) (by omega)) ?_
        | refine ZB (ev_lss_t rfl rfl (by omega)) ?_
        | (refine step_hR rfl (fineD _) (h334 X es1 nx1 ob1 ok W1.dh a b k p (i + 1 + j) true hab hb hk hp (by omega) (by omega) (by omega)) ?_; rintro v nx2 ob2 ⟨rfl, h4, ⟨es2, D2⟩, hk2'⟩; simp only at h4 D2 hk2'; have W2 := W1.on h4 D2 hk2'; have g1' := W2.h1; have g3' := W2.h3; have hkb2 := (hk2' kb (by omega) hk2).trans hkb1)
        | refine ZB (ev_gtr_t rfl rfl (by omega)) ?_
        | refine ZB (ev_load rfl g1' rfl) ?_
        | refine ZB (ev_load rfl g3' rfl) ?_
        | (refine step_hR rfl (fineD _) (h336 X es2 nx2 ob2 ok D2 i (i + 1 + j) (topI (some k)) k o r (by omega) (fun _ => ⟨rfl, hk⟩) (by omega)) ?_; rintro v nx3 ob3 ⟨rfl, h5, ⟨es3, D3⟩, hk3'⟩; simp only at h5 D3 hk3'; have W3 := W2.on h5 D3 hk3'; have hkb3 := (hk3' kb (by omega) hk2).trans hkb2)
        | refine ZB (ev_load rfl hkb3 rfl) ?_
        | refine ZB (ev_add1N rfl rfl (by omega)) ?_
        | (refine step_storeA rfl rfl rfl hkb3 rfl ?_; intro ob4 hkb4 hfr4)
        | refine ZB rfl ?_|refine ZC rfl ?_
      have D4 := D3.but hfr4 hk3 hk4 hk2
      have g1_4 := (hfr4 b1 (Ne.symm hk5.1)).trans W3.h1
      have g3_4 := (hfr4 b3 (Ne.symm hk5.2.2)).trans W3.h3
      obtain ⟨v1, ⟨nx5, ob5⟩, ⟨t1, ⟨es5, D5⟩, t3, z, tz1, tz2, rfl, tz3⟩, hT1⟩ := wpOf_one (fineD n) (h321 X es3 nx3 ob4 ok D4 i (i + 1 + j) (topI (some k)) k o r (by omega) (by omega) (fun _ => ⟨rfl, hk⟩) cl4 (by omega))
      simp only at t1 D5 t3 tz2 tz3
      have hb1 := W3.l1
      have hm1 := W3.m1
      have g1_5 := (t3 b1 hb1 hm1).trans g1_4
      have hkb5 := (t3 kb (by omega) hk2).trans hkb4
      obtain ⟨v2, ⟨nx6, ob6⟩, ⟨e1, ⟨es6, D6⟩, e3, e4, e5⟩, hT2⟩ := wpOf_one (fineD n) (h338 X es5 nx5 ob5 ok D5 a b k p (i + 1 + j) true kb (n0 + 1) u0 u1 u2 u3 hab hb hk hp (by omega) (by omega) hkb5 (by omega) hk2 hk3 hk4 (by omega) cl3 (by omega))
      simp only at e1 D6 e3 e4
      have hz6 := (e3 z tz2 (by omega) (by omega)).trans tz3
      obtain ⟨ob7, hp7⟩ := put_of_look (.row 5 ((X.c.Tr i (i + 1 + j) k o r).map ndD ++ (X.c.Bl a b k p true (i + 1 + j)).1.map ndD)) hz6
      have hroom : ((X.c.Tr i (i + 1 + j) k o r).map ndD).length + ((X.c.Bl a b k p true (i + 1 + j)).1.map ndD).length ≤ room := by rw [List.length_map, List.length_map]; unfold room; omega
      repeat' first
        | refine GoH ?_
        | (with_reducible apply ZT)
        | refine ZX rfl rfl ?_
        | refine ZY (ev_load rfl g1_4 rfl) (by (repeat' first|exact True.intro|refine ⟨?_, ?_⟩|exact .inl rfl|exact .inr (.inl rfl)|exact .inr (.inr rfl)|rfl)) ?_
        | refine ZY (ev_load rfl g3_4 rfl) (by (repeat' first|exact True.intro|refine ⟨?_, ?_⟩|exact .inl rfl|exact .inr (.inl rfl)|exact .inr (.inr rfl)|rfl)) ?_
        | refine ZZ (evalR_h rfl (hT1 _ ⟨rfl, rfl⟩)) (by (repeat' first|exact True.intro|refine ⟨?_, ?_⟩|exact .inl rfl|exact .inr (.inl rfl)|exact .inr (.inr rfl)|rfl)) ?_
        | refine ZY (ev_load rfl g1_5 rfl) (by repeat' first | exact True.intro | refine ⟨?_, ?_⟩ | exact .inl rfl | exact .inr (.inl rfl) | exact .inr (.inr (ev_load rfl g1_4 rfl))) ?_
        | refine ZZ (evalR_h rfl (hT2 _ ⟨rfl, rfl⟩)) (by (repeat' first|exact True.intro|refine ⟨?_, ?_⟩|exact .inl rfl|exact .inr (.inl rfl)|exact .inr (.inr rfl)|rfl)) ?_
        | refine ZZ (Z0 (ev_appB rfl rfl e5 hz6 hroom hp7) ⟨rfl, rfl⟩) (by (repeat' first|exact True.intro|refine ⟨?_, ?_⟩|exact .inl rfl|exact .inr (.inl rfl)|exact .inr (.inr rfl)|rfl)) ?_
        | refine ZB rfl ?_|refine ZC rfl ?_
      refine ⟨_, rfl, (by show nx0 ≤ nx6; omega), ⟨es6, D6.but (fun y hy => look_put_other hp7 hy) (by omega) (by omega) (by omega)⟩, fun y hy hm hq => ?_, ?_, .inr ⟨z, by omega, (by show z < nx6; omega), ?_, ?_⟩⟩
      · exact (look_put_other hp7 (by omega)).trans ((e3 y (by omega) hm hq).trans ((t3 y (by omega) hm).trans ((hfr4 y hq).trans ((hk3' y (by omega) hm).trans ((hk2' y (by omega) hm).trans (hf1 y hy hm))))))
      · rw [show n0 + ((X.c.Bl a b k p true (i + 1 + j)).2 + 1) = n0 + 1 + (X.c.Bl a b k p true (i + 1 + j)).2 by omega]
        exact (look_put_other hp7 (by omega)).trans e4
      · rw [List.map_append]; rfl
      · rw [List.map_append]; exact look_put_same hp7
    · have hno := hbefore j (by omega)
      by_cases hz : X.c.W k a b p true (i + 1 + j) = 0
      · repeat' first
          | refine GoH ?_
          | refine ZB (ev_load rfl g1 rfl) ?_
          | refine ZB (ev_leq_t rfl rfl (by omega)) ?_
          | refine ZB (ev_sub rfl rfl (by omega) (by omega)) ?_
          | refine ZB (ev_lss_t rfl rfl (by omega)) ?_
          | (refine step_hR rfl (fineD _) (h334 X es1 nx1 ob1 ok W1.dh a b k p (i + 1 + j) true hab hb hk hp (by omega) (by omega) (by omega)) ?_; rintro v nx2 ob2 ⟨rfl, h4, ⟨es2, D2⟩, hk2'⟩; simp only at h4 D2 hk2')
          | refine ZB (ev_gtr_f rfl rfl (by omega)) ?_
          | refine ZB (ev_add1N rfl rfl (by omega)) ?_
          | refine ZB rfl ?_|refine ZC rfl ?_
        exact hK _ (weak_keep [0, 2, 4, 5, 7, 14, 16] rfl ⟨j + 1, nx2, ob2, es2, by omega, by omega, by omega, W1.on h4 D2 hk2', fun y hy hm => (hk2' y (by omega) hm).trans (hf1 y hy hm), (hk2' kb (by omega) hk2).trans hkb1, rfl⟩)
      · have hAz : X.c.A k o r i (i + 1 + j) = 0 := by
          have := hno
          by_cases hA : X.c.A k o r i (i + 1 + j) = 0
          · exact hA
          · exact (hno ⟨by omega, by omega, by omega⟩).elim
        repeat' first
          | refine GoH ?_
          | refine ZB (ev_load rfl g1 rfl) ?_
          | refine ZB (ev_leq_t rfl rfl (by omega)) ?_
          | refine ZB (ev_sub rfl rfl (by omega) (by omega)) ?_
          | refine ZB (ev_lss_t rfl rfl (by omega)) ?_
          | (refine step_hR rfl (fineD _) (h334 X es1 nx1 ob1 ok W1.dh a b k p (i + 1 + j) true hab hb hk hp (by omega) (by omega) (by omega)) ?_; rintro v nx2 ob2 ⟨rfl, h4, ⟨es2, D2⟩, hk2'⟩; simp only at h4 D2 hk2'; have W2 := W1.on h4 D2 hk2'; have g1' := W2.h1; have g3' := W2.h3)
          | refine ZB (ev_gtr_t rfl rfl (by omega)) ?_
          | refine ZB (ev_load rfl g1' rfl) ?_
          | refine ZB (ev_load rfl g3' rfl) ?_
          | (refine step_hR rfl (fineD _) (h336 X es2 nx2 ob2 ok D2 i (i + 1 + j) (topI (some k)) k o r (by omega) (fun _ => ⟨rfl, hk⟩) (by omega)) ?_; rintro v nx3 ob3 ⟨rfl, h5, ⟨es3, D3⟩, hk3'⟩; simp only at h5 D3 hk3')
          | refine ZB (ev_gtr_f rfl rfl (by omega)) ?_
          | refine ZB (ev_add1N rfl rfl (by omega)) ?_
          | refine ZB rfl ?_|refine ZC rfl ?_
        exact hK _ (weak_keep [0, 2, 4, 5, 7, 14, 16] rfl ⟨j + 1, nx3, ob3, es3, by omega, by omega, by omega, W2.on h5 D3 hk3', fun y hy hm => (hk3' y (by omega) hm).trans ((hk2' y (by omega) hm).trans (hf1 y hy hm)), (hk3' kb (by omega) hk2).trans ((hk2' kb (by omega) hk2).trans hkb1), rfl⟩)
end Go.Am
