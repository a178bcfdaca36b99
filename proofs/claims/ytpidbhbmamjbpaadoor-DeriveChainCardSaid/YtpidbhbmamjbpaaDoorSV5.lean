/-
  derive's deriver: ways.
-/
import Derived.Test.YtpidbhbmamjbpaaDoorSV4
namespace Go.Am
open Go
structure WS (X : DX) (a b k : Nat) (o r : Bool) (sz b1 b2 b3 : Nat) (es : List (D × C)) (nx : Nat) (ob : List (Nat × Ob)) : Prop where
  dh : DH X es nx ob
  h1 : look ob b1 = some (.cells (spanC a b (some k)))
  h2 : look ob b2 = some (.cells [.d (.list sz (ofStrs (X.c.sh k).parts)), .d (.bool (X.c.sh k).left), .d (.bool (X.c.sh k).right)])
  h3 : look ob b3 = some (.cells [.d (.bool o), .d (.bool r)])
  l1 : b1 < nx
  l2 : b2 < nx
  l3 : b3 < nx
  m1 : b1 ≠ X.my
  m2 : b2 ≠ X.my
  m3 : b3 ≠ X.my
theorem WS.on {X : DX} {a b k : Nat} {o r : Bool} {sz b1 b2 b3 : Nat} {es es' : List (D × C)} {nx nx' : Nat} {ob ob' : List (Nat × Ob)} (W : WS X a b k o r sz b1 b2 b3 es nx ob) (hn : nx ≤ nx') (Dh : DH X es' nx' ob') (hk : ∀ y, y < nx → y ≠ X.my → look ob' y = look ob y) : WS X a b k o r sz b1 b2 b3 es' nx' ob' :=
  ⟨Dh, (hk _ W.l1 W.m1).trans W.h1, (hk _ W.l2 W.m2).trans W.h2, (hk _ W.l3 W.m3).trans W.h3, Nat.lt_of_lt_of_le W.l1 hn, Nat.lt_of_lt_of_le W.l2 hn, Nat.lt_of_lt_of_le W.l3 hn, W.m1, W.m2, W.m3⟩
def stW (X : DX) (p i b1 b2 b3 : Nat) (op : Bool) (nx : Nat) (ob : List (Nat × Ob)) : St :=
  ⟨[(0, .c (.ptr X.x 0)), (2, .c (.d (.int .i64 (p : Nat)))), (4, .c (.d (.int .i64 (i : Nat)))), (6, .c (.ptr b1 0)), (11, .c (.ptr b2 0)), (12, .c (.ptr b3 0)), (13, .c (.d (.bool op)))], ⟨nx, ob⟩⟩
set_option maxRecDepth 8000 in
set_option maxHeartbeats 8000000 in
theorem w334s {n : Nat} (h334 : Q334 n) {X : DX} (ok : DXok X) {a b k p i : Nat} {done : Bool} (hab : a < b) (hb : b ≤ X.c.toks.length) (hk : k < X.c.ops.length) (hp : p ≤ (X.c.sh k).parts.length) (hai : a ≤ i) (hib : i ≤ b) (hm : 64 * (b - a) + fuelOf (X.c.sh k) p done ≤ n + 1)
    (ho : opn (X.c.sh k) p done = none) {o r : Bool} {sz b1 b2 b3 : Nat} {es : List (D × C)} {nx0 nx : Nat} {ob0 ob : List (Nat × Ob)} (W : WS X a b k o r sz b1 b2 b3 es nx ob) (hn : nx0 ≤ nx) (hf : ∀ y, y < nx0 → y ≠ X.my → look ob y = look ob0 y) :
    awp (clD (n + 1)) (c334.tail 3) (HeapQ [.t 10] (RD X nx0 ob0 (.c (.d (.int .i64 (X.c.W k a b p done i : Nat)))))) (stW X p i b1 b2 b3 false nx ob) := by
  have htoks := ok.toks
  have hw := W_shut (c := X.c) (a := a) (b := b) (i := i) ho hp
  have hlen := ofStrs_len (X.c.sh k).parts
  have hlp := sh_len X.c k
  have hx := W.dh.hx
  have g1 := W.h1
  have g2 := W.h2
  have fin : ∀ v : Nat, RD X nx0 ob0 (.c (.d (.int .i64 (v : Nat)))) (.c (.d (.int .i64 (v : Nat)))) ⟨nx, ob⟩ := fun v => ⟨rfl, hn, ⟨es, W.dh⟩, hf⟩
  unfold stW c334
  dsimp only [ACode.tail]
  by_cases hpl : p = (X.c.sh k).parts.length
  · rw [if_pos hpl] at hw
    by_cases hi : i = b
    · rw [if_pos hi] at hw
      rw [hw]
      repeat' first
        | refine GoH ?_
        | refine ZB (ev_load rfl g1 rfl) ?_
        | refine ZB (ev_load rfl g2 rfl) ?_
        | refine ZB (ev_eql_t rfl rfl (by omega)) ?_
        | refine ZB rfl ?_|refine ZC rfl ?_
      exact ⟨_, rfl, fin 1⟩
    · rw [if_neg hi] at hw
      rw [hw]
      repeat' first
        | refine GoH ?_
        | refine ZB (ev_load rfl g1 rfl) ?_
        | refine ZB (ev_load rfl g2 rfl) ?_
        | refine ZB (ev_eql_t rfl rfl (by omega)) ?_
        | refine ZB (ev_eql_f rfl rfl (by omega)) ?_
        | refine ZB rfl ?_|refine ZC rfl ?_
      exact ⟨_, rfl, fin 0⟩
  · rw [if_neg hpl] at hw
    by_cases hi : i < b
    · have ht := tk_at (c := X.c) (i := i) (by omega)
      have hpp : (X.c.sh k).parts[p]? = some ((X.c.sh k).parts.getD p []) := by rw [List.getD_eq_getElem?_getD, List.getElem?_eq_getElem (by omega)]; rfl
      have hpp' : (ofStrs (X.c.sh k).parts)[((p : Nat) : Int).toNat]? = some [.str ((X.c.sh k).parts.getD p [])] := by rw [Int.toNat_natCast, ofStrs_get, hpp]; rfl
      have h27 := T27_eq (t := X.c.tk i) (n := (X.c.sh k).parts.getD p [])
      cases hpk : partK (X.c.tk i) ((X.c.sh k).parts.getD p []) with
      | false =>
        rw [if_neg (by rw [hpk]; simp)] at hw
        rw [hpk] at h27
        rw [hw]
        generalize X.c.tk i = tk at ht h27
        obtain ⟨q1, q2, q3, q4, q5⟩ := tk
        repeat' first
          | refine GoH ?_
          | refine ZB (ev_load rfl g1 rfl) ?_
          | refine ZB (ev_load rfl g2 rfl) ?_
          | refine ZB (ev_eql_f rfl rfl (by omega)) ?_
          | refine ZY (ev_load rfl hx rfl) (by (repeat' first|exact True.intro|refine ⟨?_, ?_⟩|exact .inl rfl|exact .inr (.inl rfl)|exact .inr (.inr rfl)|rfl)) ?_
          | refine ZY (ev_load rfl g1 rfl) (by (repeat' first|exact True.intro|refine ⟨?_, ?_⟩|exact .inl rfl|exact .inr (.inl rfl)|exact .inr (.inr rfl)|rfl)) ?_
          | refine ZY (ev_load rfl g2 rfl) (by (repeat' first|exact True.intro|refine ⟨?_, ?_⟩|exact .inl rfl|exact .inr (.inl rfl)|exact .inr (.inr rfl)|rfl)) ?_
          | refine ZX rfl (ev_geq_f rfl rfl (by omega)) ?_
          | refine ZY (ev_idx rfl rfl (by omega) ht rfl) (by (repeat' first|exact True.intro|refine ⟨?_, ?_⟩|exact .inl rfl|exact .inr (.inl rfl)|exact .inr (.inr rfl)|rfl)) ?_
          | refine ZY (ev_idx rfl rfl (by omega) hpp' rfl) (by (repeat' first|exact True.intro|refine ⟨?_, ?_⟩|exact .inl rfl|exact .inr (.inl rfl)|exact .inr (.inr rfl)|rfl)) ?_
          | refine ZY (ev_pcall (hcl27 _) rfl h27 rfl rfl) (by (repeat' first|exact True.intro|refine ⟨?_, ?_⟩|exact .inl rfl|exact .inr (.inl rfl)|exact .inr (.inr rfl)|rfl)) ?_
          | (with_reducible first|apply ZS|apply ZT)|((with_reducible apply ZU);rfl)|((with_reducible apply ZV);rfl;decide)|((with_reducible apply ZW);rfl)|refine ZX rfl rfl ?_|refine ZY rfl (by (repeat' first|exact True.intro|refine ⟨?_, ?_⟩|exact .inl rfl|exact .inr (.inl rfl)|exact .inr (.inr rfl)|rfl)) ?_
          | refine ZB rfl ?_|refine ZC rfl ?_
        exact ⟨_, rfl, fin 0⟩
      | true =>
        rw [if_pos ⟨hi, hpk⟩] at hw
        rw [hpk] at h27
        rw [hw]
        have hfu : fuelOf (X.c.sh k) (p + 1) false < fuelOf (X.c.sh k) p done := by unfold fuelOf; simp; split <;> omega
        generalize X.c.tk i = tk at ht h27
        obtain ⟨q1, q2, q3, q4, q5⟩ := tk
        repeat' first
          | refine GoH ?_
          | refine ZB (ev_load rfl g1 rfl) ?_
          | refine ZB (ev_load rfl g2 rfl) ?_
          | refine ZB (ev_eql_f rfl rfl (by omega)) ?_
          | refine ZB (ev_add1N rfl rfl (by omega)) ?_
          | refine ZY (ev_load rfl hx rfl) (by (repeat' first|exact True.intro|refine ⟨?_, ?_⟩|exact .inl rfl|exact .inr (.inl rfl)|exact .inr (.inr rfl)|rfl)) ?_
          | refine ZY (ev_load rfl g1 rfl) (by (repeat' first|exact True.intro|refine ⟨?_, ?_⟩|exact .inl rfl|exact .inr (.inl rfl)|exact .inr (.inr rfl)|rfl)) ?_
          | refine ZY (ev_load rfl g2 rfl) (by (repeat' first|exact True.intro|refine ⟨?_, ?_⟩|exact .inl rfl|exact .inr (.inl rfl)|exact .inr (.inr rfl)|rfl)) ?_
          | refine ZX rfl (ev_geq_f rfl rfl (by omega)) ?_
          | refine ZY (ev_idx rfl rfl (by omega) ht rfl) (by (repeat' first|exact True.intro|refine ⟨?_, ?_⟩|exact .inl rfl|exact .inr (.inl rfl)|exact .inr (.inr rfl)|rfl)) ?_
          | refine ZY (ev_idx rfl rfl (by omega) hpp' rfl) (by (repeat' first|exact True.intro|refine ⟨?_, ?_⟩|exact .inl rfl|exact .inr (.inl rfl)|exact .inr (.inr rfl)|rfl)) ?_
          | refine ZY (ev_pcall (hcl27 _) rfl h27 rfl rfl) (by (repeat' first|exact True.intro|refine ⟨?_, ?_⟩|exact .inl rfl|exact .inr (.inl rfl)|exact .inr (.inr rfl)|rfl)) ?_
          | (refine step_hR rfl (fineD _) (h334 X es nx ob ok W.dh a b k (p + 1) (i + 1) false hab hb hk (by omega) (by omega) (by omega) (by omega)) ?_; rintro v nx1 ob1 ⟨rfl, h4, h5, h6⟩)
          | (with_reducible first|apply ZS|apply ZT)|((with_reducible apply ZU);rfl)|((with_reducible apply ZV);rfl;decide)|((with_reducible apply ZW);rfl)|refine ZX rfl rfl ?_|refine ZY rfl (by (repeat' first|exact True.intro|refine ⟨?_, ?_⟩|exact .inl rfl|exact .inr (.inl rfl)|exact .inr (.inr rfl)|rfl)) ?_
          | refine ZB rfl ?_|refine ZC rfl ?_
        exact ⟨_, rfl, RD.keep hn hf ⟨rfl, h4, h5, h6⟩⟩
    · rw [if_neg (by omega)] at hw
      rw [hw]
      repeat' first
        | refine GoH ?_
        | refine ZB (ev_load rfl g1 rfl) ?_
        | refine ZB (ev_load rfl g2 rfl) ?_
        | refine ZB (ev_eql_f rfl rfl (by omega)) ?_
        | refine ZY (ev_load rfl g1 rfl) (by (repeat' first|exact True.intro|refine ⟨?_, ?_⟩|exact .inl rfl|exact .inr (.inl rfl)|exact .inr (.inr rfl)|rfl)) ?_
        | refine ZX rfl (ev_geq_t rfl rfl (by omega)) ?_
        | (with_reducible first|apply ZS|apply ZT)|((with_reducible apply ZU);rfl)|((with_reducible apply ZV);rfl;decide)|((with_reducible apply ZW);rfl)|refine ZX rfl rfl ?_|refine ZY rfl (by (repeat' first|exact True.intro|refine ⟨?_, ?_⟩|exact .inl rfl|exact .inr (.inl rfl)|exact .inr (.inr rfl)|rfl)) ?_
        | refine ZB rfl ?_|refine ZC rfl ?_
      exact ⟨_, rfl, fin 0⟩
theorem sumTo_le4 {f : Nat → Nat} (h : ∀ i, f i ≤ 4) : ∀ n, sumTo f n ≤ 4 * n
  | 0 => Nat.le_refl _
  | n + 1 => by
    have := sumTo_le4 h n
    have := h n
    show sumTo f n + f n ≤ _
    omega
def termW (c : Drv) (k a b p i : Nat) (o r : Bool) (j : Nat) : Nat := if j + 1 = b - a then 0 else c.W k a b p true (i + 1 + j) * c.A k o r i (i + 1 + j)
theorem termW_le (c : Drv) (k a b p i : Nat) (o r : Bool) (j : Nat) : termW c k a b p i o r j ≤ 4 := by
  unfold termW
  split
  · omega
  · exact Nat.mul_le_mul (W_le ..) (A_le ..)
set_option maxRecDepth 8000 in
set_option maxHeartbeats 8000000 in
theorem w334o {n : Nat} (h336 : Q336 n) (h334 : Q334 n) {X : DX} (ok : DXok X) {a b k p i : Nat} (hab : a < b) (hb : b ≤ X.c.toks.length) (hk : k < X.c.ops.length) (hp : p ≤ (X.c.sh k).parts.length) (hai : a ≤ i) (hib : i ≤ b) (hm : 64 * (b - a) + fuelOf (X.c.sh k) p false ≤ n + 1)
    {o r : Bool} (ho : opn (X.c.sh k) p false = some (o, r)) {sz b1 b2 b3 : Nat} {es : List (D × C)} {nx0 nx : Nat} {ob0 ob : List (Nat × Ob)} (W : WS X a b k o r sz b1 b2 b3 es nx ob) (hn : nx0 ≤ nx) (hf : ∀ y, y < nx0 → y ≠ X.my → look ob y = look ob0 y) :
    awp (clD (n + 1)) (c334.tail 3) (HeapQ [.t 10] (RD X nx0 ob0 (.c (.d (.int .i64 (X.c.W k a b p false i : Nat)))))) (stW X p i b1 b2 b3 true nx ob) := by
  have htoks := ok.toks
  have hw : X.c.W k a b p false i = min 2 (sumTo (termW X.c k a b p i o r) (b - i)) := W_open ho hp
  have hfu : fuelOf (X.c.sh k) p true < fuelOf (X.c.sh k) p false := by unfold fuelOf; simp
  have hfu1 : 1 ≤ fuelOf (X.c.sh k) p true := by unfold fuelOf; simp
  unfold stW c334
  dsimp only [ACode.tail]
  repeat' first | refine GoH ?_ | refine ZB (ev_add1N rfl rfl (by omega)) ?_ | refine ZB rfl ?_|refine ZC rfl ?_
  refine awp_loop (fun q st => ∃ (j nx1 : Nat) (ob1 : List (Nat × Ob)) (es1 : List (Am.D × C)), j ≤ b - i ∧ b - i - j < q ∧ nx ≤ nx1 ∧ WS X a b k o r sz b1 b2 b3 es1 nx1 ob1 ∧ (∀ y, y < nx0 → y ≠ X.my → look ob1 y = look ob0 y) ∧
    st = ⟨[(0, .c (.ptr X.x 0)), (2, .c (.d (.int .i64 (p : Nat)))), (4, .c (.d (.int .i64 (i : Nat)))), (6, .c (.ptr b1 0)), (12, .c (.ptr b3 0)), (14, .c (.d (.int .i64 (sumTo (termW X.c k a b p i o r) j : Nat)))), (15, .c (.d (.int .i64 ((i + 1 + j : Nat) : Int))))], ⟨nx1, ob1⟩⟩) (b - i + 1) ?_ (by rintro st ⟨j, _, _, _, _, h, _⟩; omega) ?_
  · exact weak_keep [0, 2, 4, 6, 12, 14, 15] rfl ⟨0, nx, ob, es, by omega, by omega, Nat.le_refl _, W, hf, rfl⟩
  · rintro q K hK st ⟨j, nx1, ob1, es1, h1, h2, h3, W1, hf1, rfl⟩
    have g1 := W1.h1
    have g3 := W1.h3
    have hS := sumTo_le4 (termW_le X.c k a b p i o r) j
    by_cases hend : j = b - i
    · rw [hw, ← hend]
      repeat' first
        | refine GoH ?_
        | refine ZB (ev_load rfl g1 rfl) ?_
        | refine ZB (ev_leq_f rfl rfl (by omega)) ?_
        | refine ZB (ev_min2 rfl rfl) ?_
        | refine ZB rfl ?_|refine ZC rfl ?_
      exact ⟨_, rfl, rfl, (by show nx0 ≤ nx1; omega), ⟨es1, W1.dh⟩, hf1⟩
    · by_cases hbr : j + 1 = b - a
      · have hlast : sumTo (termW X.c k a b p i o r) (b - i) = sumTo (termW X.c k a b p i o r) j := by
          have e : b - i = j + 1 := by omega
          rw [e]
          show _ + termW X.c k a b p i o r j = _
          unfold termW
          rw [if_pos hbr]
          rfl
        rw [hw, hlast]
        repeat' first
          | refine GoH ?_
          | refine ZB (ev_load rfl g1 rfl) ?_
          | refine ZB (ev_leq_t rfl rfl (by omega)) ?_
          | refine ZB (ev_sub rfl rfl (by omega) (by omega)) ?_
          | refine ZB (ev_eql_t rfl rfl (by omega)) ?_
          | refine ZB (ev_min2 rfl rfl) ?_
          | refine ZB rfl ?_|refine ZC rfl ?_
        exact ⟨_, rfl, rfl, (by show nx0 ≤ nx1; omega), ⟨es1, W1.dh⟩, hf1⟩
      · have hterm : sumTo (termW X.c k a b p i o r) (j + 1) = sumTo (termW X.c k a b p i o r) j + X.c.W k a b p true (i + 1 + j) * X.c.A k o r i (i + 1 + j) := by
          show _ + termW X.c k a b p i o r j = _
          unfold termW
          rw [if_neg hbr]
        have hWl := W_le (c := X.c) k a b p true (i + 1 + j)
        have hAl := A_le (c := X.c) k o r i (i + 1 + j)
        have hWA : X.c.W k a b p true (i + 1 + j) * X.c.A k o r i (i + 1 + j) ≤ 4 := Nat.mul_le_mul hWl hAl
        have hnext : ((i + 1 + (j + 1) : Nat) : Int) = ((i + 1 + j + 1 : Nat) : Int) := rfl
        by_cases hz : X.c.W k a b p true (i + 1 + j) = 0
        · rw [hz, Nat.zero_mul, Nat.add_zero] at hterm
          repeat' first
            | refine GoH ?_
            | refine ZB (ev_load rfl g1 rfl) ?_
            | refine ZB (ev_leq_t rfl rfl (by omega)) ?_
            | refine ZB (ev_sub rfl rfl (by omega) (by omega)) ?_
            | refine ZB (ev_eql_f rfl rfl (by omega)) ?_
            | (refine step_hR rfl (fineD _) (h334 X es1 nx1 ob1 ok W1.dh a b k p (i + 1 + j) true hab hb hk hp (by omega) (by omega) (by omega)) ?_; rintro v nx2 ob2 ⟨rfl, h4, ⟨es2, D2⟩, hk2⟩; simp only at h4 D2 hk2)
            | refine ZB (ev_gtr_f rfl rfl (by omega)) ?_
            | refine ZB (ev_add1N rfl rfl (by omega)) ?_
            | refine ZB rfl ?_|refine ZC rfl ?_
          exact hK _ (weak_keep [0, 2, 4, 6, 12, 14, 15] rfl ⟨j + 1, nx2, ob2, es2, by omega, by omega, by omega, W1.on h4 D2 hk2, fun y hy hm => (hk2 y (by omega) hm).trans (hf1 y hy hm), by rw [hterm]; rfl⟩)
        · repeat' first
            | refine GoH ?_
            | refine ZB (ev_load rfl g1 rfl) ?_
            | refine ZB (ev_leq_t rfl rfl (by omega)) ?_
            | refine ZB (ev_sub rfl rfl (by omega) (by omega)) ?_
            | refine ZB (ev_eql_f rfl rfl (by omega)) ?_
            | (refine step_hR rfl (fineD _) (h334 X es1 nx1 ob1 ok W1.dh a b k p (i + 1 + j) true hab hb hk hp (by omega) (by omega) (by omega)) ?_; rintro v nx2 ob2 ⟨rfl, h4, ⟨es2, D2⟩, hk2⟩; simp only at h4 D2 hk2; have W2 := W1.on h4 D2 hk2; have g1' := W2.h1; have g3' := W2.h3)
            | refine ZB (ev_gtr_t rfl rfl (by omega)) ?_
            | refine ZB (ev_load rfl g1' rfl) ?_
            | refine ZB (ev_load rfl g3' rfl) ?_
            | (refine step_hR rfl (fineD _) (h336 X es2 nx2 ob2 ok D2 i (i + 1 + j) (topI (some k)) k o r (by omega) (fun _ => ⟨rfl, hk⟩) (by omega)) ?_; rintro v nx3 ob3 ⟨rfl, h5, ⟨es3, D3⟩, hk3⟩; simp only at h5 D3 hk3)
            | refine ZB (ev_mulN rfl rfl (by omega)) ?_
            | refine ZB (ev_addN rfl rfl (by omega)) ?_
            | refine ZB (ev_add1N rfl rfl (by omega)) ?_
            | refine ZB rfl ?_|refine ZC rfl ?_
          exact hK _ (weak_keep [0, 2, 4, 6, 12, 14, 15] rfl ⟨j + 1, nx3, ob3, es3, by omega, by omega, by omega, W2.on h5 D3 hk3, fun y hy hm => (hk3 y (by omega) hm).trans ((hk2 y (by omega) hm).trans (hf1 y hy hm)), by rw [hterm]; rfl⟩)
end Go.Am
