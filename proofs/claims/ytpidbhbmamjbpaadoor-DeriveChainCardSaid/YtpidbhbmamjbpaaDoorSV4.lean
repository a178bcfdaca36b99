/-
  derive's deriver: count.
-/
import Derived.Test.YtpidbhbmamjbpaaDoorSV3
namespace Go.Am
open Go
section
variable {cl : Call} {env : Env} {nx : Nat} {ob : List (Nat × Ob)} {x y m k : Opd}
theorem ev_mapGetF {wd : Bool} {ks : List Nat} {z : C} {yy : Nat} {kd : D} {es : List (D × C)} (hm : ev env m = .c (.map yy)) (hk : keyD (ev env k) = some kd) (ho : okK wd ks kd = true) (hl : look ob yy = some (.map es)) (hf : findK wd ks kd es = some none) :
    eval cl env ⟨nx, ob⟩ (.mapGet wd ks m k z true) = some (.tup [.c z, .c (.d (.bool false))], ⟨nx, ob⟩) := by
  simp only [eval, hm, hk, ho, hl, hf]
theorem ev_mapGetT {wd : Bool} {ks : List Nat} {z q : C} {yy : Nat} {kd : D} {es : List (D × C)} (hm : ev env m = .c (.map yy)) (hk : keyD (ev env k) = some kd) (ho : okK wd ks kd = true) (hl : look ob yy = some (.map es)) (hf : findK wd ks kd es = some (some q)) :
    eval cl env ⟨nx, ob⟩ (.mapGet wd ks m k z true) = some (.tup [.c q, .c (.d (.bool true))], ⟨nx, ob⟩) := by
  simp only [eval, hm, hk, ho, hl, hf]
theorem ev_add1N {hp : Hp} {a : Nat} (hx : ev env x = .c (.d (.int .i64 (a : Nat)))) (hy : ev env y = .c (.d (.int .i64 1))) (h : a < 9223372036854775807) : eval cl env hp (.bin .add x y) = some (.c (.d (.int .i64 ((a + 1 : Nat) : Int))), hp) := by
  have := ev_add (cl := cl) (h := hp) hx hy (by omega) (by omega)
  rw [this, Int.natCast_add]
  rfl
theorem ev_sub1N {hp : Hp} {a : Nat} (hx : ev env x = .c (.d (.int .i64 (a : Nat)))) (hy : ev env y = .c (.d (.int .i64 1))) (h : 1 ≤ a) (h2 : a < 9223372036854775807) : eval cl env hp (.bin .sub x y) = some (.c (.d (.int .i64 ((a - 1 : Nat) : Int))), hp) := by
  have := ev_sub (cl := cl) (h := hp) hx hy (by omega) (by omega)
  rw [this, show ((a - 1 : Nat) : Int) = (a : Int) - 1 by omega]
end
theorem DH.set {X : DX} {es es' : List (D × C)} {nx : Nat} {ob ob' : List (Nat × Ob)} (Dh : DH X es nx ob) (hp : put ob X.my (.map es') = some ob') (he : EsOk X.c es') : DH X es' nx ob' :=
  ⟨(look_put_other hp Dh.xm).trans Dh.hx, fun h0 => ⟨(Dh.hs h0).1, (look_put_other hp Dh.sm).trans (Dh.hs h0).2⟩, look_put_same hp, he, Dh.lx, Dh.ls, Dh.lm, Dh.xm, Dh.sm⟩
theorem fuel_le (v : SV) (p : Nat) (done : Bool) (h : v.parts.length ≤ 4) : fuelOf v p done ≤ 10 := by unfold fuelOf; split <;> omega
theorem sh_len (c : Drv) (k : Nat) : (c.sh k).parts.length ≤ 4 := shOf_len ..
def spanC (a b : Nat) (t : Option Nat) : List C := [.d (.int .i64 (a : Nat)), .d (.int .i64 (b : Nat)), .d (.int .i64 (topI t))]
def P320 (n : Nat) (X : DX) (nx : Nat) (ob : List (Nat × Ob)) (a b : Nat) (t : Option Nat) : Prop :=
  ∀ (w nx1 : Nat) (ob1 : List (Nat × Ob)) (es1 : List (D × C)), min 2 w = X.c.C a b t → nx + 1 ≤ nx1 → DH X es1 nx1 ob1 → look ob1 nx = some (.cells (spanC a b t)) → (∀ y, y < nx → y ≠ X.my → look ob1 y = look ob y) →
    awp (clD (n + 1)) (c320.tail 4) (HeapQ [.t 4] (RD X nx ob (.c (.d (.int .i64 (X.c.C a b t : Nat)))))) ⟨[(0, .c (.ptr X.x 0)), (3, .c (.ptr nx 0)), (7, .c (.d (.int .i64 (w : Nat))))], ⟨nx1, ob1⟩⟩
set_option maxRecDepth 8000 in
set_option maxHeartbeats 4000000 in
theorem w320t (n : Nat) (X : DX) (nx : Nat) (ob : List (Nat × Ob)) (a b : Nat) (t : Option Nat) : P320 n X nx ob a b t := by
  intro w nx1 ob1 es1 hw h1 D1 hb1 hk1
  have hx := D1.hx
  obtain ⟨es', s1, s2⟩ := set_es D1.he a b t
  obtain ⟨ob', hp⟩ := put_of_look (.map es') D1.hm
  unfold c320
  dsimp only [ACode.tail]
  repeat' first
    | refine GoH ?_
    | (refine ZB (ev_min2 rfl rfl) ?_; rw [hw])
    | refine ZY (ev_load rfl hx rfl) (by (repeat' first|exact True.intro|refine ⟨?_, ?_⟩|exact .inl rfl|exact .inr (.inl rfl)|exact .inr (.inr rfl)|rfl)) ?_
    | refine ZY (ev_load rfl hb1 rfl) (by (repeat' first|exact True.intro|refine ⟨?_, ?_⟩|exact .inl rfl|exact .inr (.inl rfl)|exact .inr (.inr rfl)|rfl)) ?_
    | refine ZZ (Z0 (ev_mapSet rfl rfl rfl rfl rfl D1.hm s1 hp) ⟨rfl, rfl⟩) (by (repeat' first|exact True.intro|refine ⟨?_, ?_⟩|exact .inl rfl|exact .inr (.inl rfl)|exact .inr (.inr rfl)|rfl)) ?_
    | (with_reducible first|apply ZS|apply ZT)|((with_reducible apply ZU);rfl)|((with_reducible apply ZV);rfl;decide)|((with_reducible apply ZW);rfl)|refine ZX rfl rfl ?_|refine ZY rfl (by (repeat' first|exact True.intro|refine ⟨?_, ?_⟩|exact .inl rfl|exact .inr (.inl rfl)|exact .inr (.inr rfl)|rfl)) ?_
    | refine ZB rfl ?_|refine ZC rfl ?_
  exact ⟨_, rfl, rfl, (by show nx ≤ nx1; omega), ⟨es', D1.set hp s2⟩, fun y hy hm => (look_put_other hp hm).trans (hk1 y hy hm)⟩
set_option maxRecDepth 8000 in
set_option maxHeartbeats 8000000 in
theorem w320 {n : Nat} (h336 : Q336 n) (h334 : Q334 n) : Q320 (n + 1) := by
  intro X es nx ob ok Dh a b t hb ht hm
  have htoks := ok.toks
  have htail := w320t n X nx ob a b t
  unfold wpOf c320
  repeat' first | refine GoH ?_ | (refine step_boxA rfl ?_; intro ob0 hb0 hk0) | refine ZB rfl ?_|refine ZC rfl ?_
  have D0 := Dh.keep (Nat.le_succ nx) hk0
  have hx := D0.hx
  have hfr : ∀ y, y < nx → y ≠ X.my → look ob0 y = look ob y := fun y hy _ => hk0 y hy
  rcases find_es D0.he a b t with hf | hf
  · by_cases hab : b ≤ a
    · have hw := htail 0 (nx + 1) ob0 es (by rw [C_zero hab]; rfl) (Nat.le_refl _) D0 hb0 hfr
      repeat' first
        | ((with_reducible apply weak_keep [0, 3, 7]); rfl; exact hw)
        | refine GoH ?_
        | refine ZB (ev_load rfl hx rfl) ?_
        | refine ZB (ev_load rfl hb0 rfl) ?_
        | refine ZY (ev_load rfl hx rfl) (by (repeat' first|exact True.intro|refine ⟨?_, ?_⟩|exact .inl rfl|exact .inr (.inl rfl)|exact .inr (.inr rfl)|rfl)) ?_
        | refine ZY (ev_load rfl hb0 rfl) (by (repeat' first|exact True.intro|refine ⟨?_, ?_⟩|exact .inl rfl|exact .inr (.inl rfl)|exact .inr (.inr rfl)|rfl)) ?_
        | refine ZY (ev_mapGetF rfl rfl rfl D0.hm hf) (by (repeat' first|exact True.intro|refine ⟨?_, ?_⟩|exact .inl rfl|exact .inr (.inl rfl)|exact .inr (.inr rfl)|rfl)) ?_
        | refine ZB (ev_leq_t rfl rfl (by omega)) ?_
        | (with_reducible first|apply ZS|apply ZT)|((with_reducible apply ZU);rfl)|((with_reducible apply ZV);rfl;decide)|((with_reducible apply ZW);rfl)|refine ZX rfl rfl ?_|refine ZY rfl (by (repeat' first|exact True.intro|refine ⟨?_, ?_⟩|exact .inl rfl|exact .inr (.inl rfl)|exact .inr (.inr rfl)|rfl)) ?_
        | refine ZB rfl ?_|refine ZC rfl ?_
    · have hab : a < b := by omega
      cases t with
      | some k =>
        have hk := ht k rfl
        have hfu := fuel_le (X.c.sh k) 0 false (sh_len X.c k)
        repeat' first
          | ((with_reducible apply weak_keep [0, 3, 7]); rfl; exact htail _ _ ob1 es1 (by rw [C_some hab]) (by omega) D1 ((hk1 _ (by omega) (by have := D0.lm; have := Dh.lm; omega)).trans hb0) (fun y hy hm => (hk1 y (by omega) hm).trans (hfr y hy hm)))
          | refine GoH ?_
          | refine ZB (ev_load rfl hx rfl) ?_
          | refine ZB (ev_load rfl hb0 rfl) ?_
          | refine ZY (ev_load rfl hx rfl) (by (repeat' first|exact True.intro|refine ⟨?_, ?_⟩|exact .inl rfl|exact .inr (.inl rfl)|exact .inr (.inr rfl)|rfl)) ?_
          | refine ZY (ev_load rfl hb0 rfl) (by (repeat' first|exact True.intro|refine ⟨?_, ?_⟩|exact .inl rfl|exact .inr (.inl rfl)|exact .inr (.inr rfl)|rfl)) ?_
          | refine ZY (ev_mapGetF rfl rfl rfl D0.hm hf) (by (repeat' first|exact True.intro|refine ⟨?_, ?_⟩|exact .inl rfl|exact .inr (.inl rfl)|exact .inr (.inr rfl)|rfl)) ?_
          | refine ZB (ev_leq_f rfl rfl (by omega)) ?_
          | refine ZB (ev_neq_t rfl rfl (by simp only [topI]; omega)) ?_
          | (refine step_hR rfl (fineD _) (h334 X es (nx + 1) ob0 ok D0 a b k 0 a false hab hb hk (Nat.zero_le _) (Nat.le_refl _) (by omega) (by omega)) ?_; rintro v nx1 ob1 ⟨rfl, h4, ⟨es1, D1⟩, hk1⟩; simp only at h4 D1 hk1)
          | (with_reducible first|apply ZS|apply ZT)|((with_reducible apply ZU);rfl)|((with_reducible apply ZV);rfl;decide)|((with_reducible apply ZW);rfl)|refine ZX rfl rfl ?_|refine ZY rfl (by (repeat' first|exact True.intro|refine ⟨?_, ?_⟩|exact .inl rfl|exact .inr (.inl rfl)|exact .inr (.inr rfl)|rfl)) ?_
          | refine ZB rfl ?_|refine ZC rfl ?_
      | none =>
        have hc := C_none (c := X.c) hab
        by_cases h1 : b = a + 1
        · have ht0 := tk_at (c := X.c) (i := a) (by omega)
          have h29 : T29 partE [.agg (envD X.esz X.c.ops X.f), .agg (tkD (X.c.tk a))] = some (.c (.bool (X.c.leaf a))) := by
            have := T29_eq (part := partE) (sz := X.esz) (f := X.f) ok.ops (X.c.tk a)
            rw [this]
            unfold Drv.leaf
            rw [ok.lf]
          cases hl : X.c.leaf a with
          | true =>
            rw [hl] at h29
            have hw := htail 1 (nx + 1) ob0 es (by rw [hc, if_pos ⟨h1, hl⟩]) (Nat.le_refl _) D0 hb0 hfr
            generalize X.c.tk a = tk at h29 ht0
            obtain ⟨q1, q2, q3, q4, q5⟩ := tk
            repeat' first
              | ((with_reducible apply weak_keep [0, 3, 7]); rfl; exact hw)
              | refine GoH ?_
              | refine ZB (ev_load rfl hx rfl) ?_
              | refine ZB (ev_load rfl hb0 rfl) ?_
              | refine ZY (ev_load rfl hx rfl) (by (repeat' first|exact True.intro|refine ⟨?_, ?_⟩|exact .inl rfl|exact .inr (.inl rfl)|exact .inr (.inr rfl)|rfl)) ?_
              | refine ZY (ev_load rfl hb0 rfl) (by (repeat' first|exact True.intro|refine ⟨?_, ?_⟩|exact .inl rfl|exact .inr (.inl rfl)|exact .inr (.inr rfl)|rfl)) ?_
              | refine ZY (ev_mapGetF rfl rfl rfl D0.hm hf) (by (repeat' first|exact True.intro|refine ⟨?_, ?_⟩|exact .inl rfl|exact .inr (.inl rfl)|exact .inr (.inr rfl)|rfl)) ?_
              | refine ZB (ev_leq_f rfl rfl (by omega)) ?_
              | refine ZX rfl (ev_add1N rfl rfl (by omega)) ?_
              | refine ZX rfl (ev_eql_t rfl rfl (by omega)) ?_
              | refine ZY (ev_idx rfl rfl (by omega) ht0 rfl) (by (repeat' first|exact True.intro|refine ⟨?_, ?_⟩|exact .inl rfl|exact .inr (.inl rfl)|exact .inr (.inr rfl)|rfl)) ?_
              | refine ZY (ev_pcall (hcl29 _) rfl h29 rfl rfl) (by (repeat' first|exact True.intro|refine ⟨?_, ?_⟩|exact .inl rfl|exact .inr (.inl rfl)|exact .inr (.inr rfl)|rfl)) ?_
              | (with_reducible first|apply ZS|apply ZT)|((with_reducible apply ZU);rfl)|((with_reducible apply ZV);rfl;decide)|((with_reducible apply ZW);rfl)|refine ZX rfl rfl ?_|refine ZY rfl (by (repeat' first|exact True.intro|refine ⟨?_, ?_⟩|exact .inl rfl|exact .inr (.inl rfl)|exact .inr (.inr rfl)|rfl)) ?_
              | refine ZB rfl ?_|refine ZC rfl ?_
          | false =>
            rw [hl] at h29
            have hw := htail 0 (nx + 1) ob0 es (by rw [hc, if_neg (by rw [hl]; simp), if_neg (by omega)]) (Nat.le_refl _) D0 hb0 hfr
            generalize X.c.tk a = tk at h29 ht0
            obtain ⟨q1, q2, q3, q4, q5⟩ := tk
            repeat' first
              | ((with_reducible apply weak_keep [0, 3, 7]); rfl; exact hw)
              | refine GoH ?_
              | refine ZB (ev_load rfl hx rfl) ?_
              | refine ZB (ev_load rfl hb0 rfl) ?_
              | refine ZY (ev_load rfl hx rfl) (by (repeat' first|exact True.intro|refine ⟨?_, ?_⟩|exact .inl rfl|exact .inr (.inl rfl)|exact .inr (.inr rfl)|rfl)) ?_
              | refine ZY (ev_load rfl hb0 rfl) (by (repeat' first|exact True.intro|refine ⟨?_, ?_⟩|exact .inl rfl|exact .inr (.inl rfl)|exact .inr (.inr rfl)|rfl)) ?_
              | refine ZY (ev_mapGetF rfl rfl rfl D0.hm hf) (by (repeat' first|exact True.intro|refine ⟨?_, ?_⟩|exact .inl rfl|exact .inr (.inl rfl)|exact .inr (.inr rfl)|rfl)) ?_
              | refine ZB (ev_leq_f rfl rfl (by omega)) ?_
              | refine ZX rfl (ev_add1N rfl rfl (by omega)) ?_
              | refine ZX rfl (ev_eql_t rfl rfl (by omega)) ?_
              | refine ZY (ev_idx rfl rfl (by omega) ht0 rfl) (by (repeat' first|exact True.intro|refine ⟨?_, ?_⟩|exact .inl rfl|exact .inr (.inl rfl)|exact .inr (.inr rfl)|rfl)) ?_
              | refine ZY (ev_pcall (hcl29 _) rfl h29 rfl rfl) (by (repeat' first|exact True.intro|refine ⟨?_, ?_⟩|exact .inl rfl|exact .inr (.inl rfl)|exact .inr (.inr rfl)|rfl)) ?_
              | refine ZB (ev_add rfl rfl (by omega) (by omega)) ?_
              | refine ZB (ev_gtr_f rfl rfl (by omega)) ?_
              | (with_reducible first|apply ZS|apply ZT)|((with_reducible apply ZU);rfl)|((with_reducible apply ZV);rfl;decide)|((with_reducible apply ZW);rfl)|refine ZX rfl rfl ?_|refine ZY rfl (by (repeat' first|exact True.intro|refine ⟨?_, ?_⟩|exact .inl rfl|exact .inr (.inl rfl)|exact .inr (.inr rfl)|rfl)) ?_
              | refine ZB rfl ?_|refine ZC rfl ?_
        · by_cases h2 : a + 2 < b
          · have hs1 := fun nx ob es (Dh : DH X es nx ob) => w335 (cl := clD n) Dh (i := a) (by omega) [40]
            have hs2 := fun nx ob es (Dh : DH X es nx ob) => w335 (cl := clD n) Dh (i := b - 1) (by omega) [41]
            cases e1 : X.c.solo a [40] with
            | false =>
              rw [e1] at hs1
              repeat' first
                | ((with_reducible apply weak_keep [0, 3, 7]); rfl; exact htail 0 _ ob1 es1 (by rw [hc, if_neg (by omega), if_neg (by rw [e1]; simp)]) (by omega) D1 ((hk1 _ (by omega) (by have := Dh.lm; omega)).trans hb0) (fun y hy hm => (hk1 y (by omega) hm).trans (hfr y hy hm)))
                | refine GoH ?_
                | refine ZB (ev_load rfl hx rfl) ?_
                | refine ZB (ev_load rfl hb0 rfl) ?_
                | refine ZY (ev_load rfl hx rfl) (by (repeat' first|exact True.intro|refine ⟨?_, ?_⟩|exact .inl rfl|exact .inr (.inl rfl)|exact .inr (.inr rfl)|rfl)) ?_
                | refine ZY (ev_load rfl hb0 rfl) (by (repeat' first|exact True.intro|refine ⟨?_, ?_⟩|exact .inl rfl|exact .inr (.inl rfl)|exact .inr (.inr rfl)|rfl)) ?_
                | refine ZY (ev_mapGetF rfl rfl rfl D0.hm hf) (by (repeat' first|exact True.intro|refine ⟨?_, ?_⟩|exact .inl rfl|exact .inr (.inl rfl)|exact .inr (.inr rfl)|rfl)) ?_
                | refine ZB (ev_leq_f rfl rfl (by omega)) ?_
                | refine ZX rfl (ev_add1N rfl rfl (by omega)) ?_
                | refine ZX rfl (ev_eql_f rfl rfl (by omega)) ?_
                | refine ZB (ev_add rfl rfl (by omega) (by omega)) ?_
                | refine ZB (ev_gtr_t rfl rfl (by omega)) ?_
                | (refine step_hR rfl (fineD _) (hs1 _ _ _ D0) ?_; rintro v nx1 ob1 ⟨rfl, h4, ⟨es1, D1⟩, hk1⟩; simp only at h4 D1 hk1)
                | (with_reducible first|apply ZS|apply ZT)|((with_reducible apply ZU);rfl)|((with_reducible apply ZV);rfl;decide)|((with_reducible apply ZW);rfl)|refine ZX rfl rfl ?_|refine ZY rfl (by (repeat' first|exact True.intro|refine ⟨?_, ?_⟩|exact .inl rfl|exact .inr (.inl rfl)|exact .inr (.inr rfl)|rfl)) ?_
                | refine ZB rfl ?_|refine ZC rfl ?_
            | true =>
              rw [e1] at hs1
              cases e2 : X.c.solo (b - 1) [41] with
              | false =>
                rw [e2] at hs2
                repeat' first
                  | ((with_reducible apply weak_keep [0, 3, 7]); rfl; exact htail 0 _ ob2 es2 (by rw [hc, if_neg (by omega), if_neg (by rw [e2]; simp)]) (by omega) D2 ((hk2 _ (by omega) (by have := Dh.lm; omega)).trans hb1) (fun y hy hm => (hk2 y (by omega) hm).trans ((hk1 y (by omega) hm).trans (hfr y hy hm))))
                  | refine GoH ?_
                  | refine ZB (ev_load rfl hx rfl) ?_
                  | refine ZB (ev_load rfl hb1 rfl) ?_
                  | refine ZB (ev_load rfl hb0 rfl) ?_
                  | refine ZY (ev_load rfl hx rfl) (by (repeat' first|exact True.intro|refine ⟨?_, ?_⟩|exact .inl rfl|exact .inr (.inl rfl)|exact .inr (.inr rfl)|rfl)) ?_
                  | refine ZY (ev_load rfl hb0 rfl) (by (repeat' first|exact True.intro|refine ⟨?_, ?_⟩|exact .inl rfl|exact .inr (.inl rfl)|exact .inr (.inr rfl)|rfl)) ?_
                  | refine ZY (ev_mapGetF rfl rfl rfl D0.hm hf) (by (repeat' first|exact True.intro|refine ⟨?_, ?_⟩|exact .inl rfl|exact .inr (.inl rfl)|exact .inr (.inr rfl)|rfl)) ?_
                  | refine ZB (ev_leq_f rfl rfl (by omega)) ?_
                  | refine ZX rfl (ev_add1N rfl rfl (by omega)) ?_
                  | refine ZX rfl (ev_eql_f rfl rfl (by omega)) ?_
                  | refine ZB (ev_add rfl rfl (by omega) (by omega)) ?_
                  | refine ZB (ev_sub1N rfl rfl (by omega) (by omega)) ?_
                  | refine ZB (ev_gtr_t rfl rfl (by omega)) ?_
                  | (refine step_hR rfl (fineD _) (hs1 _ _ _ D0) ?_; rintro v nx1 ob1 ⟨rfl, h4, ⟨es1, D1⟩, hk1⟩; simp only at h4 D1 hk1; have hb1 := (hk1 nx (by omega) (by have := Dh.lm; omega)).trans hb0)
                  | (refine step_hR rfl (fineD _) (hs2 _ _ _ D1) ?_; rintro v nx2 ob2 ⟨rfl, h5, ⟨es2, D2⟩, hk2⟩; simp only at h5 D2 hk2)
                  | (with_reducible first|apply ZS|apply ZT)|((with_reducible apply ZU);rfl)|((with_reducible apply ZV);rfl;decide)|((with_reducible apply ZW);rfl)|refine ZX rfl rfl ?_|refine ZY rfl (by (repeat' first|exact True.intro|refine ⟨?_, ?_⟩|exact .inl rfl|exact .inr (.inl rfl)|exact .inr (.inr rfl)|rfl)) ?_
                  | refine ZB rfl ?_|refine ZC rfl ?_
              | true =>
                rw [e2] at hs2
                repeat' first
                  | ((with_reducible apply weak_keep [0, 3, 7]); rfl; exact htail _ _ ob3 es3 (by rw [hc, if_neg (by omega), if_pos ⟨h2, e1, e2⟩]) (by omega) D3 ((hk3 _ (by omega) (by have := Dh.lm; omega)).trans hb2) (fun y hy hm => (hk3 y (by omega) hm).trans ((hk2 y (by omega) hm).trans ((hk1 y (by omega) hm).trans (hfr y hy hm)))))
                  | refine GoH ?_
                  | refine ZB (ev_load rfl hx rfl) ?_
                  | refine ZB (ev_load rfl hb2 rfl) ?_
                  | refine ZB (ev_load rfl hb1 rfl) ?_
                  | refine ZB (ev_load rfl hb0 rfl) ?_
                  | refine ZY (ev_load rfl hx rfl) (by (repeat' first|exact True.intro|refine ⟨?_, ?_⟩|exact .inl rfl|exact .inr (.inl rfl)|exact .inr (.inr rfl)|rfl)) ?_
                  | refine ZY (ev_load rfl hb0 rfl) (by (repeat' first|exact True.intro|refine ⟨?_, ?_⟩|exact .inl rfl|exact .inr (.inl rfl)|exact .inr (.inr rfl)|rfl)) ?_
                  | refine ZY (ev_mapGetF rfl rfl rfl D0.hm hf) (by (repeat' first|exact True.intro|refine ⟨?_, ?_⟩|exact .inl rfl|exact .inr (.inl rfl)|exact .inr (.inr rfl)|rfl)) ?_
                  | refine ZB (ev_leq_f rfl rfl (by omega)) ?_
                  | refine ZX rfl (ev_add1N rfl rfl (by omega)) ?_
                  | refine ZX rfl (ev_eql_f rfl rfl (by omega)) ?_
                  | refine ZB (ev_sub1N rfl rfl (by omega) (by omega)) ?_
                  | refine ZB (ev_add1N rfl rfl (by omega)) ?_
                  | refine ZB (ev_add rfl rfl (by omega) (by omega)) ?_
                  | refine ZB (ev_gtr_t rfl rfl (by omega)) ?_
                  | (refine step_hR rfl (fineD _) (hs1 _ _ _ D0) ?_; rintro v nx1 ob1 ⟨rfl, h4, ⟨es1, D1⟩, hk1⟩; simp only at h4 D1 hk1; have hb1 := (hk1 nx (by omega) (by have := Dh.lm; omega)).trans hb0)
                  | (refine step_hR rfl (fineD _) (hs2 _ _ _ D1) ?_; rintro v nx2 ob2 ⟨rfl, h5, ⟨es2, D2⟩, hk2⟩; simp only at h5 D2 hk2; have hb2 := (hk2 nx (by omega) (by have := Dh.lm; omega)).trans hb1)
                  | (refine step_hR rfl (fineD _) (h336 X es2 nx2 ob2 ok D2 (a + 1) (b - 1) (-1) 0 false false (by omega) (by intro h; cases h) (by omega)) ?_; rintro v nx3 ob3 ⟨rfl, h6, ⟨es3, D3⟩, hk3⟩; simp only at h6 D3 hk3)
                  | (with_reducible first|apply ZS|apply ZT)|((with_reducible apply ZU);rfl)|((with_reducible apply ZV);rfl;decide)|((with_reducible apply ZW);rfl)|refine ZX rfl rfl ?_|refine ZY rfl (by (repeat' first|exact True.intro|refine ⟨?_, ?_⟩|exact .inl rfl|exact .inr (.inl rfl)|exact .inr (.inr rfl)|rfl)) ?_
                  | refine ZB rfl ?_|refine ZC rfl ?_
          · have hw := htail 0 (nx + 1) ob0 es (by rw [hc, if_neg (by omega), if_neg (by omega)]) (Nat.le_refl _) D0 hb0 hfr
            repeat' first
              | ((with_reducible apply weak_keep [0, 3, 7]); rfl; exact hw)
              | refine GoH ?_
              | refine ZB (ev_load rfl hx rfl) ?_
              | refine ZB (ev_load rfl hb0 rfl) ?_
              | refine ZY (ev_load rfl hx rfl) (by (repeat' first|exact True.intro|refine ⟨?_, ?_⟩|exact .inl rfl|exact .inr (.inl rfl)|exact .inr (.inr rfl)|rfl)) ?_
              | refine ZY (ev_load rfl hb0 rfl) (by (repeat' first|exact True.intro|refine ⟨?_, ?_⟩|exact .inl rfl|exact .inr (.inl rfl)|exact .inr (.inr rfl)|rfl)) ?_
              | refine ZY (ev_mapGetF rfl rfl rfl D0.hm hf) (by (repeat' first|exact True.intro|refine ⟨?_, ?_⟩|exact .inl rfl|exact .inr (.inl rfl)|exact .inr (.inr rfl)|rfl)) ?_
              | refine ZB (ev_leq_f rfl rfl (by omega)) ?_
              | refine ZX rfl (ev_add1N rfl rfl (by omega)) ?_
              | refine ZX rfl (ev_eql_f rfl rfl (by omega)) ?_
              | refine ZB (ev_add rfl rfl (by omega) (by omega)) ?_
              | refine ZB (ev_gtr_f rfl rfl (by omega)) ?_
              | (with_reducible first|apply ZS|apply ZT)|((with_reducible apply ZU);rfl)|((with_reducible apply ZV);rfl;decide)|((with_reducible apply ZW);rfl)|refine ZX rfl rfl ?_|refine ZY rfl (by (repeat' first|exact True.intro|refine ⟨?_, ?_⟩|exact .inl rfl|exact .inr (.inl rfl)|exact .inr (.inr rfl)|rfl)) ?_
              | refine ZB rfl ?_|refine ZC rfl ?_
  · repeat' first
      | refine GoH ?_
      | refine ZY (ev_load rfl hx rfl) (by (repeat' first|exact True.intro|refine ⟨?_, ?_⟩|exact .inl rfl|exact .inr (.inl rfl)|exact .inr (.inr rfl)|rfl)) ?_
      | refine ZY (ev_load rfl hb0 rfl) (by (repeat' first|exact True.intro|refine ⟨?_, ?_⟩|exact .inl rfl|exact .inr (.inl rfl)|exact .inr (.inr rfl)|rfl)) ?_
      | refine ZY (ev_mapGetT rfl rfl rfl D0.hm hf) (by (repeat' first|exact True.intro|refine ⟨?_, ?_⟩|exact .inl rfl|exact .inr (.inl rfl)|exact .inr (.inr rfl)|rfl)) ?_
      | (with_reducible first|apply ZS|apply ZT)|((with_reducible apply ZU);rfl)|((with_reducible apply ZV);rfl;decide)|((with_reducible apply ZW);rfl)|refine ZX rfl rfl ?_|refine ZY rfl (by (repeat' first|exact True.intro|refine ⟨?_, ?_⟩|exact .inl rfl|exact .inr (.inl rfl)|exact .inr (.inr rfl)|rfl)) ?_
      | refine ZB rfl ?_|refine ZC rfl ?_
    exact ⟨_, rfl, rfl, (by show nx ≤ nx + 1; omega), ⟨es, D0⟩, hfr⟩
end Go.Am
