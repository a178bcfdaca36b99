/-
  derive's deriver: tree; all methods at every measure.
-/
import Derived.Test.YtpidbhbmamjbpaaDoorSV10
namespace Go.Am
open Go
theorem topN_I (j : Nat) : topI (topN j) = (j : Int) - 1 := by cases j <;> simp [topN, topI]
theorem topN_ok {c : Drv} {j : Nat} (h : j < c.ops.length + 1) : topOk c (topN j) := by
  intro k hk
  cases j with
  | zero => cases hk
  | succ j => cases hk; omega
theorem ev_appL {cl : Call} {e : Env} {x y : Opd} {nx z sz : Nat} {ob : List (Nat × Ob)} {l l2 : List (List D)} (hx : ev e x = .c (.lit sz l)) (hy : ev e y = .c (.own z l2.length)) (hl2 : look ob z = some (.row sz l2)) (hne : 0 < l2.length) (hr : l.length + l2.length ≤ room) :
    eval cl e ⟨nx, ob⟩ (.append x y sz) = some (.c (.own nx (l ++ l2).length), ⟨nx + 1, (nx, .row sz (l ++ l2)) :: ob⟩) := by
  have h1 : sized sz sz l2 = true := by simp [sized]
  have h2 : True ∧ l.length + l2.length ≤ room := ⟨trivial, hr⟩
  have h3 : l2.isEmpty = false := by
    cases l2 with
    | nil => exact absurd hne (Nat.lt_irrefl 0)
    | cons _ _ => rfl
  simp only [eval, hy, C.lst, C.toD, hl2, if_true, h1, hx]
  rw [if_pos h2, h3]
  rfl
theorem RTr.mk {X : DX} {nx q : Nat} {ob ob' : List (Nat × Ob)} {l : List Nd5} {r : List (List D)} {es' : List (D × C)} (hn : nx ≤ q) (D' : DH X es' q ob') (hf : ∀ y, y < nx → y ≠ X.my → look ob' y = look ob y) (hr : r = l.map ndD) : RTr X nx ob l (.c (.own q r.length)) ⟨q + 1, (q, .row 5 r) :: ob'⟩ := by
  subst hr
  refine ⟨(by show nx ≤ q + 1; omega), ⟨es', D'.keep (Nat.le_succ _) fun y hy => look_tl (by omega) rfl⟩, fun y hy hm => (look_tl (by omega) rfl).trans (hf y hy hm), q, hn, (by show q < q + 1; omega), rfl, look_hd⟩
set_option maxRecDepth 8000 in
set_option maxHeartbeats 8000000 in
theorem w321 {n : Nat} (h320 : Q320 n) (h321 : Q321 n) (h338 : Q338 n) : Q321 (n + 1) := by
  intro X es nx ob ok Dh a b o on outer right hab hb ho hA hm
  have htoks := ok.toks
  have hops := ok.ops
  have hlen : (X.c.ops.map opD).length = X.c.ops.length := List.length_map ..
  obtain ⟨jp, hpick, hjl, hfit, hC, hbefore⟩ := pick_of hA
  have hT := Tr_eq (c := X.c) hab on outer right
  unfold Drv.treeStep at hT
  rw [hpick] at hT
  unfold wpOf c321
  repeat' first | refine GoH ?_ | (refine step_boxA rfl ?_; intro ob0 hb0 hk0) | refine ZB rfl ?_|refine ZC rfl ?_
  refine awp_loop (fun q st => ∃ (j nx1 : Nat) (ob1 : List (Nat × Ob)) (es1 : List (Am.D × C)), j ≤ jp ∧ jp - j < q ∧ nx + 1 ≤ nx1 ∧ DH X es1 nx1 ob1 ∧ look ob1 nx = some (.cells [.d (.bool outer), .d (.bool right)]) ∧ (∀ y, y < nx → y ≠ X.my → look ob1 y = look ob y) ∧
    st = ⟨[(0, .c (.ptr X.x 0)), (1, .c (.d (.int .i64 (a : Nat)))), (2, .c (.d (.int .i64 (b : Nat)))), (3, .c (.d (.int .i64 o))), (9, .c (.ptr nx 0)), (11, .c (.d (.int .i64 ((j : Int) - 1))))], ⟨nx1, ob1⟩⟩) (jp + 1) ?_ (by rintro st ⟨j, _, _, _, _, h, _⟩; omega) ?_
  · exact weak_keep [0, 1, 2, 3, 9, 11] rfl ⟨0, nx + 1, ob0, es, by omega, by omega, Nat.le_refl _, Dh.keep (Nat.le_succ _) hk0, hb0, fun y hy _ => hk0 y hy, rfl⟩
  · rintro q K hK st ⟨j, nx1, ob1, es1, h1, h2, h3, D1, hb1, hf1, rfl⟩
    have hx := D1.hx
    have hlm := Dh.lm
    have hlm1 := D1.lm
    have hlx1 := D1.lx
    have hls1 := D1.ls
    have htI := topN_I j
    have htok : topOk X.c (topN j) := topN_ok (by omega)
    rw [← htI]
    have h337 := fun nx ob es (Dh : DH X es nx ob) => w337 (hcl23 n) ok Dh (o := o) (on := on) htok (outer := outer) (right := right) ho
    by_cases hend : j = jp
    · subst hend
      rw [hfit] at h337
      cases j with
      | zero =>
        have hC0 := C_none (c := X.c) hab
        by_cases h1b : b = a + 1
        · have ht := tk_at (c := X.c) (i := a) (by omega)
          simp only [if_pos h1b] at hT
          rw [hT]
          generalize X.c.tk a = tk at ht ⊢
          obtain ⟨q1, q2, q3, q4, q5⟩ := tk
          repeat' first
            | refine GoH ?_
            | refine ZB (ev_load rfl hx rfl) ?_
            | refine ZB (ev_lss_t rfl rfl (by omega)) ?_
            | ((with_reducible apply step_allocA); intro ob2 hb2 hk2)
            | ((with_reducible apply step_storeA); rfl; rfl; rfl; exact hb2; rfl; intro ob3 hb3 hk3; have D3 := D1.keep (nx' := nx1 + 1) (by omega) (fun y hy => (hk3 y (by omega)).trans (hk2 y hy)); have hb1_3 := ((hk3 nx (by omega)).trans (hk2 nx (by omega))).trans hb1)
            | refine ZB (ev_load rfl hb1_3 rfl) ?_
            | ((with_reducible apply step_hR); rfl; exact fineD _; exact h337 _ _ _ D3; rintro v nx4 ob4 ⟨rfl, h4, ⟨es4, D4⟩, hk4⟩; simp only at h4 D4 hk4; have hb3_4 := (hk4 nx1 (by omega) (by omega)).trans hb3; have hx4 := D4.hx)
            | refine ZB (ev_load rfl hb3_4 rfl) ?_
            | ((with_reducible apply step_hR); rfl; exact fineD _; exact h320 X es4 nx4 ob4 ok D4 a b (topN 0) hb htok (by omega); rintro v nx5 ob5 ⟨rfl, h5, ⟨es5, D5⟩, hk5⟩; simp only at h5 D5 hk5; have hx5 := D5.hx)
            | refine ZB (ev_eql_f rfl rfl (by omega)) ?_
            | refine ZB (ev_load rfl hx5 rfl) ?_
            | refine ZB (ev_add1N rfl rfl (by omega)) ?_
            | refine ZB (ev_eql_t rfl rfl (by omega)) ?_
            | refine ZB (ev_idx rfl rfl (by omega) ht rfl) ?_
            | refine ZB rfl ?_|refine ZC rfl ?_
          exact ⟨_, rfl, RTr.mk (by omega) D5 (fun y hy hm => (hk5 y (by omega) hm).trans ((hk4 y (by omega) hm).trans ((hk3 y (by omega)).trans ((hk2 y (by omega)).trans (hf1 y hy hm))))) rfl⟩
        · simp only [if_neg h1b] at hT
          rw [show topN 0 = none from rfl, hC0, if_neg (by omega)] at hC
          have hpar : a + 2 < b ∧ X.c.solo a [40] = true ∧ X.c.solo (b - 1) [41] = true := by
            by_cases hh : a + 2 < b ∧ X.c.solo a [40] = true ∧ X.c.solo (b - 1) [41] = true
            · exact hh
            · rw [if_neg hh] at hC; cases hC
          rw [if_pos hpar] at hC
          have hA2 : 0 < X.c.A 0 false false (a + 1) (b - 1) := by omega
          have hne := Tr_ne (c := X.c) (a := a + 1) (b := b - 1) (by omega) hA2
          have hl1 := len_Tr (c := X.c) _ (a + 1) (b - 1) 0 false false (Nat.le_refl _)
          have hpos : 0 < ((X.c.Tr (a + 1) (b - 1) 0 false false).map ndD).length := by rw [List.length_map]; exact List.length_pos_iff.2 hne
          have hroom : ([[D.int .i64 2, .str [], .int .i64 (a : Nat), .int .i64 (b : Nat), .int .i64 1]] : List (List D)).length + ((X.c.Tr (a + 1) (b - 1) 0 false false).map ndD).length ≤ room := by
            rw [List.length_map]
            show 1 + _ ≤ room
            unfold room
            omega
          rw [hT]
          repeat' first
            | (apply ZS)
            | refine GoH ?_
            | refine ZB (ev_load rfl hx rfl) ?_
            | refine ZB (ev_lss_t rfl rfl (by omega)) ?_
            | ((with_reducible apply step_storeA); rfl; rfl; rfl; exact hb6; rfl; intro ob7 hb7 hk7; have D7 := D5.keep (nx' := nx5 + 1) (by omega) (fun y hy => (hk7 y (by omega)).trans (hk6 y hy)))
            | ((with_reducible apply step_storeA); rfl; rfl; rfl; exact hb2; rfl; intro ob3 hb3 hk3; have D3 := D1.keep (nx' := nx1 + 1) (by omega) (fun y hy => (hk3 y (by omega)).trans (hk2 y hy)); have hb1_3 := ((hk3 nx (by omega)).trans (hk2 nx (by omega))).trans hb1)
            | refine ZB (ev_load rfl hb1_3 rfl) ?_
            | ((with_reducible apply step_hR); rfl; exact fineD _; exact h337 _ _ _ D3; rintro v nx4 ob4 ⟨rfl, h4, ⟨es4, D4⟩, hk4⟩; simp only at h4 D4 hk4; have hb3_4 := (hk4 nx1 (by omega) (by omega)).trans hb3; have hx4 := D4.hx)
            | refine ZB (ev_load rfl hb3_4 rfl) ?_
            | ((with_reducible apply step_hR); rfl; exact fineD _; exact h320 X es4 nx4 ob4 ok D4 a b (topN 0) hb htok (by omega); rintro v nx5 ob5 ⟨rfl, h5, ⟨es5, D5⟩, hk5⟩; simp only at h5 D5 hk5; have hx5 := D5.hx)
            | refine ZB (ev_eql_f rfl rfl (by have : X.c.C a b (topN 0) = min 2 (if b = a + 1 ∧ X.c.leaf a = true then 1 else if a + 2 < b ∧ X.c.solo a [40] = true ∧ X.c.solo (b - 1) [41] = true then X.c.A 0 false false (a + 1) (b - 1) else 0) := hC0; rw [this, if_neg (by omega), if_pos hpar]; omega)) ?_
            | refine ZB (ev_eql_f rfl rfl (by omega)) ?_
            | refine ZB (ev_add1N rfl rfl (by omega)) ?_
            | ((with_reducible apply step_allocA); first | (intro ob6 hb6 hk6; have := hx5) | intro ob2 hb2 hk2)
            | refine ZB rfl ?_|refine ZC rfl ?_
          have hlm5 := D5.lm
          obtain ⟨v1, ⟨nx8, ob8⟩, ⟨t1, ⟨es8, D8⟩, t3, z, tz1, tz2, rfl, tz3⟩, hT1⟩ := wpOf_one (fineD n) (h321 X es5 (nx5 + 1) ob7 ok D7 (a + 1) (b - 1) (-1) 0 false false (by omega) (by omega) (by intro h; cases h) hA2 (by omega))
          simp only at t1 D8 t3 tz2 tz3
          have hb8 := (t3 nx5 (by omega) (by omega)).trans hb7
          repeat' first
            | refine GoH ?_
            | (with_reducible apply ZT)
            | refine ZY (ev_load rfl hb7 rfl) (by (repeat' first|exact True.intro|refine ⟨?_, ?_⟩|exact .inl rfl|exact .inr (.inl rfl)|exact .inr (.inr rfl)|rfl)) ?_
            | refine ZX rfl (ev_add1N rfl rfl (by omega)) ?_
            | refine ZX rfl (ev_sub1N rfl rfl (by omega) (by omega)) ?_
            | refine ZX rfl rfl ?_
            | refine ZZ (evalR_h rfl (hT1 _ ⟨rfl, rfl⟩)) (by repeat' first | exact True.intro | refine ⟨?_, ?_⟩ | exact .inl rfl | exact .inr (.inl rfl) | exact .inr (.inr (ev_load rfl hb8 rfl)) | exact .inr (.inr rfl)) ?_
            | refine ZZ (Z0 (ev_appL rfl rfl tz3 hpos hroom) ⟨rfl, rfl⟩) (by (repeat' first|exact True.intro|refine ⟨?_, ?_⟩|exact .inl rfl|exact .inr (.inl rfl)|exact .inr (.inr rfl)|rfl)) ?_
            | refine ZY rfl (by (repeat' first|exact True.intro|refine ⟨?_, ?_⟩|exact .inl rfl|exact .inr (.inl rfl)|exact .inr (.inr rfl)|rfl)) ?_
            | refine ZB rfl ?_|refine ZC rfl ?_
          exact ⟨_, rfl, RTr.mk (by omega) D8 (fun y hy hm => (t3 y (by omega) hm).trans ((hk7 y (by omega)).trans ((hk6 y (by omega)).trans ((hk5 y (by omega) hm).trans ((hk4 y (by omega) hm).trans ((hk3 y (by omega)).trans ((hk2 y (by omega)).trans (hf1 y hy hm)))))))) rfl⟩
      | succ k =>
        have hk : k < X.c.ops.length := by omega
        have hC' : 0 < X.c.W k a b 0 false a := by
          have : 0 < X.c.C a b (some k) := hC
          rw [C_some hab] at this
          omega
        have hop := op_at (c := X.c) hk
        have hfu := fuel_le (X.c.sh k) 0 false (sh_len X.c k)
        have hl2 := len_Bl (c := X.c) (k := k) (a := a) (b := b) (fun x y o r _ => len_Tr _ x y k o r (Nat.le_refl _)) _ 0 false a (Nat.le_refl _) (Nat.zero_le _) (Nat.le_refl _) hC'
        rw [show topI (topN (k + 1)) = (k : Int) from rfl]
        have hT' : X.c.Tr a b on outer right = ⟨3, (X.c.op k).pat, (a : Nat), (b : Nat), ((X.c.Bl a b k 0 false a).2 : Nat)⟩ :: (X.c.Bl a b k 0 false a).1 := hT
        rw [hT']
        have hCne : X.c.C a b (some k) ≠ 0 := by have : 0 < X.c.C a b (some k) := hC; omega
        generalize X.c.op k = opk at hop ⊢
        obtain ⟨pat, og, oa⟩ := opk
        repeat' first
          | refine GoH ?_
          | refine ZB (ev_load rfl hx rfl) ?_
          | refine ZB (ev_lss_t rfl rfl (by omega)) ?_
          | ((with_reducible apply step_storeA); rfl; rfl; rfl; exact hb6; rfl; intro ob7 hb7 hk7; have D7 := D5.keep (nx' := nx5 + 1) (by omega) (fun y hy => (hk7 y (by omega)).trans (hk6 y hy)); have hb3_7 := (hk7 nx1 (by omega)).trans ((hk6 nx1 (by omega)).trans hb3_5))
          | ((with_reducible apply step_storeA); rfl; rfl; rfl; exact hb2; rfl; intro ob3 hb3 hk3; have D3 := D1.keep (nx' := nx1 + 1) (by omega) (fun y hy => (hk3 y (by omega)).trans (hk2 y hy)); have hb1_3 := ((hk3 nx (by omega)).trans (hk2 nx (by omega))).trans hb1)
          | refine ZB (ev_load rfl hb1_3 rfl) ?_
          | ((with_reducible apply step_hR); rfl; exact fineD _; exact h337 _ _ _ D3; rintro v nx4 ob4 ⟨rfl, h4, ⟨es4, D4⟩, hk4⟩; simp only at h4 D4 hk4; have hb3_4 := (hk4 nx1 (by omega) (by omega)).trans hb3; have hx4 := D4.hx)
          | refine ZB (ev_load rfl hb3_4 rfl) ?_
          | ((with_reducible apply step_hR); rfl; exact fineD _; exact h320 X es4 nx4 ob4 ok D4 a b (some k) hb htok (by omega); rintro v nx5 ob5 ⟨rfl, h5, ⟨es5, D5⟩, hk5⟩; simp only at h5 D5 hk5; have hx5 := D5.hx; have hb3_5 := (hk5 nx1 (by omega) (by omega)).trans hb3_4)
          | refine ZB (ev_eql_f rfl rfl (by omega)) ?_
          | refine ZB (ev_neq_t rfl rfl (by omega)) ?_
          | refine ZB (ev_load rfl hx5 rfl) ?_
          | refine ZB (ev_idx rfl rfl (by omega) hop rfl) ?_
          | refine ZB (ev_load rfl hb3_7 rfl) ?_
          | ((with_reducible apply step_allocA); first | (intro ob6 hb6 hk6; have := hx5) | intro ob2 hb2 hk2)
          | ((with_reducible apply step_hR); rfl; exact fineD _; exact h338 X es5 (nx5 + 1) ob7 ok D7 a b k 0 a false nx5 0 _ _ _ _ hab hb hk (Nat.zero_le _) (Nat.le_refl _) (by omega) hb7 (by omega) (by have := D5.lm; omega) (by have := D5.lx; omega) (by have := D5.ls; omega) (by omega) hC' (by omega); rintro v nx8 ob8 ⟨e1, ⟨es8, D8⟩, e3, e4, (⟨e5, rfl⟩ | ⟨z, e6, e7, rfl, e8⟩)⟩; all_goals simp only at e1 D8 e3 e4)
          | refine ZB (ev_load rfl e4 rfl) ?_
          | refine ZB (ev_app_nil (l := [[.int .i64 3, .str pat, .int .i64 (a : Nat), .int .i64 (b : Nat), .int .i64 ((0 + (X.c.Bl a b k 0 false a).2 : Nat) : Int)]]) rfl rfl rfl look_hd (by show 1 ≤ room; unfold room; omega) put_hd) ?_
          | refine ZB (ev_app_own2 (l := [[.int .i64 3, .str pat, .int .i64 (a : Nat), .int .i64 (b : Nat), .int .i64 ((0 + (X.c.Bl a b k 0 false a).2 : Nat) : Int)]]) rfl rfl rfl look_hd (look_tl (by have h7 : z < nx8 := e7; omega) e8) (by rw [List.length_map]; show 1 + _ ≤ room; unfold room; omega) put_hd) ?_
          | refine ZB rfl ?_|refine ZC rfl ?_
        all_goals have hlm5 := D5.lm
        · exact ⟨_, rfl, RTr.mk (by omega) D8 (fun y hy hm => (e3 y (by omega) hm (by omega)).trans ((hk7 y (by omega)).trans ((hk6 y (by omega)).trans ((hk5 y (by omega) hm).trans ((hk4 y (by omega) hm).trans ((hk3 y (by omega)).trans ((hk2 y (by omega)).trans (hf1 y hy hm)))))))) (by rw [List.map_cons, e5, Nat.zero_add]; rfl)⟩
        · exact ⟨_, rfl, RTr.mk (by omega) D8 (fun y hy hm => (e3 y (by omega) hm (by omega)).trans ((hk7 y (by omega)).trans ((hk6 y (by omega)).trans ((hk5 y (by omega) hm).trans ((hk4 y (by omega) hm).trans ((hk3 y (by omega)).trans ((hk2 y (by omega)).trans (hf1 y hy hm)))))))) (by rw [Nat.zero_add]; rfl)⟩
    · have hno := hbefore j (by omega)
      cases hfj : X.c.fitT on (topN j) outer right with
      | false =>
        rw [hfj] at h337
        repeat' first
          | refine GoH ?_
          | refine ZB (ev_load rfl hx rfl) ?_
          | refine ZB (ev_lss_t rfl rfl (by omega)) ?_
          | ((with_reducible apply step_allocA); intro ob2 hb2 hk2)
          | ((with_reducible apply step_storeA); rfl; rfl; rfl; exact hb2; rfl; intro ob3 hb3 hk3; have D3 := D1.keep (nx' := nx1 + 1) (by omega) (fun y hy => (hk3 y (by omega)).trans (hk2 y hy)); have hb1_3 := ((hk3 nx (by omega)).trans (hk2 nx (by omega))).trans hb1)
          | refine ZB (ev_load rfl hb1_3 rfl) ?_
          | ((with_reducible apply step_hR); rfl; exact fineD _; exact h337 _ _ _ D3; rintro v nx4 ob4 ⟨rfl, h4, ⟨es4, D4⟩, hk4⟩; simp only at h4 D4 hk4)
          | refine ZB (ev_add rfl rfl (by omega) (by omega)) ?_
          | refine ZB rfl ?_|refine ZC rfl ?_
        exact hK _ (weak_keep [0, 1, 2, 3, 9, 11] rfl ⟨j + 1, nx4, ob4, es4, by omega, by omega, by omega, D4, (hk4 nx (by omega) (by omega)).trans hb1_3, fun y hy hm => (hk4 y (by omega) hm).trans ((hk3 y (by omega)).trans ((hk2 y (by omega)).trans (hf1 y hy hm))), by rw [show ((j + 1 : Nat) : Int) - 1 = topI (topN j) + 1 by omega]; rfl⟩)
      | true =>
        rw [hfj] at h337 hno
        have hC0 : X.c.C a b (topN j) = 0 := by
          simp only [Bool.true_and, decide_eq_false_iff_not] at hno
          omega
        repeat' first
          | refine GoH ?_
          | refine ZB (ev_load rfl hx rfl) ?_
          | refine ZB (ev_lss_t rfl rfl (by omega)) ?_
          | ((with_reducible apply step_allocA); intro ob2 hb2 hk2)
          | ((with_reducible apply step_storeA); rfl; rfl; rfl; exact hb2; rfl; intro ob3 hb3 hk3; have D3 := D1.keep (nx' := nx1 + 1) (by omega) (fun y hy => (hk3 y (by omega)).trans (hk2 y hy)); have hb1_3 := ((hk3 nx (by omega)).trans (hk2 nx (by omega))).trans hb1)
          | refine ZB (ev_load rfl hb1_3 rfl) ?_
          | ((with_reducible apply step_hR); rfl; exact fineD _; exact h337 _ _ _ D3; rintro v nx4 ob4 ⟨rfl, h4, ⟨es4, D4⟩, hk4⟩; simp only at h4 D4 hk4; have hb3_4 := (hk4 nx1 (by omega) (by omega)).trans hb3)
          | refine ZB (ev_load rfl hb3_4 rfl) ?_
          | ((with_reducible apply step_hR); rfl; exact fineD _; exact h320 X es4 nx4 ob4 ok D4 a b (topN j) hb htok (by omega); rintro v nx5 ob5 ⟨rfl, h5, ⟨es5, D5⟩, hk5⟩; simp only at h5 D5 hk5)
          | refine ZB (ev_eql_t rfl rfl (by omega)) ?_
          | refine ZB (ev_add rfl rfl (by omega) (by omega)) ?_
          | refine ZB rfl ?_|refine ZC rfl ?_
        exact hK _ (weak_keep [0, 1, 2, 3, 9, 11] rfl ⟨j + 1, nx5, ob5, es5, by omega, by omega, by omega, D5, (hk5 nx (by omega) (by omega)).trans ((hk4 nx (by omega) (by omega)).trans hb1_3), fun y hy hm => (hk5 y (by omega) hm).trans ((hk4 y (by omega) hm).trans ((hk3 y (by omega)).trans ((hk2 y (by omega)).trans (hf1 y hy hm)))), by rw [show ((j + 1 : Nat) : Int) - 1 = topI (topN j) + 1 by omega]; rfl⟩)
theorem wT : ∀ m, Q321 m ∧ Q338 m
  | 0 => ⟨fun X es nx ob ok Dh a b o on outer right hab hb ho hA hm => by omega, fun X es nx ob ok Dh a b k p i done kb n0 u0 u1 u2 u3 hab hb hk hp hai hib hkb hkb1 hkb2 hkb3 hkb4 hn0 hpos hm => by omega⟩
  | m + 1 => by
    obtain ⟨h1, h2⟩ := wT m
    obtain ⟨h3, h4, h5⟩ := wD m
    exact ⟨w321 h4 h1 h2, w338 h3 h5 h1 h2⟩
end Go.Am
