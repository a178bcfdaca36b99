/-
  DeriveSigns: the law's function.
-/
import Derived.Test.YtpidbhbmamjbpaaDoorSWF
import Derived.Test.YtpidbhbmamjbpaaDoorSDE
namespace Go.Am
open Go
theorem addTo_one {o : Op3} (h : mayOf partE o.pat o.g o.a = 0) : addTo o [] = [o] := by
  unfold addTo
  rw [if_pos h]
  rfl
theorem addTo_two {o p : Op3} (h : mayOf partE o.pat o.g o.a = 0) (hl : strLess p.pat o.pat = true) : addTo o [p] = [p, o] := by
  unfold addTo addL
  rw [if_pos h]
  simp [hl]
theorem sg_add {g h : Nat} (hg : g < 9) (hh : h < 9) : withL (sgE g h) [] = sgE g h := by
  have hA := sgA_all g hg h hh
  unfold sgA at hA
  simp only [Bool.and_eq_true, beq_iff_eq] at hA
  have e1 : addTo ⟨[45, 95], 1 + (g : Int), 2⟩ [] = [⟨[45, 95], 1 + (g : Int), 2⟩] := addTo_one hA.1
  have e2 : addTo ⟨[95, 33], 1 + (h : Int), 1⟩ [⟨[45, 95], 1 + (g : Int), 2⟩] = [⟨[45, 95], 1 + (g : Int), 2⟩, ⟨[95, 33], 1 + (h : Int), 1⟩] := addTo_two hA.2 (by rfl)
  show addTo _ (addTo _ []) = _
  rw [e1, e2]
  rfl
def sgC (x y g h : Nat) (cn : Int) (sz : Nat) (E : List (List D)) : Prop := (0 < x ∧ 0 < y ∧ (5 ≤ g ∨ 5 ≤ h ∨ g = h) ∧ cn = 0) ∨
     (¬ (0 < x ∧ 0 < y ∧ (5 ≤ g ∨ 5 ≤ h ∨ g = h)) ∧ cn = 1 ∧ sz = 5 ∧ E.length = x + y + 1 ∧ (x + y = 0 ∨ ∃ (z : Nd5) (E' : List (List D)), E = ndD z :: E' ∧ ((x = 0 ∨ (0 < y ∧ g < h)) ∧ z.s = [95, 33] ∨ ¬ (x = 0 ∨ (0 < y ∧ g < h)) ∧ z.s = [45, 95])))
theorem sg_cnt {g h i k : Nat} (hg : g < 9) (hh : h < 9) (hi : i < 5) (hk : k < 5) : ∃ (c : Int) (sz : Nat) (E : List (List D)), (∀ e s, T312 [.agg (envD e (sgE g h) (liftF startF)), .c (.list s ((lexT (sgT i k)).map tkD))] = some (.tup [.c (.int .i64 c), .c (.list sz E)])) ∧
    sgC i k g h c sz E := by
  have hB := sg_all g hg h hh i hi k hk
  unfold sgB at hB
  rw [Bool.and_eq_true, beq_iff_eq] at hB
  obtain ⟨hl, hB⟩ := hB
  have key : ∀ (L : List (List Nd5)), (drvOf (sgE g h) (liftF startF) (lexT (sgT i k))).allZ 0 (i + k + 1) = L → ∀ e s, T312 [.agg (envD e (sgE g h) (liftF startF)), .c (.list s ((lexT (sgT i k)).map tkD))] = some (resL L) := by
    intro L hL e s
    rw [T312_eq ⟨by show 2 ≤ 1000; decide, by omega⟩]
    congr 1
    have hn' : (drvOf (sgE g h) (liftF startF) (lexT (sgT i k))).toks.length = i + k + 1 := hl
    exact cnt_res (by rw [hn', ← allZ_eq, hL]) (by omega)
  generalize (drvOf (sgE g h) (liftF startF) (lexT (sgT i k))).allZ 0 (i + k + 1) = L at hB key
  have key := key L rfl
  match L, hB, key with
  | [], hB, key =>
    refine ⟨0, 0, [], key, .inl ?_⟩
    unfold sgBad at hB
    simp at hB
    omega
  | [x :: t], hB, key =>
    refine ⟨1, 5, ndD x :: t.map ndD, key, .inr ?_⟩
    unfold sgBad sgTop at hB
    simp at hB
    obtain ⟨⟨h1, h2⟩, h3⟩ := hB
    refine ⟨by omega, rfl, rfl, by simp [h2], ?_⟩
    by_cases h0 : i + k = 0
    · exact .inl h0
    · refine .inr ⟨x, _, rfl, ?_⟩
      have h3 := h3.resolve_left (by omega)
      split at h3
      · rename_i hc
        exact .inl ⟨hc, h3⟩
      · rename_i hc
        exact .inr ⟨hc, h3⟩
theorem ev_addsL {cl : Call} {e : Env} {h : Hp} {x y : Opd} {s t : List UInt8} (hx : ev e x = .c (.d (.str s))) (hy : ev e y = .c (.d (.str t))) (h1 : s.length ≤ 1000) (h2 : t.length ≤ 1000) : eval cl e h (.bin .add x y) = some (.c (.d (.str (s ++ t))), h) := ev_adds hx hy (by omega)
theorem rp_le {x : Nat} (h : x < 5) : (rpF [] [45, 32] x).length ≤ 1000 := by
  rw [rpF_len]
  simp only [List.length_cons, List.length_nil]
  omega
theorem sgT_le {x y : Nat} (h : x < 5) (h' : y < 5) : (sgT x y).length ≤ 1000 := by
  rw [sgT_len]
  omega
noncomputable def cl302 : Call := tbl [(9, onB FAll), (6, G310), (7, T311), (8, T312)]
noncomputable def T302 : List DV → Option DV := fam (fun x : (Nat × Nat) × Nat × Nat => [.agg [.int .u8 (x.1.1 : Nat), .int .u8 (x.1.2 : Nat)], .agg [.int .u8 (x.2.1 : Nat), .int .u8 (x.2.2 : Nat)]]) (fun x => x.1.1 < 256 ∧ x.1.2 < 256 ∧ x.2.1 < 256 ∧ x.2.2 < 256) (fun _ => .c (.bool true))
theorem T302_eq {a b c d : Nat} (ha : a < 256) (hb : b < 256) (hc : c < 256) (hd : d < 256) : T302 [.agg [.int .u8 (a : Nat), .int .u8 (b : Nat)], .agg [.int .u8 (c : Nat), .int .u8 (d : Nat)]] = some (.c (.bool true)) := by
  refine fam_eq (ι := (Nat × Nat) × Nat × Nat) ((a, b), c, d) ⟨ha, hb, hc, hd⟩ ?_
  intro _ _ _
  rfl
set_option maxRecDepth 8000 in
set_option maxHeartbeats 8000000 in
theorem w302t {x y g h : Nat} {lad : Bool} {cn : Int} {sz nx : Nat} {E : List (List D)} {ob : List (Nat × Ob)} (hx : x < 5) (hy : y < 5) (hg : g < 9) (hh : h < 9) (hl : lad = true ↔ g < 5 ∧ h < 5 ∧ g ≠ h) (hc : sgC x y g h cn sz E) :
    awp cl302 (c302r.tail 13) (PureQ [.t 4] (.c (.bool true))) ⟨[(5, .c (.d (.bool true))), (6, .c (.d (.int .i64 (x : Nat)))), (7, .c (.d (.int .i64 (y : Nat)))), (8, .c (.d (.int .i64 (1 + (g : Int))))), (9, .c (.d (.int .i64 (1 + (h : Int))))), (14, .c (.d (.int .i64 cn))), (15, .c (.d (.list sz E))), (16, .c (.d (.bool lad)))], ⟨nx, ob⟩⟩ := by
  have hlad : lad = decide (g < 5 ∧ h < 5 ∧ g ≠ h) := by
    cases lad
    · exact (decide_eq_false fun h => nomatch hl.2 h).symm
    · exact (decide_eq_true (hl.1 rfl)).symm
  unfold c302r
  dsimp only [ACode.tail]
  rcases hc with ⟨p1, p2, p3, rfl⟩ | ⟨p3, rfl, rfl, hE, h0 | ⟨⟨kd, s, f, t, ks⟩, E', rfl, ⟨p1, hs⟩ | ⟨p1, hs⟩⟩⟩
  · have hf : lad = false := by rw [hlad]; exact decide_eq_false (by omega)
    subst hf
    repeat' first
      | refine GoH ?_
      | (refine ZB (ev_gtr_t rfl rfl ?_) ?_; omega)
      | refine ZB rfl ?_|refine ZC rfl ?_
    exact ⟨_, rfl, rfl⟩
  · repeat' first
      | refine GoH ?_
      | (refine ZB (ev_gtr_f rfl rfl ?_) ?_; omega)
      | (refine ZB (ev_neq_f rfl rfl ?_) ?_; omega)
      | (refine ZB (ev_eql_t rfl rfl ?_) ?_; omega)
      | (refine ZB (ev_add rfl rfl ?_ ?_) ?_; omega; omega)
      | refine ZB (ev_lenT hE rfl) ?_
      | refine ZB rfl ?_|refine ZC rfl ?_
    exact ⟨_, rfl, rfl⟩
  · simp only at hs
    subst hs
    by_cases h0 : x = 0
    · rcases Nat.eq_zero_or_pos y with hy0 | hy0
      all_goals
        repeat' first
          | refine GoH ?_
          | (refine ZB (ev_gtr_f rfl rfl ?_) ?_; omega)
          | (refine ZB (ev_gtr_t rfl rfl ?_) ?_; omega)
          | (refine ZB (ev_neq_f rfl rfl ?_) ?_; omega)
          | (refine ZB (ev_eql_t rfl rfl ?_) ?_; omega)
          | (refine ZB (ev_eql_f rfl rfl ?_) ?_; omega)
          | (refine ZB (ev_add rfl rfl ?_ ?_) ?_; omega; omega)
          | refine ZB (ev_lenT hE rfl) ?_
          | refine ZB rfl ?_|refine ZC rfl ?_
        exact ⟨_, rfl, rfl⟩
    · have hf : lad = true := by rw [hlad]; exact decide_eq_true (by omega)
      subst hf
      repeat' first
        | refine GoH ?_
        | (refine ZB (ev_gtr_t rfl rfl ?_) ?_; omega)
        | (refine ZB (ev_neq_f rfl rfl ?_) ?_; omega)
        | (refine ZB (ev_eql_f rfl rfl ?_) ?_; omega)
        | (refine ZB (ev_add rfl rfl ?_ ?_) ?_; omega; omega)
        | refine ZB (ev_lenT hE rfl) ?_
        | refine ZB rfl ?_|refine ZC rfl ?_
      exact ⟨_, rfl, rfl⟩
  · simp only at hs
    subst hs
    by_cases h0 : y = 0
    · repeat' first
        | refine GoH ?_
        | (refine ZB (ev_gtr_t rfl rfl ?_) ?_; omega)
        | (refine ZB (ev_gtr_f rfl rfl ?_) ?_; omega)
        | (refine ZB (ev_neq_f rfl rfl ?_) ?_; omega)
        | (refine ZB (ev_eql_f rfl rfl ?_) ?_; omega)
        | (refine ZB (ev_add rfl rfl ?_ ?_) ?_; omega; omega)
        | refine ZB (ev_lenT hE rfl) ?_
        | refine ZB rfl ?_|refine ZC rfl ?_
      exact ⟨_, rfl, rfl⟩
    · have hf : lad = true := by rw [hlad]; exact decide_eq_true (by omega)
      subst hf
      repeat' first
        | refine GoH ?_
        | (refine ZB (ev_gtr_t rfl rfl ?_) ?_; omega)
        | (refine ZB (ev_gtr_f rfl rfl ?_) ?_; omega)
        | (refine ZB (ev_neq_f rfl rfl ?_) ?_; omega)
        | (refine ZB (ev_eql_f rfl rfl ?_) ?_; omega)
        | (refine ZB (ev_add rfl rfl ?_ ?_) ?_; omega; omega)
        | refine ZB (ev_lenT hE rfl) ?_
        | refine ZB rfl ?_|refine ZC rfl ?_
      exact ⟨_, rfl, rfl⟩
set_option maxRecDepth 8000 in
set_option maxHeartbeats 8000000 in
theorem w302 (x : (Nat × Nat) × Nat × Nat) (hx : x.1.1 < 256 ∧ x.1.2 < 256 ∧ x.2.1 < 256 ∧ x.2.2 < 256) : awp cl302 c302r (PureQ [.t 4] (.c (.bool true))) ⟨argE 0 (dvArgs [.agg [.int .u8 (x.1.1 : Nat), .int .u8 (x.1.2 : Nat)], .agg [.int .u8 (x.2.1 : Nat), .int .u8 (x.2.2 : Nat)]]), ⟨0, []⟩⟩ := by
  obtain ⟨⟨a, b⟩, c, d⟩ := x
  obtain ⟨ha, hb, hc, hd⟩ := hx
  simp only at ha hb hc hd ⊢
  have h310 : G310 [] = some (.c (.bool true)) := rfl
  have hi : a % 5 < 5 := Nat.mod_lt _ (by decide)
  have hk : b % 5 < 5 := Nat.mod_lt _ (by decide)
  have hg : c % 9 < 9 := Nat.mod_lt _ (by decide)
  have hh : d % 9 < 9 := Nat.mod_lt _ (by decide)
  have h311 := T311_eq (sz := 3) (L := sgE (c % 9) (d % 9)) (by show 2 ≤ 500; decide)
  rw [sg_add hg hh] at h311
  have hlen := sgT_len (a % 5) (b % 5)
  have x1 := onB_eq (F := FAll) (sz := 1) (s := sgT (a % 5) (b % 5)) (.inl rfl) (by unfold room; omega)
  rw [FAll_T] at x1
  obtain ⟨cn, sz, E, hc12, hcase⟩ := sg_cnt hg hh hi hk
  have hcnt := hc12 3 5
  clear hc12
  unfold cl302
  unfold envD zs sgE at *
  simp only at h311
  generalize lexT (sgT (a % 5) (b % 5)) = tk at *
  generalize tk.map tkD = t1 at *
  unfold c302r
  repeat' first
    | refine GoH ?_
    | ((with_reducible apply Z1 (f := 6));rfl;rfl;rfl;exact h310;rfl)
    | ((with_reducible apply Z1 (f := 7));rfl;rfl;rfl;exact h311;rfl)
    | refine ZB (ev_arrn (i := 0) rfl rfl (by decide)) ?_
    | refine ZB (ev_arrn (i := 1) rfl rfl (by decide)) ?_
    | refine ZB (ev_toI64 rfl (by omega)) ?_
    | refine ZB (ev_remN2 (b := 5) rfl rfl (by decide)) ?_
    | refine ZB (ev_remN2 (b := 9) rfl rfl (by decide)) ?_
    | refine ZB (ev_add rfl rfl (by omega) (by omega)) ?_
    | refine ZB rfl ?_|refine ZC rfl ?_
  generalize hI : a % 5 = i at *
  generalize hK : b % 5 = k at *
  generalize hG : c % 9 = g at *
  generalize hH : d % 9 = h at *
  refine awp_loop (fun q st => ∃ (x nx : Nat) (ob : List (Nat × Ob)), x ≤ i ∧ i - x < q ∧ look ob 2 = some (.cells (.d (.list 3 ([⟨[45, 95], 1 + (g : Int), 2⟩, ⟨[95, 33], 1 + (h : Int), 1⟩].map opD)) :: rowsC (liftF startF))) ∧
    st = ⟨[(5, .c (.d (.bool true))), (6, .c (.d (.int .i64 (i : Nat)))), (7, .c (.d (.int .i64 (k : Nat)))), (8, .c (.d (.int .i64 (1 + (g : Int))))), (9, .c (.d (.int .i64 (1 + (h : Int))))), (10, .c (.ptr 2 0)), (11, .c (.d (.str (rpF [] [45, 32] x)))), (12, .c (.d (.int .i64 (x : Nat))))], ⟨nx, ob⟩⟩) (i + 1) ?_ (by rintro st ⟨x, _, _, _, _, _⟩; omega) ?_
  · exact weak_keep [5, 6, 7, 8, 9, 10, 11, 12] rfl ⟨0, _, _, by omega, by omega, rfl, rfl⟩
  · rintro q K hK' st ⟨x, nx, ob, hx, hq, hob, rfl⟩
    by_cases hend : x = i
    · subst hend
      repeat' first
        | refine GoH ?_
        | refine ZB (ev_lss_f rfl rfl (by omega)) ?_
        | refine ZB (ev_addsL rfl rfl (rp_le hi) (by decide)) ?_
        | refine ZB rfl ?_|refine ZC rfl ?_
      refine awp_loop (fun q st => ∃ (y nx : Nat) (ob : List (Nat × Ob)), y ≤ k ∧ k - y < q ∧ look ob 2 = some (.cells (.d (.list 3 ([⟨[45, 95], 1 + (g : Int), 2⟩, ⟨[95, 33], 1 + (h : Int), 1⟩].map opD)) :: rowsC (liftF startF))) ∧
        st = ⟨[(5, .c (.d (.bool true))), (6, .c (.d (.int .i64 (x : Nat)))), (7, .c (.d (.int .i64 (k : Nat)))), (8, .c (.d (.int .i64 (1 + (g : Int))))), (9, .c (.d (.int .i64 (1 + (h : Int))))), (10, .c (.ptr 2 0)), (11, .c (.d (.str (sgT x y)))), (13, .c (.d (.int .i64 (y : Nat))))], ⟨nx, ob⟩⟩) (k + 1) ?_ (by rintro st ⟨y, _, _, _, _, _⟩; omega) ?_
      · exact weak_keep [5, 6, 7, 8, 9, 10, 11, 13] rfl ⟨0, _, _, by omega, by omega, hob, rfl⟩
      · rintro q2 K2 hK2 st ⟨y, nx2, ob2, hy, hq2, hob2, rfl⟩
        by_cases hend2 : y = k
        · subst hend2
          have tt := fun (lad : Bool) (hl : lad = true ↔ g < 5 ∧ h < 5 ∧ g ≠ h) => w302t (ob := ob2) (nx := nx2) hi hk hg hh hl hcase
          unfold cl302 c302r at tt
          dsimp only [ACode.tail] at tt
          repeat' first
            | ((with_reducible apply weak_keep [5, 6, 7, 8, 9, 14, 15, 16]); rfl; apply tt; (first | (simp; omega) | omega))
            | refine GoH ?_
            | refine ZB (ev_lss_f rfl rfl (by omega)) ?_
            | (with_reducible first | apply ZS | apply ZT)
            | refine ZY (ev_load rfl hob2 rfl) (by (repeat' first|exact True.intro|refine ⟨?_, ?_⟩|exact .inl rfl|exact .inr (.inl rfl)|exact .inr (.inr rfl)|rfl)) ?_
            | refine ZY (ev_s2b0 rfl (Nat.le_trans (sgT_le hi hk) (by unfold room; omega))) (by (repeat' first|exact True.intro|refine ⟨?_, ?_⟩|exact .inl rfl|exact .inr (.inl rfl)|exact .inr (.inr rfl)|rfl)) ?_
            | refine ZY (ev_pcall rfl rfl x1 rfl rfl) (by (repeat' first|exact True.intro|refine ⟨?_, ?_⟩|exact .inl rfl|exact .inr (.inl rfl)|exact .inr (.inr rfl)|rfl)) ?_
            | refine ZY (ev_pcall rfl rfl hcnt rfl (by split <;> rfl)) (by (repeat' first|exact True.intro|refine ⟨?_, ?_⟩|exact .inl rfl|exact .inr (.inl rfl)|exact .inr (.inr rfl)|rfl)) ?_
            | (with_reducible first|apply ZS|apply ZT)|((with_reducible apply ZU);rfl)|((with_reducible apply ZV);rfl;decide)|((with_reducible apply ZW);rfl)|refine ZX rfl rfl ?_|refine ZY rfl (by (repeat' first|exact True.intro|refine ⟨?_, ?_⟩|exact .inl rfl|exact .inr (.inl rfl)|exact .inr (.inr rfl)|rfl)) ?_
            | (with_reducible refine ZE rfl rfl ?_ ?_ <;> intro _)
            | (with_reducible refine ZI rfl rfl ?_ ?_ <;> intro _)
            | refine ZB rfl ?_|refine ZC rfl ?_
        · repeat' first
            | refine GoH ?_
            | refine ZB (ev_lss_t rfl rfl (by omega)) ?_
            | refine ZB (ev_addsL rfl rfl (sgT_le hi (by omega)) (by decide)) ?_
            | refine ZB (ev_add1N rfl rfl (by omega)) ?_
            | refine ZB rfl ?_|refine ZC rfl ?_
          exact hK2 _ (weak_keep [5, 6, 7, 8, 9, 10, 11, 13] rfl ⟨y + 1, nx2, ob2, by omega, by omega, hob2, rfl⟩)
    · repeat' first
        | refine GoH ?_
        | refine ZB (ev_lss_t rfl rfl (by omega)) ?_
        | refine ZB (ev_addsL rfl rfl (rp_le (by omega)) (by decide)) ?_
        | refine ZB (ev_add1N rfl rfl (by omega)) ?_
        | refine ZB rfl ?_|refine ZC rfl ?_
      exact hK' _ (weak_keep [5, 6, 7, 8, 9, 10, 11, 12] rfl ⟨x + 1, nx, ob, by omega, by omega, hob, rfl⟩)
theorem deriveSigns_ok (m : Int) : PureFn Go.Proofs.Tryd.prog (glb m) 3 T302 := fam_ok (fn302r m) (callOk_cons (pe37 m) (callOk_cons (pok310 m) (callOk_cons (pok311 (p42E m)) (callOk_cons (pok312 m) (callOk_nil _ _))))) w302
end Go.Am
