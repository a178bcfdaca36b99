/-
  The laws of shapes.
-/
import Derived.Test.YtgbefhljbdjncaaDoorMI
namespace Go.Am
open Go
/-! ### Plain laws of shapes -/
theorem cutU_app (c : UInt8) : ∀ s : List UInt8, cutU c (s ++ [c]) = cutU c s ++ [[]]
  | [] => by simp [cutU]
  | b :: r => by
    have ih := cutU_app c r
    simp only [List.cons_append, cutU]
    by_cases h : b = c
    · rw [if_pos h, if_pos h, ih]; rfl
    · rw [if_neg h, if_neg h, ih]
      cases hr : cutU c r with
      | nil => exact absurd hr (cutU_ne c r)
      | cons x y => rfl
theorem mayS_inv {part : List UInt8 → Bool} {p : List (List UInt8)} {l r : Bool} (h : mayS part ⟨p, l, r⟩ = true) : 1 ≤ p.length ∧ p.length ≤ 4 ∧ (p.length = 1 → l = true ∨ r = true) ∧ badS part p = false := by
  refine Decidable.byContradiction fun hn => ?_
  have : mayS part ⟨p, l, r⟩ = false := by
    refine mayS_f ?_
    by_cases h1 : p.length < 1
    · exact .inl h1
    by_cases h2 : 4 < p.length
    · exact .inr (.inl h2)
    by_cases h4 : badS part p = true
    · exact .inr (.inr (.inr h4))
    refine .inr (.inr (.inl ?_))
    by_cases h3 : p.length = 1
    · cases l
      · cases r
        · exact ⟨h3, rfl, rfl⟩
        · exact absurd ⟨by omega, by omega, fun _ => .inr rfl, by simpa using h4⟩ hn
      · exact absurd ⟨by omega, by omega, fun _ => .inl rfl, by simpa using h4⟩ hn
    · exact absurd ⟨by omega, by omega, fun h => (h3 h).elim, by simpa using h4⟩ hn
  rw [this] at h
  cases h
theorem badS_nil {part : List UInt8 → Bool} (hn : part [] = false) {p : List (List UInt8)} (h : [] ∈ p) : badS part p = true := by
  unfold badS
  rw [List.any_eq_true]
  exact ⟨[], h, by rw [hn]; rfl⟩
theorem shapeOf_some {part : List UInt8 → Bool} {s : List UInt8} {v : SV} (h : shapeOf part s = some v) : s.length ≤ 40 ∧ trim (cutU 95 s) = v ∧ mayS part v = true := by
  unfold shapeOf at h
  split at h
  · cases h
  · split at h
    · rename_i hl hm
      have e := Option.some.inj h
      rw [e] at hm
      exact ⟨by omega, e, hm⟩
    · cases h
theorem shapeOf_of {part : List UInt8 → Bool} {s : List UInt8} (hl : s.length ≤ 40) (hm : mayS part (trim (cutU 95 s)) = true) : shapeOf part s = some (trim (cutU 95 s)) := by
  unfold shapeOf
  rw [if_neg (by omega), if_pos hm]
theorem shapeOf_no {part : List UInt8 → Bool} {s : List UInt8} (hm : mayS part (trim (cutU 95 s)) = false) : shapeOf part s = none := by
  unfold shapeOf
  split
  · rfl
  · rw [hm]; rfl
theorem stripR_cases (l : List (List UInt8)) : (∃ q, l = q ++ [[]] ∧ stripR l = (true, q)) ∨ (stripR l = (false, l)) := by
  rcases List.eq_nil_or_concat l with rfl | ⟨q, last, rfl⟩
  · exact .inr rfl
  · rw [List.concat_eq_append, stripR_app]
    by_cases h : last = []
    · subst h; exact .inl ⟨q, rfl, rfl⟩
    · rw [if_neg h]; exact .inr rfl
/-- A hole more at the left end. -/
theorem ends_left {part : List UInt8 → Bool} (hn : part [] = false) {s : List UInt8} {p : List (List UInt8)} {l r : Bool} (h : shapeOf part s = some ⟨p, l, r⟩) (hl : s.length < 40) : shapeOf part (95 :: s) = if l then none else some ⟨p, true, r⟩ := by
  obtain ⟨_, ht, hm⟩ := shapeOf_some h
  obtain ⟨m1, m2, m3, m4⟩ := mayS_inv hm
  have hc : cutU 95 (95 :: s) = [] :: cutU 95 s := by simp [cutU]
  generalize hP : cutU 95 s = P at *
  cases P with
  | nil => exact absurd hP (cutU_ne _ _)
  | cons p0 rest =>
    unfold trim at ht
    rw [stripL_cons] at ht
    have e0 : stripL ([] :: p0 :: rest) = (true, p0 :: rest) := rfl
    by_cases h0 : p0 = []
    · subst h0
      simp only [if_true] at ht
      injection ht with t1 t2 t3
      subst t2
      simp only [if_true]
      refine shapeOf_no ?_
      rw [hc]
      unfold trim
      rw [e0]
      refine mayS_f (.inr (.inr (.inr (badS_nil hn ?_))))
      simp only
      rcases stripR_cases rest with ⟨q, rfl, hq⟩ | hq
      · rw [show ([] : List UInt8) :: (q ++ [[]]) = ([] :: q) ++ [[]] by rfl, stripR_app]
        simp
      · rcases List.eq_nil_or_concat rest with rfl | ⟨q, last, rfl⟩
        · rw [hq] at t1
          simp at t1
          subst t1
          simp at m1
        · rw [List.concat_eq_append] at hq ⊢
          rw [show ([] : List UInt8) :: (q ++ [last]) = ([] :: q) ++ [last] by rfl, stripR_app]
          split <;> simp
    · rw [if_neg h0] at ht
      simp only at ht
      injection ht with t1 t2 t3
      subst t2
      have e1 : trim (cutU 95 (95 :: s)) = ⟨p, true, r⟩ := by
        rw [hc]
        unfold trim
        rw [e0]
        simp only [t1, t3]
      have := shapeOf_of (part := part) (s := 95 :: s) (by simp; omega) (by rw [e1]; exact mayS_t m1 m2 (fun _ => .inl rfl) m4)
      rw [this, e1]
      rfl
/-- A hole more at the right end. -/
theorem ends_right {part : List UInt8 → Bool} (hn : part [] = false) {s : List UInt8} {p : List (List UInt8)} {l r : Bool} (h : shapeOf part s = some ⟨p, l, r⟩) (hl : s.length < 40) : shapeOf part (s ++ [95]) = if r then none else some ⟨p, l, true⟩ := by
  obtain ⟨_, ht, hm⟩ := shapeOf_some h
  obtain ⟨m1, m2, m3, m4⟩ := mayS_inv hm
  have hc := cutU_app 95 s
  generalize hP : cutU 95 s = P at *
  cases P with
  | nil => exact absurd hP (cutU_ne _ _)
  | cons p0 rest =>
    have e0 : stripL ((p0 :: rest) ++ [[]]) = ((stripL (p0 :: rest)).1, (stripL (p0 :: rest)).2 ++ [[]]) := by
      rw [stripL_cons, List.cons_append, stripL_cons]
      by_cases h0 : p0 = []
      · rw [if_pos h0, if_pos h0]
      · rw [if_neg h0, if_neg h0]; rfl
    have e1 : trim (cutU 95 (s ++ [95])) = ⟨(stripL (p0 :: rest)).2, (stripL (p0 :: rest)).1, true⟩ := by
      rw [hc]
      unfold trim
      rw [e0]
      simp only
      rw [stripR_app]
      rfl
    unfold trim at ht
    injection ht with t1 t2 t3
    rcases stripR_cases (stripL (p0 :: rest)).2 with ⟨q, hq1, hq2⟩ | hq
    · rw [hq2] at t1 t3
      simp only at t1 t3
      subst t3
      simp only [if_true]
      refine shapeOf_no ?_
      rw [e1]
      refine mayS_f (.inr (.inr (.inr (badS_nil hn ?_))))
      rw [hq1]
      simp
    · rw [hq] at t1 t3
      simp only at t1 t3
      subst t3
      rw [t1, t2] at e1
      have := shapeOf_of (part := part) (s := s ++ [95]) (by simp; omega) (by rw [e1]; exact mayS_t m1 m2 (fun _ => .inr rfl) m4)
      rw [this, e1]
      rfl

/-! ### What is a part, at some texts -/
theorem partV_single {G : List DV → Option DV} (hG : KB R37 G) {s : List UInt8} {k : Int} (hr : s.length ≤ room) (h : single s k) (hk : (k == 1 || k == 2 || k == 6) = true) : partV G s = (!decide (0 ≤ Lib.indexByte s 95) && !hasS bads s) := by
  obtain ⟨r, h1, l, rfl, _, _, h2⟩ := hG 1 s (.inl rfl) hr
  rw [h2 k h] at h1
  rw [partV_one h1, hk]
  simp
theorem partV_nil {G : List DV → Option DV} (hG : KB R37 G) : partV G [] = false := by
  obtain ⟨r, h1, l, rfl, _, h2, _⟩ := hG 1 [] (.inl rfl) (Nat.zero_le _)
  rw [h2 rfl] at h1
  unfold partV
  rw [h1]
end Go.Am
namespace Go.Am
open Go
def G18 : List DV → Option DV
  | [.c (.str s)] => some (.c (.str (s.take 60)))
  | _ => none
theorem ev_min {cl : Call} {e : Env} {h : Hp} {x y : Opd} {k k' : IntKind} {a b : Int} (hx : ev e x = .c (.d (.int k a))) (hy : ev e y = .c (.d (.int k' b))) : eval cl e h (.min x y) = some (.c (.d (.int k (if b < a then b else a))), h) := by
  simp only [eval, hx, hy]
set_option maxRecDepth 8000 in
theorem w18 (ds : List DV) (r : DV) (h : G18 ds = some r) : awp (tbl []) c18 (PureQ [.t 2] r) ⟨argE 0 (dvArgs ds), ⟨0, []⟩⟩ := by
  unfold G18 at h
  split at h
  · rename_i s
    cases h
    unfold c18
    have hm : (if (60 : Int) < s.length then (60 : Int) else s.length) = ((s.take 60).length : Nat) := by
      rw [List.length_take]
      split <;> omega
    have he : ∀ e hp x y, ev e x = .c (.d (.str s)) → ev e y = .c (.d (.int .i64 (if (60 : Int) < s.length then (60 : Int) else s.length))) → eval (tbl []) e hp (.substr x none (some y)) = some (.c (.d (.str (s.take 60))), hp) := by
      intro e hp x y hx hy
      rw [hm] at hy
      have hy' : hiOf e s.length (some y) = some (((s.take 60).length : Nat) : Int) := by
        show asInt (ev e y) = _
        rw [hy]
        rfl
      rw [ev_sub_s (lo := none) hx rfl hy' (by decide) (by omega) (by rw [List.length_take]; omega)]
      have : (List.drop (0 : Int).toNat (List.take (((s.take 60).length : Nat) : Int).toNat s)) = s.take 60 := by
        rw [Int.toNat_natCast]
        simp
      rw [this]
    repeat' first
      | refine step_op (ev_min rfl rfl) ?_
      | refine step_op (he _ _ _ _ rfl rfl) ?_
      |  with_reducible refine awp_seq ?_ | with_reducible refine awp_region ?_ | with_reducible refine ops_nil ?_ | with_reducible refine seqK_n ?_ | with_reducible refine seqK_r ?_ | with_reducible refine seqK_e ?_ | with_reducible refine weak_id ?_ | with_reducible refine awp_ret ?_ | with_reducible refine awp_skip ?_ | with_reducible refine awp_exit ?_ | with_reducible refine awp_block ?_ | with_reducible refine blkK_n ?_ | with_reducible refine blkK_r ?_ | with_reducible refine blkK_e ?_ | with_reducible refine awp_goto ?_ | with_reducible refine jmpK_n ?_ | with_reducible refine jmpK_r ?_ | with_reducible refine jmpK_e ?_ | with_reducible refine jmpK_g ?_ | with_reducible refine seqK_g ?_ | with_reducible refine blkK_g ?_ | (with_reducible refine blkK_o (by decide) ?_) | ((with_reducible apply step_go); rfl) | ((with_reducible apply step_skip); rfl; decide) | ((with_reducible apply step_skip_u); rfl) | ((with_reducible apply awp_cond_t); rfl) | ((with_reducible apply awp_cond_f); rfl) | refine step_op rfl ?_ | refine step_op0 rfl ?_
    exact ⟨_, rfl, rfl⟩
  · cases h
theorem pok18 (m : Int) : PureOk Go.Proofs.Tryd.prog (glb m) 18 G18 := pure_ok (fn18 m) (callOk_nil _ _) w18

theorem single_if : single [105, 102] 1 := ⟨105, rfl, .inl ⟨by decide, rfl, by decide⟩⟩
theorem single_then : single [116, 104, 101, 110] 1 := ⟨116, rfl, .inl ⟨by decide, rfl, by decide⟩⟩
theorem single_not : single [33] 2 := ⟨33, rfl, .inr (.inl ⟨by decide, rfl, by decide, by decide, by decide⟩)⟩
section
variable {G : List DV → Option DV}
theorem part_if (hG : KB R37 G) : partV G [105, 102] = true := by rw [partV_single hG (by decide) single_if (by decide)]; decide
theorem part_then (hG : KB R37 G) : partV G [116, 104, 101, 110] = true := by rw [partV_single hG (by decide) single_then (by decide)]; decide
theorem part_not (hG : KB R37 G) : partV G [33] = true := by rw [partV_single hG (by decide) single_not (by decide)]; decide
theorem shape_if (hG : KB R37 G) : shapeOf (partV G) [105, 102, 95, 116, 104, 101, 110, 95] = some ⟨[[105, 102], [116, 104, 101, 110]], false, true⟩ := by
  have e : trim (cutU 95 [105, 102, 95, 116, 104, 101, 110, 95]) = ⟨[[105, 102], [116, 104, 101, 110]], false, true⟩ := rfl
  rw [shapeOf_of (by decide) (by rw [e]; exact mayS_t (by decide) (by decide) (fun h => by cases h) (by simp [badS, part_if hG, part_then hG])), e]
theorem shape_not (hG : KB R37 G) : shapeOf (partV G) [95, 33] = some ⟨[[33]], true, false⟩ := by
  have e : trim (cutU 95 [95, 33]) = ⟨[[33]], true, false⟩ := rfl
  rw [shapeOf_of (by decide) (by rw [e]; exact mayS_t (by decide) (by decide) (fun _ => .inl rfl) (by simp [badS, part_not hG])), e]
theorem shape_ab (hG : KB R37 G) : shapeOf (partV G) [97, 95, 95, 98] = none := by
  have e : trim (cutU 95 [97, 95, 95, 98]) = ⟨[[97], [], [98]], false, false⟩ := rfl
  exact shapeOf_no (by rw [e]; exact mayS_f (.inr (.inr (.inr (badS_nil (partV_nil hG) (by simp))))))
theorem shape_a : shapeOf (partV G) [97] = none := by
  have e : trim (cutU 95 [97]) = ⟨[[97]], false, false⟩ := rfl
  exact shapeOf_no (by rw [e]; exact mayS_f (.inr (.inr (.inl ⟨rfl, rfl, rfl⟩))))
end
def G17 : List DV → Option DV
  | [] => some (.c (.bool true))
  | _ => none
set_option maxRecDepth 8000 in
set_option maxHeartbeats 4000000 in
theorem w17 {G : List DV → Option DV} (hG : KB R37 G) (ds : List DV) (r : DV) (h : G17 ds = some r) : awp (tbl [(19, G19 (partV G))]) c17 (PureQ [.t 0] r) ⟨argE 0 (dvArgs ds), ⟨0, []⟩⟩ := by
  unfold G17 at h
  split at h
  · cases h
    have h1 : G19 (partV G) [.c (.str [105, 102, 95, 116, 104, 101, 110, 95])] = some (.tup [.agg [.list 1 [[.str [105, 102]], [.str [116, 104, 101, 110]]], .bool false, .bool true], .c (.int .i64 0)]) := by simp only [G19, shape_if hG]; rfl
    have h2 : G19 (partV G) [.c (.str [95, 33])] = some (.tup [.agg [.list 1 [[.str [33]]], .bool true, .bool false], .c (.int .i64 0)]) := by simp only [G19, shape_not hG]; rfl
    have h3 : G19 (partV G) [.c (.str [97, 95, 95, 98])] = some (.tup [.agg [.list 0 [], .bool false, .bool false], .c (.int .i64 23)]) := by simp only [G19, shape_ab hG]; rfl
    have h4 : G19 (partV G) [.c (.str [97])] = some (.tup [.agg [.list 0 [], .bool false, .bool false], .c (.int .i64 23)]) := by simp only [G19, shape_a (G := G)]; rfl
    unfold c17
    repeat' first
      | ((with_reducible apply step_pc (f := 19)); rfl; rfl; rfl; exact h1; rfl)
      | ((with_reducible apply step_pc (f := 19)); rfl; rfl; rfl; exact h2; rfl)
      | ((with_reducible apply step_pc (f := 19)); rfl; rfl; rfl; exact h3; rfl)
      | ((with_reducible apply step_pc (f := 19)); rfl; rfl; rfl; exact h4; rfl)
      |  with_reducible refine awp_seq ?_ | with_reducible refine awp_region ?_ | with_reducible refine ops_nil ?_ | with_reducible refine seqK_n ?_ | with_reducible refine seqK_r ?_ | with_reducible refine seqK_e ?_ | with_reducible refine weak_id ?_ | with_reducible refine awp_ret ?_ | with_reducible refine awp_skip ?_ | with_reducible refine awp_exit ?_ | with_reducible refine awp_block ?_ | with_reducible refine blkK_n ?_ | with_reducible refine blkK_r ?_ | with_reducible refine blkK_e ?_ | with_reducible refine awp_goto ?_ | with_reducible refine jmpK_n ?_ | with_reducible refine jmpK_r ?_ | with_reducible refine jmpK_e ?_ | with_reducible refine jmpK_g ?_ | with_reducible refine seqK_g ?_ | with_reducible refine blkK_g ?_ | (with_reducible refine blkK_o (by decide) ?_) | ((with_reducible apply step_go); rfl) | ((with_reducible apply step_skip); rfl; decide) | ((with_reducible apply step_skip_u); rfl) | ((with_reducible apply awp_cond_t); rfl) | ((with_reducible apply awp_cond_f); rfl) | refine step_op rfl ?_ | refine step_op0 rfl ?_
    exact ⟨_, rfl, rfl⟩
  · cases h
theorem pok17 {m : Int} {G : List DV → Option DV} (hG : KB R37 G) (h : PureOk Go.Proofs.Tryd.prog (glb m) 19 (G19 (partV G))) : PureOk Go.Proofs.Tryd.prog (glb m) 17 G17 := pure_ok (fn17 m) (callOk_cons h (callOk_nil _ _)) (w17 hG)

theorem ev_adds {cl : Call} {e : Env} {h : Hp} {x y : Opd} {s t : List UInt8} (hx : ev e x = .c (.d (.str s))) (hy : ev e y = .c (.d (.str t))) (hl : s.length + t.length ≤ 9223372036854775807) : eval cl e h (.bin .add x y) = some (.c (.d (.str (s ++ t))), h) := by
  simp only [eval, hx, hy, binV, binD, binStr, if_pos hl]
def G3 : List DV → Option DV
  | [.c (.str _), .c (.bool _)] => some (.c (.bool true))
  | _ => none
set_option maxRecDepth 8000 in
set_option maxHeartbeats 8000000 in
theorem w3 {G : List DV → Option DV} (hG : KB R37 G) (ds : List DV) (r : DV) (h : G3 ds = some r) : awp (tbl [(17, G17), (18, G18), (19, G19 (partV G))]) c3 (PureQ [.t 4] r) ⟨argE 0 (dvArgs ds), ⟨0, []⟩⟩ := by
  unfold G3 at h
  split at h
  · rename_i s right
    cases h
    have h17 : G17 [] = some (.c (.bool true)) := rfl
    have h18 : G18 [.c (.str s)] = some (.c (.str (s.take 60))) := rfl
    generalize s.take 60 = p at h18
    cases hS : shapeOf (partV G) p with
    | none =>
      have h19 : G19 (partV G) [.c (.str p)] = some (.tup [.agg [.list 0 [], .bool false, .bool false], .c (.int .i64 23)]) := by simp only [G19, hS]; rfl
      unfold c3
      repeat' first
        |  with_reducible refine awp_seq ?_ | with_reducible refine awp_region ?_ | with_reducible refine ops_nil ?_ | with_reducible refine seqK_n ?_ | with_reducible refine seqK_r ?_ | with_reducible refine seqK_e ?_ | with_reducible refine weak_id ?_ | with_reducible refine awp_ret ?_ | with_reducible refine awp_skip ?_ | with_reducible refine awp_exit ?_ | with_reducible refine awp_block ?_ | with_reducible refine blkK_n ?_ | with_reducible refine blkK_r ?_ | with_reducible refine blkK_e ?_ | with_reducible refine awp_goto ?_ | with_reducible refine jmpK_n ?_ | with_reducible refine jmpK_r ?_ | with_reducible refine jmpK_e ?_ | with_reducible refine jmpK_g ?_ | with_reducible refine seqK_g ?_ | with_reducible refine blkK_g ?_ | (with_reducible refine blkK_o (by decide) ?_) | ((with_reducible apply step_go); rfl) | ((with_reducible apply step_skip); rfl; decide) | ((with_reducible apply step_skip_u); rfl) | ((with_reducible apply awp_cond_t); rfl) | ((with_reducible apply awp_cond_f); rfl) | ((with_reducible apply step_lss); rfl; rfl; all_goals (intro hc; first | (exfalso; omega) | skip)) | ((with_reducible apply step_leq); rfl; rfl; all_goals (intro hc; first | (exfalso; omega) | skip)) | ((with_reducible apply step_gtr); rfl; rfl; all_goals (intro hc; first | (exfalso; omega) | skip)) | ((with_reducible apply step_geq); rfl; rfl; all_goals (intro hc; first | (exfalso; omega) | skip)) | ((with_reducible apply step_eql); rfl; rfl; all_goals (intro hc; first | (exfalso; omega) | skip)) | ((with_reducible apply step_neq); rfl; rfl; all_goals (intro hc; first | (exfalso; omega) | skip)) | ((with_reducible apply step_eqs); rfl; rfl; all_goals (intro hc; first | contradiction | skip)) | ((with_reducible apply step_nes); rfl; rfl; all_goals (intro hc; first | contradiction | skip)) | ((with_reducible apply step_addi); rfl; rfl; omega; omega) | ((with_reducible apply step_subi); rfl; rfl; omega; omega) | ((with_reducible apply step_byte); rfl; rfl; omega; omega; intro c hget hc) | ((with_reducible apply step_char); rfl; rfl; omega; omega; intro c hget hc) | ((with_reducible apply step_slb); rfl; (first | exact .inl rfl | assumption); rfl; rfl; omega; omega; omega; intro s' hs' hl') | ((with_reducible apply step_sub_s); rfl; rfl; rfl; omega; omega; omega; intro s' hs' hl') | ((with_reducible apply step_bs); rfl)
        | ((with_reducible apply step_pc (f := 17)); rfl; rfl; rfl; exact h17; rfl)
        | ((with_reducible apply step_pc (f := 18)); rfl; rfl; rfl; exact h18; rfl)
        | ((with_reducible apply step_pc (f := 19)); rfl; rfl; rfl; exact h19; rfl)
        |  with_reducible refine awp_seq ?_ | with_reducible refine awp_region ?_ | with_reducible refine ops_nil ?_ | with_reducible refine seqK_n ?_ | with_reducible refine seqK_r ?_ | with_reducible refine seqK_e ?_ | with_reducible refine weak_id ?_ | with_reducible refine awp_ret ?_ | with_reducible refine awp_skip ?_ | with_reducible refine awp_exit ?_ | with_reducible refine awp_block ?_ | with_reducible refine blkK_n ?_ | with_reducible refine blkK_r ?_ | with_reducible refine blkK_e ?_ | with_reducible refine awp_goto ?_ | with_reducible refine jmpK_n ?_ | with_reducible refine jmpK_r ?_ | with_reducible refine jmpK_e ?_ | with_reducible refine jmpK_g ?_ | with_reducible refine seqK_g ?_ | with_reducible refine blkK_g ?_ | (with_reducible refine blkK_o (by decide) ?_) | ((with_reducible apply step_go); rfl) | ((with_reducible apply step_skip); rfl; decide) | ((with_reducible apply step_skip_u); rfl) | ((with_reducible apply awp_cond_t); rfl) | ((with_reducible apply awp_cond_f); rfl) | refine step_op rfl ?_ | refine step_op0 rfl ?_
      exact ⟨_, rfl, rfl⟩
    | some v =>
      obtain ⟨ps, l, rr⟩ := v
      have h19 : G19 (partV G) [.c (.str p)] = some (.tup [.agg [.list 1 (ofStrs ps), .bool l, .bool rr], .c (.int .i64 0)]) := by simp only [G19, hS]; rfl
      by_cases hlen : 40 ≤ p.length
      · unfold c3
        repeat' first
          |  with_reducible refine awp_seq ?_ | with_reducible refine awp_region ?_ | with_reducible refine ops_nil ?_ | with_reducible refine seqK_n ?_ | with_reducible refine seqK_r ?_ | with_reducible refine seqK_e ?_ | with_reducible refine weak_id ?_ | with_reducible refine awp_ret ?_ | with_reducible refine awp_skip ?_ | with_reducible refine awp_exit ?_ | with_reducible refine awp_block ?_ | with_reducible refine blkK_n ?_ | with_reducible refine blkK_r ?_ | with_reducible refine blkK_e ?_ | with_reducible refine awp_goto ?_ | with_reducible refine jmpK_n ?_ | with_reducible refine jmpK_r ?_ | with_reducible refine jmpK_e ?_ | with_reducible refine jmpK_g ?_ | with_reducible refine seqK_g ?_ | with_reducible refine blkK_g ?_ | (with_reducible refine blkK_o (by decide) ?_) | ((with_reducible apply step_go); rfl) | ((with_reducible apply step_skip); rfl; decide) | ((with_reducible apply step_skip_u); rfl) | ((with_reducible apply awp_cond_t); rfl) | ((with_reducible apply awp_cond_f); rfl) | ((with_reducible apply step_lss); rfl; rfl; all_goals (intro hc; first | (exfalso; omega) | skip)) | ((with_reducible apply step_leq); rfl; rfl; all_goals (intro hc; first | (exfalso; omega) | skip)) | ((with_reducible apply step_gtr); rfl; rfl; all_goals (intro hc; first | (exfalso; omega) | skip)) | ((with_reducible apply step_geq); rfl; rfl; all_goals (intro hc; first | (exfalso; omega) | skip)) | ((with_reducible apply step_eql); rfl; rfl; all_goals (intro hc; first | (exfalso; omega) | skip)) | ((with_reducible apply step_neq); rfl; rfl; all_goals (intro hc; first | (exfalso; omega) | skip)) | ((with_reducible apply step_eqs); rfl; rfl; all_goals (intro hc; first | contradiction | skip)) | ((with_reducible apply step_nes); rfl; rfl; all_goals (intro hc; first | contradiction | skip)) | ((with_reducible apply step_addi); rfl; rfl; omega; omega) | ((with_reducible apply step_subi); rfl; rfl; omega; omega) | ((with_reducible apply step_byte); rfl; rfl; omega; omega; intro c hget hc) | ((with_reducible apply step_char); rfl; rfl; omega; omega; intro c hget hc) | ((with_reducible apply step_slb); rfl; (first | exact .inl rfl | assumption); rfl; rfl; omega; omega; omega; intro s' hs' hl') | ((with_reducible apply step_sub_s); rfl; rfl; rfl; omega; omega; omega; intro s' hs' hl') | ((with_reducible apply step_bs); rfl)
          | ((with_reducible apply step_pc (f := 17)); rfl; rfl; rfl; exact h17; rfl)
          | ((with_reducible apply step_pc (f := 18)); rfl; rfl; rfl; exact h18; rfl)
          | ((with_reducible apply step_pc (f := 19)); rfl; rfl; rfl; exact h19; rfl)
          |  with_reducible refine awp_seq ?_ | with_reducible refine awp_region ?_ | with_reducible refine ops_nil ?_ | with_reducible refine seqK_n ?_ | with_reducible refine seqK_r ?_ | with_reducible refine seqK_e ?_ | with_reducible refine weak_id ?_ | with_reducible refine awp_ret ?_ | with_reducible refine awp_skip ?_ | with_reducible refine awp_exit ?_ | with_reducible refine awp_block ?_ | with_reducible refine blkK_n ?_ | with_reducible refine blkK_r ?_ | with_reducible refine blkK_e ?_ | with_reducible refine awp_goto ?_ | with_reducible refine jmpK_n ?_ | with_reducible refine jmpK_r ?_ | with_reducible refine jmpK_e ?_ | with_reducible refine jmpK_g ?_ | with_reducible refine seqK_g ?_ | with_reducible refine blkK_g ?_ | (with_reducible refine blkK_o (by decide) ?_) | ((with_reducible apply step_go); rfl) | ((with_reducible apply step_skip); rfl; decide) | ((with_reducible apply step_skip_u); rfl) | ((with_reducible apply awp_cond_t); rfl) | ((with_reducible apply awp_cond_f); rfl) | refine step_op rfl ?_ | refine step_op0 rfl ?_
        exact ⟨_, rfl, rfl⟩
      · have hL := ends_left (partV_nil hG) hS (by omega)
        have hR := ends_right (partV_nil hG) hS (by omega)
        have hbad : ∀ q, shapeOf (partV G) q = none → G19 (partV G) [.c (.str q)] = some (.tup [.agg [.list 0 [], .bool false, .bool false], .c (.int .i64 23)]) := fun q hq => by simp only [G19, hq]; rfl
        have hgood : ∀ q ps l r, shapeOf (partV G) q = some ⟨ps, l, r⟩ → G19 (partV G) [.c (.str q)] = some (.tup [.agg [.list 1 (ofStrs ps), .bool l, .bool r], .c (.int .i64 0)]) := fun q ps l r hq => by simp only [G19, hq]; rfl
        cases right <;> cases l <;> cases rr <;>
        (simp only [if_true, Bool.false_eq_true, if_false] at hL hR
         unfold c3
         repeat' first
          |  with_reducible refine awp_seq ?_ | with_reducible refine awp_region ?_ | with_reducible refine ops_nil ?_ | with_reducible refine seqK_n ?_ | with_reducible refine seqK_r ?_ | with_reducible refine seqK_e ?_ | with_reducible refine weak_id ?_ | with_reducible refine awp_ret ?_ | with_reducible refine awp_skip ?_ | with_reducible refine awp_exit ?_ | with_reducible refine awp_block ?_ | with_reducible refine blkK_n ?_ | with_reducible refine blkK_r ?_ | with_reducible refine blkK_e ?_ | with_reducible refine awp_goto ?_ | with_reducible refine jmpK_n ?_ | with_reducible refine jmpK_r ?_ | with_reducible refine jmpK_e ?_ | with_reducible refine jmpK_g ?_ | with_reducible refine seqK_g ?_ | with_reducible refine blkK_g ?_ | (with_reducible refine blkK_o (by decide) ?_) | ((with_reducible apply step_go); rfl) | ((with_reducible apply step_skip); rfl; decide) | ((with_reducible apply step_skip_u); rfl) | ((with_reducible apply awp_cond_t); rfl) | ((with_reducible apply awp_cond_f); rfl) | ((with_reducible apply step_lss); rfl; rfl; all_goals (intro hc; first | (exfalso; omega) | skip)) | ((with_reducible apply step_leq); rfl; rfl; all_goals (intro hc; first | (exfalso; omega) | skip)) | ((with_reducible apply step_gtr); rfl; rfl; all_goals (intro hc; first | (exfalso; omega) | skip)) | ((with_reducible apply step_geq); rfl; rfl; all_goals (intro hc; first | (exfalso; omega) | skip)) | ((with_reducible apply step_eql); rfl; rfl; all_goals (intro hc; first | (exfalso; omega) | skip)) | ((with_reducible apply step_neq); rfl; rfl; all_goals (intro hc; first | (exfalso; omega) | skip)) | ((with_reducible apply step_eqs); rfl; rfl; all_goals (intro hc; first | contradiction | skip)) | ((with_reducible apply step_nes); rfl; rfl; all_goals (intro hc; first | contradiction | skip)) | ((with_reducible apply step_addi); rfl; rfl; omega; omega) | ((with_reducible apply step_subi); rfl; rfl; omega; omega) | ((with_reducible apply step_byte); rfl; rfl; omega; omega; intro c hget hc) | ((with_reducible apply step_char); rfl; rfl; omega; omega; intro c hget hc) | ((with_reducible apply step_slb); rfl; (first | exact .inl rfl | assumption); rfl; rfl; omega; omega; omega; intro s' hs' hl') | ((with_reducible apply step_sub_s); rfl; rfl; rfl; omega; omega; omega; intro s' hs' hl') | ((with_reducible apply step_bs); rfl)
          | ((with_reducible apply step_pc (f := 17)); rfl; rfl; rfl; exact h17; rfl)
          | ((with_reducible apply step_pc (f := 18)); rfl; rfl; rfl; exact h18; rfl)
          | ((with_reducible apply step_pc (f := 19)); rfl; rfl; rfl; exact h19; rfl)
          | ((with_reducible apply step_pc (f := 19)); rfl; rfl; rfl; exact (hbad _ hL); rfl)
          | ((with_reducible apply step_pc (f := 19)); rfl; rfl; rfl; exact (hbad _ hR); rfl)
          | ((with_reducible apply step_pc (f := 19)); rfl; rfl; rfl; exact (hgood _ _ _ _ hL); rfl)
          | ((with_reducible apply step_pc (f := 19)); rfl; rfl; rfl; exact (hgood _ _ _ _ hR); rfl)
          | refine step_op (ev_adds rfl rfl (by simp only [List.length_cons, List.length_nil]; omega)) ?_
          |  with_reducible refine awp_seq ?_ | with_reducible refine awp_region ?_ | with_reducible refine ops_nil ?_ | with_reducible refine seqK_n ?_ | with_reducible refine seqK_r ?_ | with_reducible refine seqK_e ?_ | with_reducible refine weak_id ?_ | with_reducible refine awp_ret ?_ | with_reducible refine awp_skip ?_ | with_reducible refine awp_exit ?_ | with_reducible refine awp_block ?_ | with_reducible refine blkK_n ?_ | with_reducible refine blkK_r ?_ | with_reducible refine blkK_e ?_ | with_reducible refine awp_goto ?_ | with_reducible refine jmpK_n ?_ | with_reducible refine jmpK_r ?_ | with_reducible refine jmpK_e ?_ | with_reducible refine jmpK_g ?_ | with_reducible refine seqK_g ?_ | with_reducible refine blkK_g ?_ | (with_reducible refine blkK_o (by decide) ?_) | ((with_reducible apply step_go); rfl) | ((with_reducible apply step_skip); rfl; decide) | ((with_reducible apply step_skip_u); rfl) | ((with_reducible apply awp_cond_t); rfl) | ((with_reducible apply awp_cond_f); rfl) | refine step_op rfl ?_ | refine step_op0 rfl ?_
         exact ⟨_, rfl, rfl⟩)
  · cases h
/-- THE LAW's FUNCTION: true, of any text and any end. -/
theorem shapeEnds_ok (m : Int) : PureFn Go.Proofs.Tryd.prog (glb m) 3 G3 := by
  obtain ⟨G, p37, hG⟩ := lexAll m
  have p46 := pok46 (.inl p37) hG
  have p19 := pok19 (pok47 (pok63 (pok45 p46)))
  exact pure_fn (fn3 m) (callOk_cons (pok17 hG p19) (callOk_cons (pok18 m) (callOk_cons p19 (callOk_nil _ _)))) (w3 hG)
end Go.Am
