/-
  ShapeMade: the law's function comes to true, whatever it is given.
-/
import Derived.Test.YtgbefhljbdjncaaDoorML
namespace Go.Am
open Go
theorem cutU_none : ∀ s : List UInt8, (∀ b ∈ s, b ≠ 95) → cutU 95 s = [s]
  | [], _ => rfl
  | b :: r, h => by
    have ih := cutU_none r (fun b hb => h b (by simp [hb]))
    simp only [cutU]
    rw [if_neg (h b (by simp)), ih]
theorem cutU_sep : ∀ (x t : List UInt8), (∀ b ∈ x, b ≠ 95) → cutU 95 (x ++ 95 :: t) = x :: cutU 95 t
  | [], t, _ => by simp [cutU]
  | b :: r, t, h => by
    have ih := cutU_sep r t (fun b hb => h b (by simp [hb]))
    simp only [List.cons_append, cutU]
    rw [if_neg (h b (by simp)), ih]
theorem cutU_join : ∀ ss : List (List UInt8), ss ≠ [] → (∀ s ∈ ss, ∀ b ∈ s, b ≠ 95) → cutU 95 (joinOf ss [95]) = ss
  | [], h, _ => (h rfl).elim
  | [x], _, h => by rw [join_single, cutU_none x (h x (by simp))]
  | x :: y :: r, _, h => by
    rw [join_cons2, cutU_sep x _ (h x (by simp)), cutU_join (y :: r) (by simp) (fun s hs => h s (by simp at hs ⊢; exact .inr hs))]
theorem cut_text {ss : List (List UInt8)} {l r : Bool} (hne : ss ≠ []) (h : ∀ s ∈ ss, s ≠ [] ∧ ∀ b ∈ s, b ≠ 95) : trim (cutU 95 (textOf ⟨ss, l, r⟩)) = ⟨ss, l, r⟩ := by
  have hj := cutU_join ss hne (fun s hs => (h s hs).2)
  have e1 : cutU 95 (joinOf ss [95] ++ (if r = true then [95] else [])) = ss ++ (if r = true then [[]] else []) := by
    cases r
    · simp [hj]
    · simp only [if_true]
      rw [cutU_app, hj]
  have e2 : cutU 95 (textOf ⟨ss, l, r⟩) = (if l = true then [[]] else []) ++ (ss ++ (if r = true then [[]] else [])) := by
    unfold textOf
    simp only [List.append_assoc]
    cases l
    · simp only [Bool.false_eq_true, if_false, List.nil_append]
      exact e1
    · simp only [if_true, List.singleton_append, cutU]
      rw [e1]
  rw [e2]
  have hL : stripL ((if l = true then [[]] else []) ++ (ss ++ (if r = true then [[]] else []))) = (l, ss ++ (if r = true then [[]] else [])) := by
    cases l
    · simp only [Bool.false_eq_true, if_false, List.nil_append]
      cases ss with
      | nil => exact (hne rfl).elim
      | cons x y =>
        rw [List.cons_append, stripL_cons, if_neg (h x (by simp)).1]
    · rfl
  have hR : stripR (ss ++ (if r = true then [[]] else [])) = (r, ss) := by
    cases r
    · simp only [Bool.false_eq_true, if_false, List.append_nil]
      rcases List.eq_nil_or_concat ss with rfl | ⟨q, last, rfl⟩
      · exact (hne rfl).elim
      · rw [List.concat_eq_append, stripR_app, if_neg (h last (by simp)).1]
    · simp only [if_true]
      rw [stripR_app]
      rfl
  unfold trim
  rw [hL]
  simp only [hR]
end Go.Am
namespace Go.Am.M
open Go Go.Am
theorem lower_class : ∀ n : Nat, n < 256 → 97 ≤ n → n ≤ 122 → classOf (UInt8.ofNat n) = 2 := by decide +kernel
theorem lower_is {b : UInt8} (h1 : 97 ≤ b.toNat) (h2 : b.toNat ≤ 122) : classOf b = 2 := by
  have := lower_class b.toNat (UInt8.toNat_lt b) h1 h2
  have e : UInt8.ofNat b.toNat = b := by simp
  rw [e] at this
  exact this
theorem no95_idx {s : List UInt8} (h : ∀ b ∈ s, b ≠ 95) : Lib.indexByte s 95 < 0 := by
  refine Decidable.byContradiction fun hn => ?_
  have := (Lib.indexByte_some (l := s) (c := 95) (o := (Lib.indexByte s 95).toNat) (by omega)).1
  exact h 95 (List.mem_of_getElem? this) rfl
theorem ev_rem8 {cl : Call} {e : Env} {h : Hp} {x y : Opd} {a b : Int} (hx : ev e x = .c (.d (.int .u8 a))) (hy : ev e y = .c (.d (.int .u8 b))) (h0 : 0 ≤ a) (hb : b ≠ 0) : eval cl e h (.bin .rem x y) = some (.c (.d (.int .u8 (a % b))), h) := by
  have : a.tmod b = a % b := Int.tmod_eq_emod_of_nonneg h0
  simp [eval, hx, hy, binV, binD, isShift, binInt, hb, this]
theorem wrap8 {n : Int} (h0 : 0 ≤ n) (h1 : n < 256) : IntKind.wrap .u8 n = n := by
  unfold IntKind.wrap
  have hs : IntKind.signed .u8 = false := rfl
  have hb : IntKind.bits .u8 = 8 := rfl
  simp only [hs, hb, Bool.false_and, Bool.false_eq_true, if_false]
  omega
theorem ev_add8 {cl : Call} {e : Env} {h : Hp} {x y : Opd} {a b : Int} (hx : ev e x = .c (.d (.int .u8 a))) (hy : ev e y = .c (.d (.int .u8 b))) (h0 : 0 ≤ a + b) (h1 : a + b < 256) : eval cl e h (.bin .add x y) = some (.c (.d (.int .u8 (a + b))), h) := by
  simp only [eval, hx, hy, binV, binD, isShift, binInt, wrap8 h0 h1]
  rfl
theorem single_plus : single [43] 2 := ⟨43, rfl, .inr (.inl ⟨by decide, rfl, by decide, by decide, by decide⟩)⟩
end Go.Am.M
namespace Go.Am
open Go Go.Am.M
/-- The parts that the law makes. -/
def goodP (x : List UInt8) : Prop := (∃ c : UInt8, 97 ≤ c.toNat ∧ c.toNat ≤ 122 ∧ x = [c, 120]) ∨ x = [43] ∨ x = [61, 62] ∨ x = [124] ∨ x = [91]
theorem good_len {x : List UInt8} (h : goodP x) : x ≠ [] ∧ x.length ≤ 2 := by
  rcases h with ⟨c, _, _, rfl⟩ | rfl | rfl | rfl | rfl <;> simp
theorem good_no95 {x : List UInt8} (h : goodP x) : ∀ b ∈ x, b ≠ 95 := by
  rcases h with ⟨c, h1, h2, rfl⟩ | rfl | rfl | rfl | rfl
  · intro b hb e
    subst e
    simp at hb
    subst hb
    revert h1
    decide
  all_goals decide
theorem good_part {G : List DV → Option DV} (hG : KB R37 G) {x : List UInt8} (h : goodP x) : partV G x = true := by
  have hr : x.length ≤ room := by have := (good_len h).2; unfold room; omega
  rcases h with ⟨c, h1, h2, rfl⟩ | rfl | rfl | rfl | rfl
  · have hc := lower_is h1 h2
    have hs : single [c, 120] 1 := ⟨c, rfl, .inl ⟨hc, rfl, by
      intro b hb
      simp at hb
      rcases hb with rfl | rfl
      · simp [nameC, hc]
      · decide⟩⟩
    have hi := no95_idx (good_no95 (.inl ⟨c, h1, h2, rfl⟩))
    rw [partV_single hG hr hs (by decide)]
    have e1 : decide (0 ≤ Lib.indexByte [c, 120] 95) = false := decide_eq_false (by omega)
    rw [e1]
    have hne : c ≠ 58 := by intro e; subst e; revert h1; decide
    simp [hasS, idxOf, bads]
  · rw [partV_single hG hr single_plus (by decide)]; decide
  · rw [partV_single hG hr (k := 2) ⟨61, rfl, .inr (.inl ⟨by decide, rfl, by decide, by decide, by decide⟩)⟩ (by decide)]; decide
  · rw [partV_single hG hr (k := 6) ⟨124, rfl, .inr (.inr ⟨by decide, rfl, rfl⟩)⟩ (by decide)]; decide
  · rw [partV_single hG hr (k := 6) ⟨91, rfl, .inr (.inr ⟨by decide, rfl, rfl⟩)⟩ (by decide)]; decide
theorem join_len : ∀ ss : List (List UInt8), (∀ x ∈ ss, goodP x) → (joinOf ss [95]).length ≤ 3 * ss.length
  | [], _ => by simp [joinOf, Lib.join, List.intercalate]
  | [x], h => by rw [join_single]; have := (good_len (h x (by simp))).2; simp; omega
  | x :: y :: r, h => by
    have ih := join_len (y :: r) (fun z hz => h z (by simp at hz ⊢; exact .inr hz))
    have := (good_len (h x (by simp))).2
    rw [join_cons2]
    simp only [List.length_append, List.length_cons] at ih ⊢
    omega
section
variable {G : List DV → Option DV} {ss : List (List UInt8)} {l r : Bool}
theorem made_join (hg : ∀ x ∈ ss, goodP x) (hl : ss.length ≤ 4) : joinOk ss [95] = true := by
  have := join_len ss hg
  simp only [joinOk, Bool.and_eq_true, decide_eq_true_eq]
  unfold room
  omega
theorem made_trim (hne : ss ≠ []) (hg : ∀ x ∈ ss, goodP x) : trim (cutU 95 (textOf ⟨ss, l, r⟩)) = ⟨ss, l, r⟩ := cut_text hne (fun s hs => ⟨(good_len (hg s hs)).1, good_no95 (hg s hs)⟩)
theorem made_shape (hG : KB R37 G) (hne : ss ≠ []) (hg : ∀ x ∈ ss, goodP x) (hl : ss.length ≤ 4) (hlr : ss.length = 1 → l = true ∨ r = true) : shapeOf (partV G) (textOf ⟨ss, l, r⟩) = some ⟨ss, l, r⟩ := by
  have e := made_trim (l := l) (r := r) hne hg
  have h1 : 1 ≤ ss.length := by cases ss with | nil => exact (hne rfl).elim | cons a b => simp
  rw [shapeOf_of ?_ ?_, e]
  · have := join_len ss hg
    simp only [textOf, List.length_append]
    have h1 : (if l = true then [95] else ([] : List UInt8)).length ≤ 1 := by split <;> simp
    have h2 : (if r = true then [95] else ([] : List UInt8)).length ≤ 1 := by split <;> simp
    omega
  · rw [e]
    refine mayS_t h1 hl hlr ?_
    unfold badS
    rw [List.any_eq_false]
    intro x hx
    simp [good_part hG (hg x hx)]
theorem made_no1 (hne : ss ≠ []) (hg : ∀ x ∈ ss, goodP x) (h1 : ss.length = 1) : shapeOf (partV G) (textOf ⟨ss, false, false⟩) = none := by
  refine shapeOf_no ?_
  rw [made_trim hne hg]
  exact mayS_f (.inr (.inr (.inl ⟨h1, rfl, rfl⟩)))
theorem made_no0 (hG : KB R37 G) : shapeOf (partV G) (textOf ⟨[], l, r⟩) = none := by
  refine shapeOf_no ?_
  cases l <;> cases r
  · exact mayS_f (.inl (by decide))
  · exact mayS_f (.inl (by decide))
  · exact mayS_f (.inl (by decide))
  · have e : trim (cutU 95 (textOf ⟨[], true, true⟩)) = ⟨[[]], true, true⟩ := rfl
    rw [e]
    exact mayS_f (.inr (.inr (.inr (badS_nil (partV_nil hG) (by simp)))))
end
def signsC : List C := [.d (.str [43]), .d (.str [61, 62]), .d (.str [124]), .d (.str [91])]
def hp12 (l r : Bool) : List (List UInt8) → Hp
  | [] => ⟨2, [(1, .cells signsC), (0, .cells [.nil, .d (.bool l), .d (.bool r)])]⟩
  | s :: t => ⟨3, [(2, .row 1 (ofStrs (s :: t))), (1, .cells signsC), (0, .cells [.own 2 (s :: t).length, .d (.bool l), .d (.bool r)])]⟩
def c12l : ACode := match c12 with
  | .seq _ (.seq _ (.seq _ (.seq _ x))) => x
  | x => x
def c12r : ACode := match c12l with
  | .seq _ x => x
  | x => x
section
variable {cl : Call} {d : Nat} {r : List AOper} {K : St → Prop} {env : Env} {nx : Nat} {ob : List (Nat × Ob)} {x y : Opd}
theorem step_lit2 {v : Int} {w : Opd} {c' : UInt8} (hx : ev env x = .c (.d (.int .u8 v))) (hw : ev env w = .c (.d (.int .u8 c'.toNat))) (h0 : 0 ≤ v) (h1 : v < 256) (hk : ∀ c : UInt8, (c.toNat : Int) = v → opsWp cl r K ⟨(d, .c (.d (.list 1 (encB [c, c'])))) :: env, ⟨nx, ob⟩⟩) :
    opsWp cl (⟨some d, .lit 1 2 [.int .u8 0] [(0, x), (1, w)] false, none⟩ :: r) K ⟨env, ⟨nx, ob⟩⟩ := by
  have e : ((UInt8.ofNat v.toNat).toNat : Int) = v := by rw [UInt8.toNat_ofNat']; omega
  refine step_op (v := .c (.d (.list 1 (encB [UInt8.ofNat v.toNat, c'])))) (ob' := ob) (nx' := nx) ?_ (hk _ e)
  have e2 : encB [UInt8.ofNat v.toNat, c'] = [[.int .u8 v], [.int .u8 c'.toNat]] := by simp only [encB, List.map_cons, List.map_nil, e]
  rw [e2]
  simp only [eval, repl, fillE, hx, hw, V.cells, toDs, C.toD, splice, over]
  rfl
theorem ev_app_s {e : Env} {ob' : List (Nat × Ob)} {ss : List (List UInt8)} {p : List UInt8} (hx : ev e x = .c (.own 2 ss.length)) (hy : ev e y = .c (.d (.list 1 [[.str p]]))) (hl : look ob 2 = some (.row 1 (ofStrs ss))) (hr : ss.length ≤ 1000) (hp : put ob 2 (.row 1 (ofStrs (ss ++ [p]))) = some ob') :
    eval cl e ⟨nx, ob⟩ (.append x y 1) = some (.c (.own 2 (ss ++ [p]).length), ⟨nx, ob'⟩) := by
  have e1 : ofStrs ss ++ [[.str p]] = ofStrs (ss ++ [p]) := by simp [ofStrs]
  have e2 : (ofStrs ss ++ [[D.str p]]).length = (ss ++ [p]).length := by rw [e1, ofStrs_len]
  rw [ev_app_own hx hy hl (ofStrs_len ss).symm (by rw [ofStrs_len]; simp; unfold room; omega) (by rw [e1]; exact hp), e2]
theorem own_D {h : Hp} {ss : List (List UInt8)} {a b : Bool} (hl : look h.obs 2 = some (.row 1 (ofStrs ss))) : toDVs h [.agg [.own 2 ss.length, .d (.bool a), .d (.bool b)]] = some [.agg [.list 1 (ofStrs ss), .bool a, .bool b]] := by
  have e : C.toD h (.own 2 ss.length) = some (.list 1 (ofStrs ss)) := toD_own hl (ofStrs_len ss).symm
  simp only [toDVs, V.toDV, toDs, e]
  simp only [C.toD]
theorem own_D2 {h : Hp} {ss : List (List UInt8)} {a b a' b' : Bool} (hl : look h.obs 2 = some (.row 1 (ofStrs ss))) : toDVs h [.agg [.own 2 ss.length, .d (.bool a), .d (.bool b)], .agg [.d (.list 1 (ofStrs ss)), .d (.bool a'), .d (.bool b')]] = some [.agg [.list 1 (ofStrs ss), .bool a, .bool b], .agg [.list 1 (ofStrs ss), .bool a', .bool b']] := by
  have e : C.toD h (.own 2 ss.length) = some (.list 1 (ofStrs ss)) := toD_own hl (ofStrs_len ss).symm
  simp only [toDVs, V.toDV, toDs, e]
  simp only [C.toD]
theorem step_byteK {k : IntKind} {s : List UInt8} {sz i : Nat} {c : UInt8} (hx : ev env x = .c (.d (.list sz (encB s)))) (hy : ev env y = .c (.d (.int k (i : Int)))) (hg : s[i]? = some c) (hk : opsWp cl r K ⟨(d, .c (.lptr [.int .u8 c.toNat] 0)) :: env, ⟨nx, ob⟩⟩) :
    opsWp cl (⟨some d, .idxAddr 1 x y, none⟩ :: r) K ⟨env, ⟨nx, ob⟩⟩ := step_op (ev_idx hx hy (by omega) (encB_get hg) rfl) hk
theorem ev_quo8 {e : Env} {h : Hp} {a b : Int} (hx : ev e x = .c (.d (.int .u8 a))) (hy : ev e y = .c (.d (.int .u8 b))) (h0 : 0 ≤ a) (h1 : a < 256) (hb : 0 < b) : eval cl e h (.bin .quo x y) = some (.c (.d (.int .u8 (a / b))), h) := by
  have e1 : a.tdiv b = a / b := Int.tdiv_eq_ediv_of_nonneg h0
  have e2 : 0 ≤ a / b := Int.ediv_nonneg h0 (by omega)
  have e3 : a / b ≤ a := Int.ediv_le_self b h0
  have e4 : IntKind.wrap .u8 (a / b) = a / b := wrap8 e2 (by omega)
  have hb' : b ≠ 0 := by omega
  simp [eval, hx, hy, binV, binD, isShift, binInt, hb', e1, e4]
end
def G12 : List DV → Option DV
  | [d, .c (.bool _), .c (.bool _)] => match bytesV d with | some _ => some (.c (.bool true)) | none => none
  | _ => none
set_option maxRecDepth 8000 in
set_option maxHeartbeats 8000000 in
theorem w12r {G : List DV → Option DV} (hG : KB R37 G) {ss : List (List UInt8)} {l r : Bool} (hg : ∀ x ∈ ss, goodP x) (hl : ss.length ≤ 4) :
    awp (tbl [(17, G17), (19, G19 (partV G)), (33, G33), (34, G34)]) c12r (PureQ [.t 6] (.c (.bool true))) ⟨[(1, .c (.d (.bool l))), (2, .c (.d (.bool r))), (7, .c (.d (.bool true))), (8, .c (.ptr 0 0))], hp12 l r ss⟩ := by
  have hj := made_join hg hl
  have h34 : G34 [.agg [.list 1 (ofStrs ss), .bool l, .bool r]] = some (.c (.str (textOf ⟨ss, l, r⟩))) := by
    simp only [G34, strsOf_back]
    rw [if_pos ⟨.inl trivial, hj⟩]
  have hbad : shapeOf (partV G) (textOf ⟨ss, l, r⟩) = none → G19 (partV G) [.c (.str (textOf ⟨ss, l, r⟩))] = some (.tup [.agg [.list 0 [], .bool false, .bool false], .c (.int .i64 23)]) := fun h => by simp only [G19, h]; rfl
  have hgood : shapeOf (partV G) (textOf ⟨ss, l, r⟩) = some ⟨ss, l, r⟩ → G19 (partV G) [.c (.str (textOf ⟨ss, l, r⟩))] = some (.tup [.agg [.list 1 (ofStrs ss), .bool l, .bool r], .c (.int .i64 0)]) := fun h => by simp only [G19, h]; rfl
  have h33 : G33 [.agg [.list 1 (ofStrs ss), .bool l, .bool r], .agg [.list 1 (ofStrs ss), .bool l, .bool r]] = some (.c (.bool true)) := by
    simp only [G33, strsOf_back]
    rw [if_pos (by unfold room; omega)]
    simp
  cases ss with
  | nil =>
    have h34' : G34 [.agg [.list 0 [], .bool l, .bool r]] = some (.c (.str (textOf ⟨[], l, r⟩))) := by cases l <;> cases r <;> rfl
    have h19 := hbad (made_no0 hG)
    generalize textOf ⟨[], l, r⟩ = txt at h34' h19
    unfold c12r c12l c12 hp12
    dsimp only
    cases l <;> cases r <;>
    (repeat' first
      | ((with_reducible apply step_pc (f := 34)); rfl; rfl; rfl; exact h34'; rfl)
      | ((with_reducible apply step_pc (f := 19)); rfl; rfl; rfl; exact h19; rfl)
      |  with_reducible refine awp_seq ?_ | with_reducible refine awp_region ?_ | with_reducible refine ops_nil ?_ | with_reducible refine seqK_n ?_ | with_reducible refine seqK_r ?_ | with_reducible refine seqK_e ?_ | with_reducible refine weak_id ?_ | with_reducible refine awp_ret ?_ | with_reducible refine awp_skip ?_ | with_reducible refine awp_exit ?_ | with_reducible refine awp_block ?_ | with_reducible refine blkK_n ?_ | with_reducible refine blkK_r ?_ | with_reducible refine blkK_e ?_ | with_reducible refine awp_goto ?_ | with_reducible refine jmpK_n ?_ | with_reducible refine jmpK_r ?_ | with_reducible refine jmpK_e ?_ | with_reducible refine jmpK_g ?_ | with_reducible refine seqK_g ?_ | with_reducible refine blkK_g ?_ | (with_reducible refine blkK_o (by decide) ?_) | ((with_reducible apply step_go); rfl) | ((with_reducible apply step_skip); rfl; decide) | ((with_reducible apply step_skip_u); rfl) | ((with_reducible apply awp_cond_t); rfl) | ((with_reducible apply awp_cond_f); rfl) | refine step_op rfl ?_ | refine step_op0 rfl ?_
     exact ⟨_, rfl, rfl⟩)
  | cons s t =>
    have hne : s :: t ≠ [] := by simp
    have hlen := ofStrs_len (s :: t)
    have h1 : 1 ≤ (s :: t).length := by simp
    unfold c12r c12l c12 hp12
    dsimp only
    by_cases hno : (s :: t).length = 1 ∧ l = false ∧ r = false
    · obtain ⟨n1, rfl, rfl⟩ := hno
      have h19 := hbad (made_no1 hne hg n1)
      generalize textOf ⟨s :: t, false, false⟩ = txt at h34 h19
      repeat' first
        | ((with_reducible apply step_len_own); rfl; rfl; exact (ofStrs_len _).symm)
        |  with_reducible refine awp_seq ?_ | with_reducible refine awp_region ?_ | with_reducible refine ops_nil ?_ | with_reducible refine seqK_n ?_ | with_reducible refine seqK_r ?_ | with_reducible refine seqK_e ?_ | with_reducible refine weak_id ?_ | with_reducible refine awp_ret ?_ | with_reducible refine awp_skip ?_ | with_reducible refine awp_exit ?_ | with_reducible refine awp_block ?_ | with_reducible refine blkK_n ?_ | with_reducible refine blkK_r ?_ | with_reducible refine blkK_e ?_ | with_reducible refine awp_goto ?_ | with_reducible refine jmpK_n ?_ | with_reducible refine jmpK_r ?_ | with_reducible refine jmpK_e ?_ | with_reducible refine jmpK_g ?_ | with_reducible refine seqK_g ?_ | with_reducible refine blkK_g ?_ | (with_reducible refine blkK_o (by decide) ?_) | ((with_reducible apply step_go); rfl) | ((with_reducible apply step_skip); rfl; decide) | ((with_reducible apply step_skip_u); rfl) | ((with_reducible apply awp_cond_t); rfl) | ((with_reducible apply awp_cond_f); rfl) | ((with_reducible apply step_lss); rfl; rfl; all_goals (intro hc; first | (exfalso; omega) | skip)) | ((with_reducible apply step_leq); rfl; rfl; all_goals (intro hc; first | (exfalso; omega) | skip)) | ((with_reducible apply step_gtr); rfl; rfl; all_goals (intro hc; first | (exfalso; omega) | skip)) | ((with_reducible apply step_geq); rfl; rfl; all_goals (intro hc; first | (exfalso; omega) | skip)) | ((with_reducible apply step_eql); rfl; rfl; all_goals (intro hc; first | (exfalso; omega) | skip)) | ((with_reducible apply step_neq); rfl; rfl; all_goals (intro hc; first | (exfalso; omega) | skip)) | ((with_reducible apply step_eqs); rfl; rfl; all_goals (intro hc; first | contradiction | skip)) | ((with_reducible apply step_nes); rfl; rfl; all_goals (intro hc; first | contradiction | skip)) | ((with_reducible apply step_addi); rfl; rfl; omega; omega) | ((with_reducible apply step_subi); rfl; rfl; omega; omega) | ((with_reducible apply step_byte); rfl; rfl; omega; omega; intro c hget hc) | ((with_reducible apply step_char); rfl; rfl; omega; omega; intro c hget hc) | ((with_reducible apply step_slb); rfl; (first | exact .inl rfl | assumption); rfl; rfl; omega; omega; omega; intro s' hs' hl') | ((with_reducible apply step_sub_s); rfl; rfl; rfl; omega; omega; omega; intro s' hs' hl') | ((with_reducible apply step_bs); rfl)
        | refine step_op (ev_pcall rfl (own_D rfl) h34 rfl rfl) ?_
        | ((with_reducible apply step_pc (f := 19)); rfl; rfl; rfl; exact h19; rfl)
        |  with_reducible refine awp_seq ?_ | with_reducible refine awp_region ?_ | with_reducible refine ops_nil ?_ | with_reducible refine seqK_n ?_ | with_reducible refine seqK_r ?_ | with_reducible refine seqK_e ?_ | with_reducible refine weak_id ?_ | with_reducible refine awp_ret ?_ | with_reducible refine awp_skip ?_ | with_reducible refine awp_exit ?_ | with_reducible refine awp_block ?_ | with_reducible refine blkK_n ?_ | with_reducible refine blkK_r ?_ | with_reducible refine blkK_e ?_ | with_reducible refine awp_goto ?_ | with_reducible refine jmpK_n ?_ | with_reducible refine jmpK_r ?_ | with_reducible refine jmpK_e ?_ | with_reducible refine jmpK_g ?_ | with_reducible refine seqK_g ?_ | with_reducible refine blkK_g ?_ | (with_reducible refine blkK_o (by decide) ?_) | ((with_reducible apply step_go); rfl) | ((with_reducible apply step_skip); rfl; decide) | ((with_reducible apply step_skip_u); rfl) | ((with_reducible apply awp_cond_t); rfl) | ((with_reducible apply awp_cond_f); rfl) | refine step_op rfl ?_ | refine step_op0 rfl ?_
      all_goals exact ⟨_, rfl, rfl⟩
    · have h19 := hgood (made_shape hG hne hg hl (fun h => by
        cases l
        · cases r
          · exact absurd ⟨h, rfl, rfl⟩ hno
          · exact .inr rfl
        · exact .inl rfl))
      generalize textOf ⟨s :: t, l, r⟩ = txt at h34 h19
      have hno' : l = false → r = false → (s :: t).length ≠ 1 := fun a b c => hno ⟨c, a, b⟩
      cases l <;> cases r <;>
      ((try have hno' := hno' rfl rfl)
       repeat' first
        | ((with_reducible apply step_len_own); rfl; rfl; exact (ofStrs_len _).symm)
        |  with_reducible refine awp_seq ?_ | with_reducible refine awp_region ?_ | with_reducible refine ops_nil ?_ | with_reducible refine seqK_n ?_ | with_reducible refine seqK_r ?_ | with_reducible refine seqK_e ?_ | with_reducible refine weak_id ?_ | with_reducible refine awp_ret ?_ | with_reducible refine awp_skip ?_ | with_reducible refine awp_exit ?_ | with_reducible refine awp_block ?_ | with_reducible refine blkK_n ?_ | with_reducible refine blkK_r ?_ | with_reducible refine blkK_e ?_ | with_reducible refine awp_goto ?_ | with_reducible refine jmpK_n ?_ | with_reducible refine jmpK_r ?_ | with_reducible refine jmpK_e ?_ | with_reducible refine jmpK_g ?_ | with_reducible refine seqK_g ?_ | with_reducible refine blkK_g ?_ | (with_reducible refine blkK_o (by decide) ?_) | ((with_reducible apply step_go); rfl) | ((with_reducible apply step_skip); rfl; decide) | ((with_reducible apply step_skip_u); rfl) | ((with_reducible apply awp_cond_t); rfl) | ((with_reducible apply awp_cond_f); rfl) | ((with_reducible apply step_lss); rfl; rfl; all_goals (intro hc; first | (exfalso; omega) | skip)) | ((with_reducible apply step_leq); rfl; rfl; all_goals (intro hc; first | (exfalso; omega) | skip)) | ((with_reducible apply step_gtr); rfl; rfl; all_goals (intro hc; first | (exfalso; omega) | skip)) | ((with_reducible apply step_geq); rfl; rfl; all_goals (intro hc; first | (exfalso; omega) | skip)) | ((with_reducible apply step_eql); rfl; rfl; all_goals (intro hc; first | (exfalso; omega) | skip)) | ((with_reducible apply step_neq); rfl; rfl; all_goals (intro hc; first | (exfalso; omega) | skip)) | ((with_reducible apply step_eqs); rfl; rfl; all_goals (intro hc; first | contradiction | skip)) | ((with_reducible apply step_nes); rfl; rfl; all_goals (intro hc; first | contradiction | skip)) | ((with_reducible apply step_addi); rfl; rfl; omega; omega) | ((with_reducible apply step_subi); rfl; rfl; omega; omega) | ((with_reducible apply step_byte); rfl; rfl; omega; omega; intro c hget hc) | ((with_reducible apply step_char); rfl; rfl; omega; omega; intro c hget hc) | ((with_reducible apply step_slb); rfl; (first | exact .inl rfl | assumption); rfl; rfl; omega; omega; omega; intro s' hs' hl') | ((with_reducible apply step_sub_s); rfl; rfl; rfl; omega; omega; omega; intro s' hs' hl') | ((with_reducible apply step_bs); rfl)
        | refine step_op (ev_pcall rfl (own_D rfl) h34 rfl rfl) ?_
        | refine step_op (ev_pcall rfl (own_D2 rfl) h33 rfl rfl) ?_
        | ((with_reducible apply step_pc (f := 19)); rfl; rfl; rfl; exact h19; rfl)
        |  with_reducible refine awp_seq ?_ | with_reducible refine awp_region ?_ | with_reducible refine ops_nil ?_ | with_reducible refine seqK_n ?_ | with_reducible refine seqK_r ?_ | with_reducible refine seqK_e ?_ | with_reducible refine weak_id ?_ | with_reducible refine awp_ret ?_ | with_reducible refine awp_skip ?_ | with_reducible refine awp_exit ?_ | with_reducible refine awp_block ?_ | with_reducible refine blkK_n ?_ | with_reducible refine blkK_r ?_ | with_reducible refine blkK_e ?_ | with_reducible refine awp_goto ?_ | with_reducible refine jmpK_n ?_ | with_reducible refine jmpK_r ?_ | with_reducible refine jmpK_e ?_ | with_reducible refine jmpK_g ?_ | with_reducible refine seqK_g ?_ | with_reducible refine blkK_g ?_ | (with_reducible refine blkK_o (by decide) ?_) | ((with_reducible apply step_go); rfl) | ((with_reducible apply step_skip); rfl; decide) | ((with_reducible apply step_skip_u); rfl) | ((with_reducible apply awp_cond_t); rfl) | ((with_reducible apply awp_cond_f); rfl) | refine step_op rfl ?_ | refine step_op0 rfl ?_
       all_goals exact ⟨_, rfl, rfl⟩)
set_option maxRecDepth 8000 in
set_option maxHeartbeats 8000000 in
theorem w12l {cl : Call} {sz : Nat} {s : List UInt8} {l r : Bool} {Q : Exit → St → Prop}
    (hrest : ∀ ss, (∀ x ∈ ss, goodP x) → ss.length ≤ 4 → awp cl c12r Q ⟨[(1, .c (.d (.bool l))), (2, .c (.d (.bool r))), (7, .c (.d (.bool true))), (8, .c (.ptr 0 0))], hp12 l r ss⟩) :
    awp cl c12l Q ⟨[(0, .c (.d (.list sz (encB s)))), (1, .c (.d (.bool l))), (2, .c (.d (.bool r))), (7, .c (.d (.bool true))), (8, .c (.ptr 0 0)), (9, .c (.ptr 1 0))], hp12 l r []⟩ := by
  have hl : (encB s).length = s.length := encB_length s
  unfold c12l c12
  dsimp only
  repeat' first |  with_reducible refine awp_seq ?_ | with_reducible refine awp_region ?_ | with_reducible refine ops_nil ?_ | with_reducible refine seqK_n ?_ | with_reducible refine seqK_r ?_ | with_reducible refine seqK_e ?_ | with_reducible refine weak_id ?_ | with_reducible refine awp_ret ?_ | with_reducible refine awp_skip ?_ | with_reducible refine awp_exit ?_ | with_reducible refine awp_block ?_ | with_reducible refine blkK_n ?_ | with_reducible refine blkK_r ?_ | with_reducible refine blkK_e ?_ | with_reducible refine awp_goto ?_ | with_reducible refine jmpK_n ?_ | with_reducible refine jmpK_r ?_ | with_reducible refine jmpK_e ?_ | with_reducible refine jmpK_g ?_ | with_reducible refine seqK_g ?_ | with_reducible refine blkK_g ?_ | (with_reducible refine blkK_o (by decide) ?_) | ((with_reducible apply step_go); rfl) | ((with_reducible apply step_skip); rfl; decide) | ((with_reducible apply step_skip_u); rfl) | ((with_reducible apply awp_cond_t); rfl) | ((with_reducible apply awp_cond_f); rfl) | refine step_op rfl ?_ | refine step_op0 rfl ?_
  refine awp_loop (fun n st => ∃ (i : Nat) (ss : List (List UInt8)), i ≤ 4 ∧ 4 - i < n ∧ ss.length = i ∧ (∀ x ∈ ss, goodP x) ∧
    st = ⟨[(0, .c (.d (.list sz (encB s)))), (1, .c (.d (.bool l))), (2, .c (.d (.bool r))), (7, .c (.d (.bool true))), (8, .c (.ptr 0 0)), (9, .c (.ptr 1 0)), (10, .c (.d (.int .i64 (i : Nat))))], hp12 l r ss⟩) 5 ?_ (by rintro st ⟨i, ss, h1, h2, _⟩; omega) ?_
  · exact weak_keep [0, 1, 2, 7, 8, 9, 10] rfl ⟨0, [], by omega, by omega, rfl, by simp, rfl⟩
  · rintro n K hK st ⟨i, ss, h1, h2, h3, hg, rfl⟩
    by_cases hgo : i < s.length ∧ i < 4
    · obtain ⟨hi1, hi2⟩ := hgo
      have hget : s[i]? = some s[i] := List.getElem?_eq_getElem hi1
      have hc := UInt8.toNat_lt s[i]
      generalize s[i] = c at hget hc
      have hq : ((c.toNat : Int) / 26) % 4 = 0 ∨ ((c.toNat : Int) / 26) % 4 = 1 ∨ ((c.toNat : Int) / 26) % 4 = 2 ∨ ((c.toNat : Int) / 26) % 4 = 3 := by omega
      have hrem0 : ∀ e hp x, ev e x = .c (.d (.int .u8 ((c.toNat : Int) / 26))) → eval cl e hp (.bin .rem x (.k (.c (.d (.int .u8 4))))) = some (.c (.d (.int .u8 (((c.toNat : Int) / 26) % 4))), hp) := fun e hp x hx => ev_rem8 hx rfl (by omega) (by decide)
      cases ss with
      | nil =>
        rcases hq with hq | hq | hq | hq <;>
        (have hrem := hrem0
         rw [hq] at hrem
         unfold hp12
         repeat' first
          | ((with_reducible apply step_byteK); rfl; rfl; exact hget)
          |  with_reducible refine awp_seq ?_ | with_reducible refine awp_region ?_ | with_reducible refine ops_nil ?_ | with_reducible refine seqK_n ?_ | with_reducible refine seqK_r ?_ | with_reducible refine seqK_e ?_ | with_reducible refine weak_id ?_ | with_reducible refine awp_ret ?_ | with_reducible refine awp_skip ?_ | with_reducible refine awp_exit ?_ | with_reducible refine awp_block ?_ | with_reducible refine blkK_n ?_ | with_reducible refine blkK_r ?_ | with_reducible refine blkK_e ?_ | with_reducible refine awp_goto ?_ | with_reducible refine jmpK_n ?_ | with_reducible refine jmpK_r ?_ | with_reducible refine jmpK_e ?_ | with_reducible refine jmpK_g ?_ | with_reducible refine seqK_g ?_ | with_reducible refine blkK_g ?_ | (with_reducible refine blkK_o (by decide) ?_) | ((with_reducible apply step_go); rfl) | ((with_reducible apply step_skip); rfl; decide) | ((with_reducible apply step_skip_u); rfl) | ((with_reducible apply awp_cond_t); rfl) | ((with_reducible apply awp_cond_f); rfl) | ((with_reducible apply step_lss); rfl; rfl; all_goals (intro hc; first | (exfalso; omega) | skip)) | ((with_reducible apply step_leq); rfl; rfl; all_goals (intro hc; first | (exfalso; omega) | skip)) | ((with_reducible apply step_gtr); rfl; rfl; all_goals (intro hc; first | (exfalso; omega) | skip)) | ((with_reducible apply step_geq); rfl; rfl; all_goals (intro hc; first | (exfalso; omega) | skip)) | ((with_reducible apply step_eql); rfl; rfl; all_goals (intro hc; first | (exfalso; omega) | skip)) | ((with_reducible apply step_neq); rfl; rfl; all_goals (intro hc; first | (exfalso; omega) | skip)) | ((with_reducible apply step_eqs); rfl; rfl; all_goals (intro hc; first | contradiction | skip)) | ((with_reducible apply step_nes); rfl; rfl; all_goals (intro hc; first | contradiction | skip)) | ((with_reducible apply step_addi); rfl; rfl; omega; omega) | ((with_reducible apply step_subi); rfl; rfl; omega; omega) | ((with_reducible apply step_byte); rfl; rfl; omega; omega; intro c hget hc) | ((with_reducible apply step_char); rfl; rfl; omega; omega; intro c hget hc) | ((with_reducible apply step_slb); rfl; (first | exact .inl rfl | assumption); rfl; rfl; omega; omega; omega; intro s' hs' hl') | ((with_reducible apply step_sub_s); rfl; rfl; rfl; omega; omega; omega; intro s' hs' hl') | ((with_reducible apply step_bs); rfl)
          | refine step_op (ev_quo8 rfl rfl (by omega) (by omega) (by decide)) ?_
          | refine step_op (hrem _ _ _ rfl) ?_
          | refine step_op (ev_rem8 rfl rfl (by omega) (by decide)) ?_
          | refine step_op (ev_add8 rfl rfl (by omega) (by omega)) ?_
          | ((with_reducible apply step_lit2 (c' := 120)); rfl; rfl; omega; omega; intro c2 hc2)
          |  with_reducible refine awp_seq ?_ | with_reducible refine awp_region ?_ | with_reducible refine ops_nil ?_ | with_reducible refine seqK_n ?_ | with_reducible refine seqK_r ?_ | with_reducible refine seqK_e ?_ | with_reducible refine weak_id ?_ | with_reducible refine awp_ret ?_ | with_reducible refine awp_skip ?_ | with_reducible refine awp_exit ?_ | with_reducible refine awp_block ?_ | with_reducible refine blkK_n ?_ | with_reducible refine blkK_r ?_ | with_reducible refine blkK_e ?_ | with_reducible refine awp_goto ?_ | with_reducible refine jmpK_n ?_ | with_reducible refine jmpK_r ?_ | with_reducible refine jmpK_e ?_ | with_reducible refine jmpK_g ?_ | with_reducible refine seqK_g ?_ | with_reducible refine blkK_g ?_ | (with_reducible refine blkK_o (by decide) ?_) | ((with_reducible apply step_go); rfl) | ((with_reducible apply step_skip); rfl; decide) | ((with_reducible apply step_skip_u); rfl) | ((with_reducible apply awp_cond_t); rfl) | ((with_reducible apply awp_cond_f); rfl) | refine step_op rfl ?_ | refine step_op0 rfl ?_
         all_goals first
          | exact hK _ (weak_keep [0, 1, 2, 7, 8, 9, 10] rfl ⟨i + 1, [[c2, 120]], by omega, by omega, by simp at h3 ⊢; omega, fun x hx => by
              have : x = [c2, 120] := by simpa using hx
              exact .inl ⟨c2, by omega, by omega, this⟩, rfl⟩)
          | exact hK _ (weak_keep [0, 1, 2, 7, 8, 9, 10] rfl ⟨i + 1, [[43]], by omega, by omega, by simp at h3 ⊢; omega, fun x hx => .inr (.inl (by simpa using hx)), rfl⟩)
          | exact hK _ (weak_keep [0, 1, 2, 7, 8, 9, 10] rfl ⟨i + 1, [[61, 62]], by omega, by omega, by simp at h3 ⊢; omega, fun x hx => .inr (.inr (.inl (by simpa using hx))), rfl⟩)
          | exact hK _ (weak_keep [0, 1, 2, 7, 8, 9, 10] rfl ⟨i + 1, [[124]], by omega, by omega, by simp at h3 ⊢; omega, fun x hx => .inr (.inr (.inr (.inl (by simpa using hx)))), rfl⟩)
          | exact hK _ (weak_keep [0, 1, 2, 7, 8, 9, 10] rfl ⟨i + 1, [[91]], by omega, by omega, by simp at h3 ⊢; omega, fun x hx => .inr (.inr (.inr (.inr (by simpa using hx)))), rfl⟩))
      | cons s0 t0 =>
        have happ : ∀ (p : List UInt8), goodP p → (∀ x ∈ s0 :: (t0 ++ [p]), goodP x) := by
          intro p hp x hx
          rcases List.mem_cons.1 hx with h | h
          · exact hg x (by simp [h])
          · rcases List.mem_append.1 h with h | h
            · exact hg x (by simp [h])
            · have : x = p := by simpa using h
              rw [this]; exact hp
        have hlen : ∀ p : List UInt8, (s0 :: (t0 ++ [p])).length = i + 1 := by intro p; simp at h3 ⊢; omega
        have h1000 : (s0 :: t0).length ≤ 1000 := by omega
        rcases hq with hq | hq | hq | hq <;>
        (have hrem := hrem0
         rw [hq] at hrem
         unfold hp12
         repeat' first
          | ((with_reducible apply step_byteK); rfl; rfl; exact hget)
          |  with_reducible refine awp_seq ?_ | with_reducible refine awp_region ?_ | with_reducible refine ops_nil ?_ | with_reducible refine seqK_n ?_ | with_reducible refine seqK_r ?_ | with_reducible refine seqK_e ?_ | with_reducible refine weak_id ?_ | with_reducible refine awp_ret ?_ | with_reducible refine awp_skip ?_ | with_reducible refine awp_exit ?_ | with_reducible refine awp_block ?_ | with_reducible refine blkK_n ?_ | with_reducible refine blkK_r ?_ | with_reducible refine blkK_e ?_ | with_reducible refine awp_goto ?_ | with_reducible refine jmpK_n ?_ | with_reducible refine jmpK_r ?_ | with_reducible refine jmpK_e ?_ | with_reducible refine jmpK_g ?_ | with_reducible refine seqK_g ?_ | with_reducible refine blkK_g ?_ | (with_reducible refine blkK_o (by decide) ?_) | ((with_reducible apply step_go); rfl) | ((with_reducible apply step_skip); rfl; decide) | ((with_reducible apply step_skip_u); rfl) | ((with_reducible apply awp_cond_t); rfl) | ((with_reducible apply awp_cond_f); rfl) | ((with_reducible apply step_lss); rfl; rfl; all_goals (intro hc; first | (exfalso; omega) | skip)) | ((with_reducible apply step_leq); rfl; rfl; all_goals (intro hc; first | (exfalso; omega) | skip)) | ((with_reducible apply step_gtr); rfl; rfl; all_goals (intro hc; first | (exfalso; omega) | skip)) | ((with_reducible apply step_geq); rfl; rfl; all_goals (intro hc; first | (exfalso; omega) | skip)) | ((with_reducible apply step_eql); rfl; rfl; all_goals (intro hc; first | (exfalso; omega) | skip)) | ((with_reducible apply step_neq); rfl; rfl; all_goals (intro hc; first | (exfalso; omega) | skip)) | ((with_reducible apply step_eqs); rfl; rfl; all_goals (intro hc; first | contradiction | skip)) | ((with_reducible apply step_nes); rfl; rfl; all_goals (intro hc; first | contradiction | skip)) | ((with_reducible apply step_addi); rfl; rfl; omega; omega) | ((with_reducible apply step_subi); rfl; rfl; omega; omega) | ((with_reducible apply step_byte); rfl; rfl; omega; omega; intro c hget hc) | ((with_reducible apply step_char); rfl; rfl; omega; omega; intro c hget hc) | ((with_reducible apply step_slb); rfl; (first | exact .inl rfl | assumption); rfl; rfl; omega; omega; omega; intro s' hs' hl') | ((with_reducible apply step_sub_s); rfl; rfl; rfl; omega; omega; omega; intro s' hs' hl') | ((with_reducible apply step_bs); rfl)
          | refine step_op (ev_quo8 rfl rfl (by omega) (by omega) (by decide)) ?_
          | refine step_op (hrem _ _ _ rfl) ?_
          | refine step_op (ev_rem8 rfl rfl (by omega) (by decide)) ?_
          | refine step_op (ev_add8 rfl rfl (by omega) (by omega)) ?_
          | ((with_reducible apply step_lit2 (c' := 120)); rfl; rfl; omega; omega; intro c2 hc2)
          | refine step_op (ev_app_s (ss := s0 :: t0) rfl rfl rfl h1000 rfl) ?_
          |  with_reducible refine awp_seq ?_ | with_reducible refine awp_region ?_ | with_reducible refine ops_nil ?_ | with_reducible refine seqK_n ?_ | with_reducible refine seqK_r ?_ | with_reducible refine seqK_e ?_ | with_reducible refine weak_id ?_ | with_reducible refine awp_ret ?_ | with_reducible refine awp_skip ?_ | with_reducible refine awp_exit ?_ | with_reducible refine awp_block ?_ | with_reducible refine blkK_n ?_ | with_reducible refine blkK_r ?_ | with_reducible refine blkK_e ?_ | with_reducible refine awp_goto ?_ | with_reducible refine jmpK_n ?_ | with_reducible refine jmpK_r ?_ | with_reducible refine jmpK_e ?_ | with_reducible refine jmpK_g ?_ | with_reducible refine seqK_g ?_ | with_reducible refine blkK_g ?_ | (with_reducible refine blkK_o (by decide) ?_) | ((with_reducible apply step_go); rfl) | ((with_reducible apply step_skip); rfl; decide) | ((with_reducible apply step_skip_u); rfl) | ((with_reducible apply awp_cond_t); rfl) | ((with_reducible apply awp_cond_f); rfl) | refine step_op rfl ?_ | refine step_op0 rfl ?_
         all_goals first
          | exact hK _ (weak_keep [0, 1, 2, 7, 8, 9, 10] rfl ⟨i + 1, _, by omega, by omega, hlen [c2, 120], happ [c2, 120] (.inl ⟨c2, by omega, by omega, rfl⟩), rfl⟩)
          | exact hK _ (weak_keep [0, 1, 2, 7, 8, 9, 10] rfl ⟨i + 1, _, by omega, by omega, hlen [43], happ [43] (.inr (.inl rfl)), rfl⟩)
          | exact hK _ (weak_keep [0, 1, 2, 7, 8, 9, 10] rfl ⟨i + 1, _, by omega, by omega, hlen [61, 62], happ [61, 62] (.inr (.inr (.inl rfl))), rfl⟩)
          | exact hK _ (weak_keep [0, 1, 2, 7, 8, 9, 10] rfl ⟨i + 1, _, by omega, by omega, hlen [124], happ [124] (.inr (.inr (.inr (.inl rfl)))), rfl⟩)
          | exact hK _ (weak_keep [0, 1, 2, 7, 8, 9, 10] rfl ⟨i + 1, _, by omega, by omega, hlen [91], happ [91] (.inr (.inr (.inr (.inr rfl)))), rfl⟩))
    · have hfin := hrest ss hg (by omega)
      have hstop : ¬ (i < s.length) ∨ ¬ (i < 4) := by omega
      repeat' first
        | exact weak_keep [1, 2, 7, 8] rfl hfin
        |  with_reducible refine awp_seq ?_ | with_reducible refine awp_region ?_ | with_reducible refine ops_nil ?_ | with_reducible refine seqK_n ?_ | with_reducible refine seqK_r ?_ | with_reducible refine seqK_e ?_ | with_reducible refine weak_id ?_ | with_reducible refine awp_ret ?_ | with_reducible refine awp_skip ?_ | with_reducible refine awp_exit ?_ | with_reducible refine awp_block ?_ | with_reducible refine blkK_n ?_ | with_reducible refine blkK_r ?_ | with_reducible refine blkK_e ?_ | with_reducible refine awp_goto ?_ | with_reducible refine jmpK_n ?_ | with_reducible refine jmpK_r ?_ | with_reducible refine jmpK_e ?_ | with_reducible refine jmpK_g ?_ | with_reducible refine seqK_g ?_ | with_reducible refine blkK_g ?_ | (with_reducible refine blkK_o (by decide) ?_) | ((with_reducible apply step_go); rfl) | ((with_reducible apply step_skip); rfl; decide) | ((with_reducible apply step_skip_u); rfl) | ((with_reducible apply awp_cond_t); rfl) | ((with_reducible apply awp_cond_f); rfl) | ((with_reducible apply step_lss); rfl; rfl; all_goals (intro hc; first | (exfalso; omega) | skip)) | ((with_reducible apply step_leq); rfl; rfl; all_goals (intro hc; first | (exfalso; omega) | skip)) | ((with_reducible apply step_gtr); rfl; rfl; all_goals (intro hc; first | (exfalso; omega) | skip)) | ((with_reducible apply step_geq); rfl; rfl; all_goals (intro hc; first | (exfalso; omega) | skip)) | ((with_reducible apply step_eql); rfl; rfl; all_goals (intro hc; first | (exfalso; omega) | skip)) | ((with_reducible apply step_neq); rfl; rfl; all_goals (intro hc; first | (exfalso; omega) | skip)) | ((with_reducible apply step_eqs); rfl; rfl; all_goals (intro hc; first | contradiction | skip)) | ((with_reducible apply step_nes); rfl; rfl; all_goals (intro hc; first | contradiction | skip)) | ((with_reducible apply step_addi); rfl; rfl; omega; omega) | ((with_reducible apply step_subi); rfl; rfl; omega; omega) | ((with_reducible apply step_byte); rfl; rfl; omega; omega; intro c hget hc) | ((with_reducible apply step_char); rfl; rfl; omega; omega; intro c hget hc) | ((with_reducible apply step_slb); rfl; (first | exact .inl rfl | assumption); rfl; rfl; omega; omega; omega; intro s' hs' hl') | ((with_reducible apply step_sub_s); rfl; rfl; rfl; omega; omega; omega; intro s' hs' hl') | ((with_reducible apply step_bs); rfl)
        |  with_reducible refine awp_seq ?_ | with_reducible refine awp_region ?_ | with_reducible refine ops_nil ?_ | with_reducible refine seqK_n ?_ | with_reducible refine seqK_r ?_ | with_reducible refine seqK_e ?_ | with_reducible refine weak_id ?_ | with_reducible refine awp_ret ?_ | with_reducible refine awp_skip ?_ | with_reducible refine awp_exit ?_ | with_reducible refine awp_block ?_ | with_reducible refine blkK_n ?_ | with_reducible refine blkK_r ?_ | with_reducible refine blkK_e ?_ | with_reducible refine awp_goto ?_ | with_reducible refine jmpK_n ?_ | with_reducible refine jmpK_r ?_ | with_reducible refine jmpK_e ?_ | with_reducible refine jmpK_g ?_ | with_reducible refine seqK_g ?_ | with_reducible refine blkK_g ?_ | (with_reducible refine blkK_o (by decide) ?_) | ((with_reducible apply step_go); rfl) | ((with_reducible apply step_skip); rfl; decide) | ((with_reducible apply step_skip_u); rfl) | ((with_reducible apply awp_cond_t); rfl) | ((with_reducible apply awp_cond_f); rfl) | refine step_op rfl ?_ | refine step_op0 rfl ?_
set_option maxRecDepth 8000 in
set_option maxHeartbeats 8000000 in
theorem w12 {G : List DV → Option DV} (hG : KB R37 G) (ds : List DV) (r : DV) (h : G12 ds = some r) : awp (tbl [(17, G17), (19, G19 (partV G)), (33, G33), (34, G34)]) c12 (PureQ [.t 6] r) ⟨argE 0 (dvArgs ds), ⟨0, []⟩⟩ := by
  unfold G12 at h
  split at h
  · rename_i d l rr
    split at h
    · rename_i s hs
      obtain ⟨sz, rfl, hz⟩ := bytesV_eq hs
      cases h
      have h17 : G17 [] = some (.c (.bool true)) := rfl
      have hfin := w12l (cl := tbl [(17, G17), (19, G19 (partV G)), (33, G33), (34, G34)]) (sz := sz) (s := s) (l := l) (r := rr) (Q := PureQ [.t 6] (.c (.bool true))) (fun ss hg hl => w12r hG hg hl)
      unfold c12
      repeat' first
        | exact weak_keep [0, 1, 2, 7, 8, 9] rfl hfin
        | ((with_reducible apply step_pc (f := 17)); rfl; rfl; rfl; exact h17; rfl)
        |  with_reducible refine awp_seq ?_ | with_reducible refine awp_region ?_ | with_reducible refine ops_nil ?_ | with_reducible refine seqK_n ?_ | with_reducible refine seqK_r ?_ | with_reducible refine seqK_e ?_ | with_reducible refine weak_id ?_ | with_reducible refine awp_ret ?_ | with_reducible refine awp_skip ?_ | with_reducible refine awp_exit ?_ | with_reducible refine awp_block ?_ | with_reducible refine blkK_n ?_ | with_reducible refine blkK_r ?_ | with_reducible refine blkK_e ?_ | with_reducible refine awp_goto ?_ | with_reducible refine jmpK_n ?_ | with_reducible refine jmpK_r ?_ | with_reducible refine jmpK_e ?_ | with_reducible refine jmpK_g ?_ | with_reducible refine seqK_g ?_ | with_reducible refine blkK_g ?_ | (with_reducible refine blkK_o (by decide) ?_) | ((with_reducible apply step_go); rfl) | ((with_reducible apply step_skip); rfl; decide) | ((with_reducible apply step_skip_u); rfl) | ((with_reducible apply awp_cond_t); rfl) | ((with_reducible apply awp_cond_f); rfl) | refine step_op rfl ?_ | refine step_op0 rfl ?_
    · cases h
  · cases h
/-- THE LAW's FUNCTION: true, of any bytes and ends. -/
theorem shapeMade_ok (m : Int) : PureFn Go.Proofs.Tryd.prog (glb m) 12 G12 := by
  obtain ⟨G, p37, hG⟩ := lexAll m
  have p46 := pok46 (.inl p37) hG
  have p19 := pok19 (pok47 (pok63 (pok45 p46)))
  exact pure_fn (fn12 m) (callOk_cons (pok17 hG p19) (callOk_cons p19 (callOk_cons (pok33 m) (callOk_cons (pok34 m) (callOk_nil _ _))))) (w12 hG)
end Go.Am
