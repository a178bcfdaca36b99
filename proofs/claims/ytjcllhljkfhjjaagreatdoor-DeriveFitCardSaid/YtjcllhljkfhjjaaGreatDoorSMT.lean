/-
  The reference's Of.
-/
import Derived.Test.YtjcllhljkfhjjaaGreatDoorSMS
namespace Go.Am
open Go
def glue (q : List (List UInt8)) (w : List UInt8) : List (List UInt8) → List (List UInt8)
  | h :: t => q ++ (w ++ h) :: t
  | [] => q ++ [w]
theorem glue_beg {P : List (List UInt8)} (h : P ≠ []) : glue [] [] P = P := by
  cases P with
  | nil => exact (h rfl).elim
  | cons a r => rfl
theorem glue_hole (q : List (List UInt8)) (w r : List UInt8) : glue q w (cutU 95 (95 :: r)) = glue (q ++ [w]) [] (cutU 95 r) := by
  have e : cutU 95 (95 :: r) = [] :: cutU 95 r := by simp [cutU]
  rw [e]
  cases hr : cutU 95 r with
  | nil => exact absurd hr (cutU_ne _ _)
  | cons a b => simp [glue]
theorem glue_byte (q : List (List UInt8)) (w r : List UInt8) {b : UInt8} (hb : b ≠ 95) : glue q w (cutU 95 (b :: r)) = glue q (w ++ [b]) (cutU 95 r) := by
  cases hr : cutU 95 r with
  | nil => exact absurd hr (cutU_ne _ _)
  | cons a c =>
    have e : cutU 95 (b :: r) = (b :: a) :: c := by simp only [cutU]; rw [if_neg hb, hr]
    rw [e]
    simp [glue]
theorem glue_end (q : List (List UInt8)) (w : List UInt8) : glue q w (cutU 95 []) = q ++ [w] := by simp [glue, cutU]
theorem ofStrs_set (q : List (List UInt8)) (w u : List UInt8) : (ofStrs (q ++ [w])).set q.length [.str u] = ofStrs (q ++ [u]) := by
  simp [ofStrs]
theorem ofStrs_last (q : List (List UInt8)) (w : List UInt8) : (ofStrs (q ++ [w]))[q.length]? = some [.str w] := by simp [ofStrs]
theorem ofStrs_l1 (q : List (List UInt8)) (w : List UInt8) : (ofStrs (q ++ [w])).length = q.length + 1 := by simp [ofStrs]
theorem stripL_len (l : List (List UInt8)) : (stripL l).2.length ≤ l.length := by
  cases l with
  | nil => exact Nat.le_refl _
  | cons a r => rw [stripL_cons]; split <;> simp
theorem stripR_len (l : List (List UInt8)) : (stripR l).2.length ≤ l.length := by
  rcases stripR_cases l with ⟨q, rfl, h⟩ | h
  · rw [h]; simp
  · rw [h]; exact Nat.le_refl _
theorem trim_len (l : List (List UInt8)) : (trim l).parts.length ≤ l.length := by
  have h1 := stripL_len l
  have h2 := stripR_len (stripL l).2
  show (stripR (stripL l).2).2.length ≤ _
  omega
theorem mayS_ne {part : List UInt8 → Bool} {v : SV} (h : mayS part v = true) : v.parts ≠ [] := by
  obtain ⟨p, l, r⟩ := v
  have := (mayS_inv h).1
  intro e
  simp only at e
  subst e
  simp at this
theorem shapeOf_R {s : List UInt8} {v : SV} (hv : trim (cutU 95 s) = v) : shapeOf partE s = if mayR v then some v else none := by
  unfold shapeOf mayR
  rw [hv]
  cases hm : mayS partE v with
  | false => simp
  | true =>
    have ht : textOf v = s := by rw [← hv]; exact text_trim (by rw [hv]; exact mayS_ne hm)
    rw [ht]
    by_cases h : 40 < s.length
    · rw [if_pos h, decide_eq_false (by omega)]; rfl
    · rw [if_neg h, decide_eq_true (by omega)]; rfl
theorem trim_join {s : List UInt8} (hs : s.length < room) : joinOk (trim (cutU 95 s)).parts [95] = true := by
  have h1 := trim_len (cutU 95 s)
  have h2 := (cutU_len 95 s).1
  unfold room at hs
  simp only [joinOk, Bool.and_eq_true, decide_eq_true_eq]
  refine ⟨by unfold room; omega, ?_⟩
  by_cases h : (trim (cutU 95 s)).parts = []
  · rw [h]; decide
  · have h3 := text_trim h
    have h4 := text_len (trim (cutU 95 s))
    rw [h3] at h4
    unfold room
    omega
def G32 : List DV → Option DV
  | [.c (.str s)] => if s.length < room then some (svDV (shapeOf partE s)) else none
  | _ => none
def zeroS : List C := [.nil, .d (.bool false), .d (.bool false)]
theorem ownS {h : Hp} {ss : List (List UInt8)} {a b : Bool} {n : Nat} (hl : look h.obs 1 = some (.row 1 (ofStrs ss))) (hn : n = (ofStrs ss).length) : toDVs h [.agg [.own 1 n, .d (.bool a), .d (.bool b)]] = some [.agg [.list 1 (ofStrs ss), .bool a, .bool b]] := by
  simp [toDVs, V.toDV, toDs, C.toD, hl, hn]
theorem ownS2 {h : Hp} {ss : List (List UInt8)} {a b : Bool} {n : Nat} {d : D} (hl : look h.obs 1 = some (.row 1 (ofStrs ss))) (hn : n = (ofStrs ss).length) : V.toDVt h (.tup [.agg [.own 1 n, .d (.bool a), .d (.bool b)], .c (.d d)]) = some (.tup [.agg [.list 1 (ofStrs ss), .bool a, .bool b], .c d]) := by
  simp [V.toDVt, toDVs, V.toDV, toDs, C.toD, hl, hn]
set_option maxRecDepth 8000 in
set_option maxHeartbeats 8000000 in
theorem w32r {s : List UInt8} {ps : List (List UInt8)} {l r : Bool} (hv : trim (cutU 95 s) = ⟨ps, l, r⟩) (hj : joinOk ps [95] = true) {q : C} {obs : List (Nat × Ob)}
    (hrep : (∃ n, n = (ofStrs ps).length ∧ q = .own 1 n ∧ obs = [(1, .row 1 (ofStrs ps)), (0, .cells zeroS)]) ∨ (q = .d (.list 1 (ofStrs ps)) ∧ obs = [(0, .cells zeroS)])) :
    awp (tbl [(49, T36), (48, T57)]) (c32.tail 6) (PureQ [.cell 2 3 true, .t 3] (svDV (shapeOf partE s))) ⟨[(0, .c (.d (.str s))), (2, .c (.ptr 0 0)), (4, .c q), (6, .c (.ptr 2 0))], ⟨3, (2, .cells [.nil, .d (.bool l), .d (.bool r)]) :: obs⟩⟩ := by
  have h57 := T57_eq (sz := 1) (a := l) (b := r) hj
  have h36 := T36_eq (sz := 1) (a := l) (b := r) hj
  rw [shapeOf_R hv]
  have htx : mayR ⟨ps, l, r⟩ = true → textOf ⟨ps, l, r⟩ = s := fun h => by
    have hm : mayS partE ⟨ps, l, r⟩ = true := by
      unfold mayR at h
      simp only [Bool.and_eq_true] at h
      exact h.1
    rw [← hv]
    exact text_trim (by rw [hv]; exact mayS_ne hm)
  rcases hrep with ⟨n, hn, rfl, rfl⟩ | ⟨rfl, rfl⟩
  · cases hm : mayR ⟨ps, l, r⟩ with
    | false =>
      rw [hm] at h57
      unfold c32
      dsimp only [ACode.tail]
      repeat' first
        | refine ZB (ev_pcall (f := 48) rfl (ownS rfl hn) h57 rfl rfl) ?_
        | refine GoH ?_|refine ZB rfl ?_|refine ZC rfl ?_
      exact ⟨_, rfl, rfl⟩
    | true =>
      have ht := htx hm
      rw [hm] at h57
      rw [ht] at h36
      unfold c32
      dsimp only [ACode.tail]
      repeat' first
        | refine ZB (ev_pcall (f := 48) rfl (ownS rfl hn) h57 rfl rfl) ?_
        | refine ZB (ev_pcall (f := 49) rfl (ownS rfl hn) h36 rfl rfl) ?_
        | ((with_reducible first|apply ZD|apply ZE|apply ZF|apply ZG|apply ZH|apply ZI);rfl;rfl;all_goals (intro hc;first|(exfalso;omega)|skip))|((with_reducible first|apply ZJ|apply ZK);rfl;rfl;all_goals (intro hc;first|contradiction|skip))|((with_reducible first|apply ZL|apply ZM);rfl;rfl;omega;omega)|((with_reducible first|apply ZN|apply ZO);rfl;rfl;omega;omega;intro c hget hc)|((with_reducible apply ZP);rfl;(first|exact .inl rfl|assumption);rfl;rfl;omega;omega;omega;intro s' hs' hl')|((with_reducible apply ZQ);rfl;rfl;rfl;omega;omega;omega;intro s' hs' hl')|((with_reducible apply ZR);rfl)
        | refine GoH ?_|refine ZB rfl ?_|refine ZC rfl ?_
      exact ⟨_, rfl, ownS2 rfl hn⟩
  · cases hm : mayR ⟨ps, l, r⟩ with
    | false =>
      rw [hm] at h57
      unfold c32
      dsimp only [ACode.tail]
      repeat' first
        | ((with_reducible apply Z1 (f := 48));rfl;rfl;rfl;exact h57;rfl)
        | refine GoH ?_|refine ZB rfl ?_|refine ZC rfl ?_
      exact ⟨_, rfl, rfl⟩
    | true =>
      have ht := htx hm
      rw [hm] at h57
      rw [ht] at h36
      unfold c32
      dsimp only [ACode.tail]
      repeat' first
        | ((with_reducible apply Z1 (f := 48));rfl;rfl;rfl;exact h57;rfl)
        | ((with_reducible apply Z1 (f := 49));rfl;rfl;rfl;exact h36;rfl)
        | ((with_reducible first|apply ZD|apply ZE|apply ZF|apply ZG|apply ZH|apply ZI);rfl;rfl;all_goals (intro hc;first|(exfalso;omega)|skip))|((with_reducible first|apply ZJ|apply ZK);rfl;rfl;all_goals (intro hc;first|contradiction|skip))|((with_reducible first|apply ZL|apply ZM);rfl;rfl;omega;omega)|((with_reducible first|apply ZN|apply ZO);rfl;rfl;omega;omega;intro c hget hc)|((with_reducible apply ZP);rfl;(first|exact .inl rfl|assumption);rfl;rfl;omega;omega;omega;intro s' hs' hl')|((with_reducible apply ZQ);rfl;rfl;rfl;omega;omega;omega;intro s' hs' hl')|((with_reducible apply ZR);rfl)
        | refine GoH ?_|refine ZB rfl ?_|refine ZC rfl ?_
      exact ⟨_, rfl, rfl⟩
set_option maxRecDepth 8000 in
set_option maxHeartbeats 8000000 in
theorem w32t {s : List UInt8} (hs : s.length < room) {n : Nat} (hn : n = (ofStrs (cutU 95 s)).length) :
    awp (tbl [(49, T36), (48, T57)]) (c32.tail 3) (PureQ [.cell 2 3 true, .t 3] (svDV (shapeOf partE s))) ⟨[(0, .c (.d (.str s))), (2, .c (.ptr 0 0)), (4, .c (.own 1 n))], ⟨2, [(1, .row 1 (ofStrs (cutU 95 s))), (0, .cells zeroS)]⟩⟩ := by
  have hj := trim_join hs
  have hlenP := ofStrs_len (cutU 95 s)
  have hcl := (cutU_len 95 s).1
  unfold room at hs
  have hfin := fun (ps : List (List UInt8)) (l r : Bool) (q : C) (obs : List (Nat × Ob)) (hv : trim (cutU 95 s) = ⟨ps, l, r⟩) hrep => w32r (s := s) (ps := ps) (l := l) (r := r) hv (by rw [hv] at hj; exact hj) (q := q) (obs := obs) hrep
  generalize hP : cutU 95 s = P at *
  cases P with
  | nil => exact absurd hP (cutU_ne _ _)
  | cons p0 rest =>
    have key : ∀ (l : Bool) (q : List (List UInt8)), stripL (p0 :: rest) = (l, q) → ∀ (rr : Bool) (q' : List (List UInt8)), stripR q = (rr, q') → trim (p0 :: rest) = ⟨q', l, rr⟩ := by
      intro l q h1 rr q' h2
      unfold trim
      rw [h1, h2]
    simp only [List.length_cons] at hlenP hcl
    by_cases hp0 : p0 = []
    · subst hp0
      have hd : (List.take ((ofStrs ([] :: rest)).length : Int).toNat (ofStrs ([] :: rest))).drop (1 : Int).toNat = ofStrs rest := by
        rw [Int.toNat_natCast, List.take_length]; rfl
      rcases List.eq_nil_or_concat rest with rfl | ⟨q, last, hql⟩
      · have hk := hfin [] true false _ _ (key true [] rfl false [] rfl) (.inr ⟨rfl, rfl⟩)
        have hlen0 : ((ofStrs ([] : List (List UInt8))).length : Int) = 0 := rfl
        unfold c32
        dsimp only [ACode.tail]
        repeat' first
          | ((with_reducible apply weak_keep [0, 2, 4, 6]); rfl; exact hk)
          | refine GoH ?_
          | refine ZB (ev_idx_own 0 rfl rfl rfl rfl hn (by omega)) ?_
          | refine ZB (ev_load_own rfl rfl hn rfl rfl) ?_
          | refine ZB (ev_slice_o (ob' := [(2, .cells [.nil, .d (.bool true), .d (.bool false)]), (0, .cells zeroS)]) rfl rfl hn rfl rfl (by omega) (by omega) (by omega) hd rfl) ?_
          | ((with_reducible first|apply ZD|apply ZE|apply ZF|apply ZG|apply ZH|apply ZI);rfl;rfl;all_goals (intro hc;first|(exfalso;omega)|skip))|((with_reducible first|apply ZJ|apply ZK);rfl;rfl;all_goals (intro hc;first|contradiction|skip))|((with_reducible first|apply ZL|apply ZM);rfl;rfl;omega;omega)|((with_reducible first|apply ZN|apply ZO);rfl;rfl;omega;omega;intro c hget hc)|((with_reducible apply ZP);rfl;(first|exact .inl rfl|assumption);rfl;rfl;omega;omega;omega;intro s' hs' hl')|((with_reducible apply ZQ);rfl;rfl;rfl;omega;omega;omega;intro s' hs' hl')|((with_reducible apply ZR);rfl)
          | refine GoH ?_|refine ZB rfl ?_|refine ZC rfl ?_
      · rw [List.concat_eq_append] at hql
        subst hql
        have hl1 := ofStrs_l1 q last
        have hlast := ofStrs_last q last
        simp only [List.length_append, List.length_cons, List.length_nil] at hcl
        by_cases hlst : last = []
        · subst hlst
          have hk := hfin q true true _ _ (key true _ rfl true q (by rw [stripR_app]; rfl)) (.inr ⟨rfl, rfl⟩)
          have hlast' : (ofStrs (q ++ [[]]))[(((ofStrs (q ++ [[]])).length : Int) - 1).toNat]? = some [.str []] := by
            rw [show (((ofStrs (q ++ [[]])).length : Int) - 1).toNat = q.length by omega]; exact hlast
          have hd2 : (List.take (((ofStrs (q ++ [[]])).length : Int) - 1).toNat (ofStrs (q ++ [[]]))).drop (0 : Int).toNat = ofStrs q := by
            rw [show (((ofStrs (q ++ [[]])).length : Int) - 1).toNat = q.length by omega]
            simp [ofStrs]
          unfold c32
          dsimp only [ACode.tail]
          repeat' first
            | ((with_reducible apply weak_keep [0, 2, 4, 6]); rfl; exact hk)
            | refine GoH ?_
            | refine ZB (ev_idx_own 0 rfl rfl rfl rfl hn (by simp only [ofStrs, List.map_cons, List.length_cons]; omega)) ?_
            | refine ZB (ev_load_own rfl rfl hn rfl rfl) ?_
            | refine ZB (ev_slice_o (ob' := [(2, .cells [.nil, .d (.bool true), .d (.bool false)]), (0, .cells zeroS)]) rfl rfl hn rfl rfl (by omega) (by omega) (by omega) hd rfl) ?_
            | ((with_reducible first|apply ZD|apply ZE|apply ZF|apply ZG|apply ZH|apply ZI);rfl;rfl;all_goals (intro hc;first|(exfalso;omega)|skip))|((with_reducible first|apply ZJ|apply ZK);rfl;rfl;all_goals (intro hc;first|contradiction|skip))|((with_reducible first|apply ZL|apply ZM);rfl;rfl;omega;omega)|((with_reducible first|apply ZN|apply ZO);rfl;rfl;omega;omega;intro c hget hc)|((with_reducible apply ZP);rfl;(first|exact .inl rfl|assumption);rfl;rfl;omega;omega;omega;intro s' hs' hl')|((with_reducible apply ZQ);rfl;rfl;rfl;omega;omega;omega;intro s' hs' hl')|((with_reducible apply ZR);rfl)
            | refine ZB (ev_idx rfl rfl (by omega) hlast' rfl) ?_
            | refine ZB (ev_slice_d rfl (.inl rfl) rfl rfl (by omega) (by omega) (by omega) hd2) ?_
            | refine GoH ?_|refine ZB rfl ?_|refine ZC rfl ?_
        · have hk := hfin (q ++ [last]) true false _ _ (key true _ rfl false _ (by rw [stripR_app, if_neg hlst])) (.inr ⟨rfl, rfl⟩)
          have hlast' : (ofStrs (q ++ [last]))[(((ofStrs (q ++ [last])).length : Int) - 1).toNat]? = some [.str last] := by
            rw [show (((ofStrs (q ++ [last])).length : Int) - 1).toNat = q.length by omega]; exact hlast
          unfold c32
          dsimp only [ACode.tail]
          repeat' first
            | ((with_reducible apply weak_keep [0, 2, 4, 6]); rfl; exact hk)
            | refine GoH ?_
            | refine ZB (ev_idx_own 0 rfl rfl rfl rfl hn (by simp only [ofStrs, List.map_cons, List.length_cons]; omega)) ?_
            | refine ZB (ev_load_own rfl rfl hn rfl rfl) ?_
            | refine ZB (ev_slice_o (ob' := [(2, .cells [.nil, .d (.bool true), .d (.bool false)]), (0, .cells zeroS)]) rfl rfl hn rfl rfl (by omega) (by omega) (by omega) hd rfl) ?_
            | ((with_reducible first|apply ZD|apply ZE|apply ZF|apply ZG|apply ZH|apply ZI);rfl;rfl;all_goals (intro hc;first|(exfalso;omega)|skip))|((with_reducible first|apply ZJ|apply ZK);rfl;rfl;all_goals (intro hc;first|contradiction|skip))|((with_reducible first|apply ZL|apply ZM);rfl;rfl;omega;omega)|((with_reducible first|apply ZN|apply ZO);rfl;rfl;omega;omega;intro c hget hc)|((with_reducible apply ZP);rfl;(first|exact .inl rfl|assumption);rfl;rfl;omega;omega;omega;intro s' hs' hl')|((with_reducible apply ZQ);rfl;rfl;rfl;omega;omega;omega;intro s' hs' hl')|((with_reducible apply ZR);rfl)
            | refine ZB (ev_idx rfl rfl (by omega) hlast' rfl) ?_
            | refine GoH ?_|refine ZB rfl ?_|refine ZC rfl ?_
    · have hS : stripL (p0 :: rest) = (false, p0 :: rest) := by rw [stripL_cons, if_neg hp0]
      rcases List.eq_nil_or_concat (p0 :: rest) with h0 | ⟨q, last, h0⟩
      · cases h0
      · rw [List.concat_eq_append] at h0
        have hl1 := ofStrs_l1 q last
        have hlast := ofStrs_last q last
        rw [← h0] at hl1 hlast
        have hfirst : (ofStrs (p0 :: rest))[0]? = some [.str p0] := rfl
        by_cases hlst : last = []
        · subst hlst
          have hk := hfin q false true _ _ (key false _ hS true q (by rw [h0, stripR_app]; rfl)) (.inr ⟨rfl, rfl⟩)
          have hd2 : (List.take ((n : Int) - 1).toNat (ofStrs (p0 :: rest))).drop (0 : Int).toNat = ofStrs q := by
            rw [show ((n : Int) - 1).toNat = q.length by omega, h0]
            simp [ofStrs]
          unfold c32
          dsimp only [ACode.tail]
          repeat' first
            | ((with_reducible apply weak_keep [0, 2, 4, 6]); rfl; exact hk)
            | refine GoH ?_
            | refine ZB (ev_idx_own 0 rfl rfl rfl rfl hn (by omega)) ?_
            | refine ZB (ev_idx_own q.length rfl rfl (by omega) rfl hn (by omega)) ?_
            | refine ZB (ev_load_own rfl rfl hn hlast rfl) ?_
            | refine ZB (ev_load_own rfl rfl hn hfirst rfl) ?_
            | refine ZB (ev_len_own rfl rfl hn) ?_
            | refine ZB (ev_slice_o (ob' := [(2, .cells [.nil, .d (.bool false), .d (.bool true)]), (0, .cells zeroS)]) rfl rfl hn rfl rfl (by omega) (by omega) (by omega) hd2 rfl) ?_
            | ((with_reducible first|apply ZD|apply ZE|apply ZF|apply ZG|apply ZH|apply ZI);rfl;rfl;all_goals (intro hc;first|(exfalso;omega)|skip))|((with_reducible first|apply ZJ|apply ZK);rfl;rfl;all_goals (intro hc;first|contradiction|skip))|((with_reducible first|apply ZL|apply ZM);rfl;rfl;omega;omega)|((with_reducible first|apply ZN|apply ZO);rfl;rfl;omega;omega;intro c hget hc)|((with_reducible apply ZP);rfl;(first|exact .inl rfl|assumption);rfl;rfl;omega;omega;omega;intro s' hs' hl')|((with_reducible apply ZQ);rfl;rfl;rfl;omega;omega;omega;intro s' hs' hl')|((with_reducible apply ZR);rfl)
            | refine GoH ?_|refine ZB rfl ?_|refine ZC rfl ?_
        · have hk := hfin (p0 :: rest) false false _ _ (key false _ hS false _ (by rw [h0, stripR_app, if_neg hlst])) (.inl ⟨n, hn, rfl, rfl⟩)
          unfold c32
          dsimp only [ACode.tail]
          repeat' first
            | ((with_reducible apply weak_keep [0, 2, 4, 6]); rfl; exact hk)
            | refine GoH ?_
            | refine ZB (ev_idx_own 0 rfl rfl rfl rfl hn (by omega)) ?_
            | refine ZB (ev_idx_own q.length rfl rfl (by omega) rfl hn (by omega)) ?_
            | refine ZB (ev_load_own rfl rfl hn hlast rfl) ?_
            | refine ZB (ev_load_own rfl rfl hn hfirst rfl) ?_
            | refine ZB (ev_len_own rfl rfl hn) ?_
            | ((with_reducible first|apply ZD|apply ZE|apply ZF|apply ZG|apply ZH|apply ZI);rfl;rfl;all_goals (intro hc;first|(exfalso;omega)|skip))|((with_reducible first|apply ZJ|apply ZK);rfl;rfl;all_goals (intro hc;first|contradiction|skip))|((with_reducible first|apply ZL|apply ZM);rfl;rfl;omega;omega)|((with_reducible first|apply ZN|apply ZO);rfl;rfl;omega;omega;intro c hget hc)|((with_reducible apply ZP);rfl;(first|exact .inl rfl|assumption);rfl;rfl;omega;omega;omega;intro s' hs' hl')|((with_reducible apply ZQ);rfl;rfl;rfl;omega;omega;omega;intro s' hs' hl')|((with_reducible apply ZR);rfl)
            | refine GoH ?_|refine ZB rfl ?_|refine ZC rfl ?_
set_option maxRecDepth 8000 in
set_option maxHeartbeats 8000000 in
theorem w32 (ds : List DV) (r : DV) (h : G32 ds = some r) : awp (tbl [(49, T36), (48, T57)]) c32 (PureQ [.cell 2 3 true, .t 3] r) ⟨argE 0 (dvArgs ds), ⟨0, []⟩⟩ := by
  unfold G32 at h
  split at h
  · rename_i s
    split at h
    · rename_i hs
      cases h
      have hs' := hs
      unfold room at hs
      have hfin := fun n hn => w32t (s := s) hs' (n := n) hn
      unfold c32
      repeat' first | ((with_reducible first|apply ZD|apply ZE|apply ZF|apply ZG|apply ZH|apply ZI);rfl;rfl;all_goals (intro hc;first|(exfalso;omega)|skip))|((with_reducible first|apply ZJ|apply ZK);rfl;rfl;all_goals (intro hc;first|contradiction|skip))|((with_reducible first|apply ZL|apply ZM);rfl;rfl;omega;omega)|((with_reducible first|apply ZN|apply ZO);rfl;rfl;omega;omega;intro c hget hc)|((with_reducible apply ZP);rfl;(first|exact .inl rfl|assumption);rfl;rfl;omega;omega;omega;intro s' hs' hl')|((with_reducible apply ZQ);rfl;rfl;rfl;omega;omega;omega;intro s' hs' hl')|((with_reducible apply ZR);rfl) | refine GoH ?_|refine ZB rfl ?_|refine ZC rfl ?_
      refine awp_loop (fun m st => ∃ (i : Nat) (q : List (List UInt8)) (w : List UInt8), i ≤ s.length ∧ s.length - i < m ∧ q.length ≤ i ∧ w.length ≤ i ∧ cutU 95 s = glue q w (cutU 95 (s.drop i)) ∧
        st = ⟨[(0, .c (.d (.str s))), (2, .c (.ptr 0 0)), (4, .c (.own 1 (q.length + 1))), (5, .c (.d (.int .i64 (i : Nat))))], ⟨2, [(1, .row 1 (ofStrs (q ++ [w]))), (0, .cells zeroS)]⟩⟩) (s.length + 1) ?_ (by rintro st ⟨i, q, w, h1, h2, _⟩; omega) ?_
      · exact weak_keep [0, 2, 4, 5] rfl ⟨0, [], [], by omega, by omega, by simp, by simp, (glue_beg (cutU_ne _ _)).symm, rfl⟩
      · rintro m K hK st ⟨i, q, w, h1, h2, h3, h4, hq, rfl⟩
        have hl1 := ofStrs_l1 q w
        have hn : q.length + 1 = (ofStrs (q ++ [w])).length := hl1.symm
        by_cases hend : i = s.length
        · rw [hend, List.drop_length, glue_end] at hq
          have hf := hfin (q.length + 1) (by rw [hq]; exact hn)
          rw [hq] at hf
          repeat' first
            | ((with_reducible apply weak_keep [0, 2, 4]); rfl; exact hf)
            | refine GoH ?_
            | ((with_reducible first|apply ZD|apply ZE|apply ZF|apply ZG|apply ZH|apply ZI);rfl;rfl;all_goals (intro hc;first|(exfalso;omega)|skip))|((with_reducible first|apply ZJ|apply ZK);rfl;rfl;all_goals (intro hc;first|contradiction|skip))|((with_reducible first|apply ZL|apply ZM);rfl;rfl;omega;omega)|((with_reducible first|apply ZN|apply ZO);rfl;rfl;omega;omega;intro c hget hc)|((with_reducible apply ZP);rfl;(first|exact .inl rfl|assumption);rfl;rfl;omega;omega;omega;intro s' hs' hl')|((with_reducible apply ZQ);rfl;rfl;rfl;omega;omega;omega;intro s' hs' hl')|((with_reducible apply ZR);rfl)
            | refine GoH ?_|refine ZB rfl ?_|refine ZC rfl ?_
        · obtain ⟨c, hg, hdr, _⟩ := at_of (show i < s.length by omega)
          have hcb := UInt8.toNat_lt c
          have hch : ∀ (cl : Call) e h x y, ev e x = .c (.d (.str s)) → ev e y = .c (.d (.int .i64 (i : Nat))) → eval cl e h (.strAt x y) = some (.c (.d (.int .u8 c.toNat)), h) := fun cl e h x y hx hy => strAt_ev hx hy (by omega) (by simpa using hg)
          rw [hdr] at hq
          repeat' first
            | refine ZB (hch _ _ _ _ _ rfl rfl) ?_
            | refine ZB (ev_app_d (l' := ofStrs (q ++ [w] ++ [[]])) (n' := q.length + 1 + 1) rfl rfl (.inl rfl) look_hd hn (by show (ofStrs (q ++ [w])).length + 1 ≤ room; unfold room; omega) (by simp [ofStrs, repl]) (by simp [ofStrs]) put_hd) ?_
            | ((with_reducible first|apply ZD|apply ZE|apply ZF|apply ZG|apply ZH|apply ZI);rfl;rfl;all_goals (intro hc;first|(exfalso;omega)|skip))|((with_reducible first|apply ZJ|apply ZK);rfl;rfl;all_goals (intro hc;first|contradiction|skip))|((with_reducible first|apply ZL|apply ZM);rfl;rfl;omega;omega)|((with_reducible first|apply ZN|apply ZO);rfl;rfl;omega;omega;intro c hget hc)|((with_reducible apply ZP);rfl;(first|exact .inl rfl|assumption);rfl;rfl;omega;omega;omega;intro s' hs' hl')|((with_reducible apply ZQ);rfl;rfl;rfl;omega;omega;omega;intro s' hs' hl')|((with_reducible apply ZR);rfl)
            | refine GoH ?_|refine ZB rfl ?_|refine ZC rfl ?_
            | with_reducible apply ZS
            | refine ZY (ev_len_own rfl look_hd hn) (by (repeat' first|exact True.intro|refine ⟨?_, ?_⟩|exact .inl rfl|exact .inr (.inl rfl)|exact .inr (.inr rfl)|rfl)) ?_
            | refine ZX rfl (ev_sub rfl rfl (by omega) (by omega)) ?_
            | refine ZY (ev_idx_own q.length rfl rfl (by omega) look_hd hn (by omega)) (by (repeat' first|exact True.intro|refine ⟨?_, ?_⟩|exact .inl rfl|exact .inr (.inl rfl)|exact .inr (.inr rfl)|rfl)) ?_
            | refine ZY (ev_load_own rfl look_hd hn (ofStrs_last q w) rfl) (by (repeat' first|exact True.intro|refine ⟨?_, ?_⟩|exact .inl rfl|exact .inr (.inl rfl)|exact .inr (.inr rfl)|rfl)) ?_
            | refine ZX rfl (ev_add (a := (i : Int)) (b := 1) rfl rfl (by omega) (by omega)) ?_
            | refine ZX rfl (ev_sub1 rfl rfl rfl rfl rfl hg) ?_
            | refine ZX rfl (ev_adds rfl rfl (by simp only [List.length_cons, List.length_nil]; omega)) ?_
            | refine ZZ (Z0 (ev_store_own (ob' := [(1, .row 1 (ofStrs (q ++ [w ++ [c]]))), (0, .cells zeroS)]) rfl rfl rfl rfl rfl look_hd hn (ofStrs_last q w) rfl (by rw [ofStrs_set]; exact put_hd)) ⟨rfl, rfl⟩) (by (repeat' first|exact True.intro|refine ⟨?_, ?_⟩|exact .inl rfl|exact .inr (.inl rfl)|exact .inr (.inr rfl)|rfl)) ?_
            | (with_reducible first|apply ZS|apply ZT)|((with_reducible apply ZU);rfl)|((with_reducible apply ZV);rfl;decide)|((with_reducible apply ZW);rfl)|refine ZX rfl rfl ?_|refine ZY rfl (by (repeat' first|exact True.intro|refine ⟨?_, ?_⟩|exact .inl rfl|exact .inr (.inl rfl)|exact .inr (.inr rfl)|rfl)) ?_
          · have hc95 : c = 95 := UInt8.toNat_inj.1 (by show c.toNat = 95; omega)
            rw [hc95, glue_hole] at hq
            exact hK _ (weak_keep [0, 2, 4, 5] rfl ⟨i + 1, q ++ [w], [], by omega, by omega, by simp; omega, by simp, hq, by simp only [List.length_append, List.length_cons, List.length_nil]; rfl⟩)
          · have hc95 : c ≠ 95 := fun e => by subst e; simp_all
            rw [glue_byte _ _ _ hc95] at hq
            exact hK _ (weak_keep [0, 2, 4, 5] rfl ⟨i + 1, q, w ++ [c], by omega, by omega, by omega, by simp; omega, hq, rfl⟩)
    · cases h
  · cases h
theorem pok32 (m : Int) : PureOk Go.Proofs.Tryz.prog (glb m) 23 G32 := pure_ok (fn32 m) (callOk_cons (pok36 m) (callOk_cons (pok57 m) (callOk_nil _ _))) w32
end Go.Am
