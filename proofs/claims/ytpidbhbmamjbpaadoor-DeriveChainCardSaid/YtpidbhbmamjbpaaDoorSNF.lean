/-
  The program's tokens and its lexer: as the plain lexer says.
-/
import Derived.Test.YtpidbhbmamjbpaaDoorSNE
import Derived.Test.YtpidbhbmamjbpaaDoorSMG
namespace Go.Am
open Go
def neB (s : List UInt8) : Bool := !s.isEmpty
theorem neB_pos {s : List UInt8} (h : neB s = true) : 0 < s.length := by
  cases s with
  | nil => cases h
  | cons a b => simp
theorem neB_of {s : List UInt8} (h : 0 < s.length) : neB s = true := by
  cases s with
  | nil => simp at h
  | cons a b => rfl
def F99 (s : List UInt8) : DV := .tup [.c (.int .i64 6), .c (.int .i64 1), .c (.str (s.take 1)), .c (.int .i64 0)]
set_option maxRecDepth 8000 in
set_option maxHeartbeats 4000000 in
theorem we99 (sz : Nat) (s : List UInt8) (hz : sz = 1 ∨ s = []) (_ : s.length ≤ room) (hp : neB s = true) : awp (tbl []) c99 (PureQ [.t 2, .t 3, .t 4, .t 5] (F99 s)) ⟨argE 0 (dvArgs [.c (.list sz (encB s))]), ⟨0, []⟩⟩ := by
  have h0 := neB_pos hp
  unfold c99
  repeat' first
    | refine GoH ?_|refine ZB rfl ?_|refine ZC rfl ?_
    | with_reducible apply ZS
    | refine ZY (ev_slb rfl hz rfl rfl (by omega) (by omega) (by omega)) (by (repeat' first|exact True.intro|refine ⟨?_, ?_⟩|exact .inl rfl|exact .inr (.inl rfl)|exact .inr (.inr rfl)|rfl)) ?_
    | refine ZY (ev_b2s rfl) (by (repeat' first|exact True.intro|refine ⟨?_, ?_⟩|exact .inl rfl|exact .inr (.inl rfl)|exact .inr (.inr rfl)|rfl)) ?_
    | (with_reducible first|apply ZS|apply ZT)|((with_reducible apply ZU);rfl)|((with_reducible apply ZV);rfl;decide)|((with_reducible apply ZW);rfl)|refine ZX rfl rfl ?_|refine ZY rfl (by (repeat' first|exact True.intro|refine ⟨?_, ?_⟩|exact .inl rfl|exact .inr (.inl rfl)|exact .inr (.inr rfl)|rfl)) ?_|refine ZZ (Z0 rfl ⟨rfl, rfl⟩) (by (repeat' first|exact True.intro|refine ⟨?_, ?_⟩|exact .inl rfl|exact .inr (.inl rfl)|exact .inr (.inr rfl)|rfl)) ?_
  exact ⟨_, rfl, rfl⟩
theorem pe99 (m : Int) : PureOk Go.Proofs.Tryd.prog (glb m) 68 (onBp neB F99) := onBp_ok (fn99 m) (callOk_nil _ _) we99
def F98 (s : List UInt8) : DV := .tup [.c (.int .i64 5), .c (.int .i64 ((quoteOf s).2.1 : Nat)), .c (.str (quoteOf s).1), .c (.int .i64 (quoteOf s).2.2)]
set_option maxRecDepth 8000 in
set_option maxHeartbeats 4000000 in
theorem we98 (sz : Nat) (s : List UInt8) (hz : sz = 1 ∨ s = []) (hroom : s.length ≤ room) : awp (tbl [(84, onB (FQuote 1))]) c98 (PureQ [.t 2, .t 3, .t 4, .t 5] (F98 s)) ⟨argE 0 (dvArgs [.c (.list sz (encB s))]), ⟨0, []⟩⟩ := by
  have h1 : onB (FQuote 1) [.c (.list sz (encB s))] = some (.tup [.c (.list (if (quoteOf s).2.2 = 0 then 1 else 1) (encB (quoteOf s).1)), .c (.int .i64 ((quoteOf s).2.1 : Nat)), .c (.int .i64 (quoteOf s).2.2)]) := onB_eq hz hroom
  unfold F98 c98
  repeat' first
    | ((with_reducible apply Z1 (f := 84));rfl;rfl;rfl;exact h1;rfl)
    | refine GoH ?_|refine ZB rfl ?_|refine ZC rfl ?_
    | with_reducible apply ZS
    | refine ZY (ev_b2s rfl) (by (repeat' first|exact True.intro|refine ⟨?_, ?_⟩|exact .inl rfl|exact .inr (.inl rfl)|exact .inr (.inr rfl)|rfl)) ?_
    | (with_reducible first|apply ZS|apply ZT)|((with_reducible apply ZU);rfl)|((with_reducible apply ZV);rfl;decide)|((with_reducible apply ZW);rfl)|refine ZX rfl rfl ?_|refine ZY rfl (by (repeat' first|exact True.intro|refine ⟨?_, ?_⟩|exact .inl rfl|exact .inr (.inl rfl)|exact .inr (.inr rfl)|rfl)) ?_|refine ZZ (Z0 rfl ⟨rfl, rfl⟩) (by (repeat' first|exact True.intro|refine ⟨?_, ?_⟩|exact .inl rfl|exact .inr (.inl rfl)|exact .inr (.inr rfl)|rfl)) ?_
  exact ⟨_, rfl, rfl⟩
theorem pe98 (m : Int) : PureOk Go.Proofs.Tryd.prog (glb m) 67 (onB F98) := onB_ok (fn98 m) (callOk_cons pe113 (callOk_nil _ _)) we98
def F97 (s : List UInt8) : DV := .tup [.c (.int .i64 4), .c (.int .i64 ((numOf s).2.1 : Nat)), .c (.str (s.take (numOf s).2.1)), .c (.int .i64 (numOf s).2.2)]
set_option maxRecDepth 8000 in
set_option maxHeartbeats 4000000 in
theorem we97 (sz : Nat) (s : List UInt8) (hz : sz = 1 ∨ s = []) (hroom : s.length ≤ room) : awp (tbl [(83, onB FNum)]) c97 (PureQ [.t 2, .t 3, .t 4, .t 5] (F97 s)) ⟨argE 0 (dvArgs [.c (.list sz (encB s))]), ⟨0, []⟩⟩ := by
  have h1 : onB FNum [.c (.list sz (encB s))] = some (.tup [.c (.int .i64 (numOf s).1), .c (.int .i64 ((numOf s).2.1 : Nat)), .c (.int .i64 (numOf s).2.2)]) := onB_eq hz hroom
  have hle := numOf_le s
  have et : (s.take ((((numOf s).2.1 : Nat) : Int)).toNat).drop (0 : Int).toNat = s.take (numOf s).2.1 := by simp
  unfold F97 c97
  rw [← et]
  repeat' first
    | ((with_reducible apply Z1 (f := 83));rfl;rfl;rfl;exact h1;rfl)
    | refine GoH ?_|refine ZB rfl ?_|refine ZC rfl ?_
    | with_reducible apply ZS
    | refine ZY (ev_slb rfl hz rfl rfl (by omega) (by omega) (by omega)) (by (repeat' first|exact True.intro|refine ⟨?_, ?_⟩|exact .inl rfl|exact .inr (.inl rfl)|exact .inr (.inr rfl)|rfl)) ?_
    | refine ZY (ev_b2s rfl) (by (repeat' first|exact True.intro|refine ⟨?_, ?_⟩|exact .inl rfl|exact .inr (.inl rfl)|exact .inr (.inr rfl)|rfl)) ?_
    | (with_reducible first|apply ZS|apply ZT)|((with_reducible apply ZU);rfl)|((with_reducible apply ZV);rfl;decide)|((with_reducible apply ZW);rfl)|refine ZX rfl rfl ?_|refine ZY rfl (by (repeat' first|exact True.intro|refine ⟨?_, ?_⟩|exact .inl rfl|exact .inr (.inl rfl)|exact .inr (.inr rfl)|rfl)) ?_|refine ZZ (Z0 rfl ⟨rfl, rfl⟩) (by (repeat' first|exact True.intro|refine ⟨?_, ?_⟩|exact .inl rfl|exact .inr (.inl rfl)|exact .inr (.inr rfl)|rfl)) ?_
  exact ⟨_, rfl, rfl⟩
theorem pe97 (m : Int) : PureOk Go.Proofs.Tryd.prog (glb m) 66 (onB F97) := onB_ok (fn97 m) (callOk_cons (pe112 m) (callOk_nil _ _)) we97
def F96 (s : List UInt8) : DV := .tup [.c (.int .i64 (if s.take (runOf 5 s) = [46] ∧ endsB s = true then 7 else 2)), .c (.int .i64 (runOf 5 s : Nat)), .c (.str (s.take (runOf 5 s))), .c (.int .i64 0)]
set_option maxRecDepth 8000 in
set_option maxHeartbeats 4000000 in
theorem we96 (sz : Nat) (s : List UInt8) (hz : sz = 1 ∨ s = []) (hroom : s.length ≤ room) : awp (tbl [(43, G80), (59, G90)]) c96 (PureQ [.t 2, .t 3, .t 4, .t 5] (F96 s)) ⟨argE 0 (dvArgs [.c (.list sz (encB s))]), ⟨0, []⟩⟩ := by
  have hl : (encB s).length = s.length := encB_length s
  have h90 := k90 sz s 5 hz hroom
  have hrun := runOf_le 5 s
  unfold room at hroom
  unfold F96
  generalize hn : runOf 5 s = n at h90 hrun
  by_cases ht : s.take n = [46]
  · obtain ⟨r, rfl⟩ : ∃ r, s = 46 :: r := by
      cases s with
      | nil => simp at ht
      | cons a r =>
        cases n with
        | zero => simp at ht
        | succ n => simp at ht; exact ⟨r, by rw [ht.1]⟩
    have hn1 : n = 1 := by
      have := congrArg List.length ht
      rw [List.length_take] at this
      simp only [List.length_cons, List.length_nil] at this hrun
      omega
    subst hn1
    match r with
    | [] =>
      rw [if_pos ⟨ht, rfl⟩, ht]
      have hl1 : (encB [46]).length = 1 := rfl
      unfold c96
      repeat' first
        | refine GoH ?_
        | ((with_reducible first|apply ZD|apply ZE|apply ZF|apply ZG|apply ZH|apply ZI);rfl;rfl;all_goals (intro hc;first|(exfalso;omega)|skip))|((with_reducible first|apply ZJ|apply ZK);rfl;rfl;all_goals (intro hc;first|contradiction|skip))|((with_reducible first|apply ZL|apply ZM);rfl;rfl;omega;omega)|((with_reducible first|apply ZN|apply ZO);rfl;rfl;omega;omega;intro c hget hc)|((with_reducible apply ZP);rfl;(first|exact .inl rfl|assumption);rfl;rfl;omega;omega;omega;intro s' hs' hl')|((with_reducible apply ZQ);rfl;rfl;rfl;omega;omega;omega;intro s' hs' hl')|((with_reducible apply ZR);rfl)
        | ((with_reducible apply Z1 (f := 59));rfl;rfl;rfl;exact h90;rfl)
        | refine GoH ?_|refine ZB rfl ?_|refine ZC rfl ?_
      all_goals
        have e : s' = [46] := by simpa using hs'
        first
        | (subst e; exact ⟨_, rfl, rfl⟩)
        | (exfalso; exact (by assumption : s' ≠ [46]) e)
    | d :: r' =>
      have hg1 : (46 :: d :: r')[1]? = some d := rfl
      have hl1 : (encB (46 :: d :: r')).length = r'.length + 2 := by rw [encB_length]; rfl
      have hdb := classOf d
      unfold c96
      repeat' first
        | refine GoH ?_
        | ((with_reducible apply step_byteN (i := 1)); rfl; rfl; exact hg1)
        | ((with_reducible first|apply ZD|apply ZE|apply ZF|apply ZG|apply ZH|apply ZI);rfl;rfl;all_goals (intro hc;first|(exfalso;omega)|skip))|((with_reducible first|apply ZJ|apply ZK);rfl;rfl;all_goals (intro hc;first|contradiction|skip))|((with_reducible first|apply ZL|apply ZM);rfl;rfl;omega;omega)|((with_reducible first|apply ZN|apply ZO);rfl;rfl;omega;omega;intro c hget hc)|((with_reducible apply ZP);rfl;(first|exact .inl rfl|assumption);rfl;rfl;omega;omega;omega;intro s' hs' hl')|((with_reducible apply ZQ);rfl;rfl;rfl;omega;omega;omega;intro s' hs' hl')|((with_reducible apply ZR);rfl)
        | ((with_reducible apply Z1 (f := 43));rfl;rfl;rfl;exact (G80_eq _);rfl)
        | ((with_reducible apply Z1 (f := 59));rfl;rfl;rfl;exact h90;rfl)
        | refine GoH ?_|refine ZB rfl ?_|refine ZC rfl ?_
      all_goals
        have e : s' = [46] := by rw [← ht]; simpa using hs'
        first
        | (exfalso; exact (by assumption : s' ≠ [46]) e)
        | (rw [if_pos ⟨ht, by simp only [endsB, Bool.or_eq_true, beq_iff_eq]; omega⟩, ht]; subst e; exact ⟨_, rfl, rfl⟩)
        | (rw [if_neg (by rintro ⟨_, h⟩; simp only [endsB, Bool.or_eq_true, beq_iff_eq] at h; omega), ht]; subst e; exact ⟨_, rfl, rfl⟩)
  · rw [if_neg (fun h => ht h.1)]
    unfold c96
    repeat' first
      | refine GoH ?_
      | ((with_reducible first|apply ZD|apply ZE|apply ZF|apply ZG|apply ZH|apply ZI);rfl;rfl;all_goals (intro hc;first|(exfalso;omega)|skip))|((with_reducible first|apply ZJ|apply ZK);rfl;rfl;all_goals (intro hc;first|contradiction|skip))|((with_reducible first|apply ZL|apply ZM);rfl;rfl;omega;omega)|((with_reducible first|apply ZN|apply ZO);rfl;rfl;omega;omega;intro c hget hc)|((with_reducible apply ZP);rfl;(first|exact .inl rfl|assumption);rfl;rfl;omega;omega;omega;intro s' hs' hl')|((with_reducible apply ZQ);rfl;rfl;rfl;omega;omega;omega;intro s' hs' hl')|((with_reducible apply ZR);rfl)
      | ((with_reducible apply Z1 (f := 59));rfl;rfl;rfl;exact h90;rfl)
      | refine GoH ?_|refine ZB rfl ?_|refine ZC rfl ?_
    all_goals
      have e : s' = s.take n := by simpa using hs'
      first
      | (rw [← e]; exact ⟨_, rfl, rfl⟩)
      | (exfalso; exact ht (e.symm.trans (by assumption)))
theorem pe96 (m : Int) : PureOk Go.Proofs.Tryd.prog (glb m) 65 (onB F96) := onB_ok (fn96 m) (callOk_cons (pok80 m) (callOk_cons (pok90 m) (callOk_nil _ _))) we96
def F95 (s : List UInt8) : DV := if (takeOf s).2 = true then .tup [.c (.int .i64 1), .c (.int .i64 (nameOf s : Nat)), .c (.str (s.take (nameOf s))), .c (.int .i64 0)] else .tup [.c (.int .i64 0), .c (.int .i64 1), .c (.str []), .c (.int .i64 10)]
set_option maxRecDepth 8000 in
set_option maxHeartbeats 4000000 in
theorem we95 (sz : Nat) (s : List UInt8) (hz : sz = 1 ∨ s = []) (hroom : s.length ≤ room) : awp (tblh [(82, onB FTake)] [(63, T94), (80, T109 (onB FName))]) c95 (PureQ [.t 2, .t 3, .t 4, .t 5] (F95 s)) ⟨argE 0 (dvArgs [.c (.list sz (encB s))]), ⟨0, []⟩⟩ := by
  obtain ⟨k, ok, hT⟩ : ∃ k ok, takeOf s = (k, ok) := ⟨_, _, rfl⟩
  have h1 := take_call hz hroom hT
  have h2 : onB FName [.c (.list sz (encB s))] = some (.c (.int .i64 ((nameOf s : Nat) : Int))) := onB_eq hz hroom
  have hle := nameOf_le s
  have et : (s.take (((nameOf s : Nat) : Int)).toNat).drop (0 : Int).toNat = s.take (nameOf s) := by simp
  unfold F95
  rw [hT, ← et]
  unfold c95
  cases ok <;>
  (repeat' first
    | refine GoH ?_
    | ((with_reducible apply Z1 (f := 82));rfl;rfl;rfl;exact h1;rfl)
    | refine GoH ?_|refine ZB rfl ?_|refine ZC rfl ?_
    | (refine step_hcall rfl ⟨_, rfl, ?_⟩)
    | (refine step_vcall ⟨sz, s, _, _, _, rfl, hz, look_hd, h2, by omega, by omega, ?_⟩)) <;>
  exact ⟨_, rfl, rfl⟩
theorem fnextE_bad {s : List UInt8} {i k : Nat} {e : Int} (hS : skipR (s.drop i) = (k, e)) (h : e ≠ 0) : FNext s i = .tup [.agg [.int .i64 8, .int .i64 ((i + k : Nat) : Int), .int .i64 (s.length : Nat), .str [], .int .i64 e], .c (.bool true)] := by
  have := fnext_bad (s := s) (i := i) (by rw [hS]; exact h)
  rw [hS] at this
  exact this
theorem fnextE_none {s : List UInt8} {i k : Nat} (hS : skipR (s.drop i) = (k, 0)) (h2 : i + k = s.length) : FNext s i = .tup [.agg [.int .i64 0, .int .i64 0, .int .i64 0, .str [], .int .i64 0], .c (.bool false)] := fnext_none (by rw [hS]) (by rw [hS]; exact h2)
theorem fnextE_tok {s : List UInt8} {i k : Nat} (hS : skipR (s.drop i) = (k, 0)) (h2 : i + k ≠ s.length) {kd cd : Int} {z : Nat} {tx : List UInt8} (hT : tokOf (s.drop (i + k)) = ⟨kd, z, tx, cd⟩) : FNext s i = .tup [.agg [.int .i64 kd, .int .i64 ((i + k : Nat) : Int), .int .i64 ((i + k + z : Nat) : Int), .str tx, .int .i64 cd], .c (.bool true)] := by
  have h1 : (skipR (s.drop i)).1 = k := by rw [hS]
  have := fnext_tok (s := s) (i := i) (by rw [hS]) (by rw [h1]; exact h2) (t := ⟨kd, z, tx, cd⟩) (by rw [h1]; exact hT)
  rw [h1] at this
  exact this
def inE (s : List UInt8) (i : Nat) : Bool := decide (i ≤ s.length)
theorem tok5' {s : List UInt8} {c : UInt8} (h : s[0]? = some c) (hc : classOf c = 5) : tokOf s = ⟨if s.take (runOf 5 s) = [46] ∧ endsB s = true then 7 else 2, runOf 5 s, s.take (runOf 5 s), 0⟩ := by
  rw [tok5 h hc]
  have hrun := runOf_le 5 s
  have h1 := run_pos (k := 5) h hc
  congr 1
  cases s with
  | nil => simp at h
  | cons x r =>
    simp at h
    subst h
    generalize runOf 5 (x :: r) = n at *
    obtain ⟨n, rfl⟩ : ∃ m, n = m + 1 := ⟨n - 1, by omega⟩
    simp only [List.length_cons] at hrun
    have hiff : (n + 1 = 1 ∧ x.toNat = 46 ∧ endsB (x :: r) = true) ↔ ((x :: r).take (n + 1) = [46] ∧ endsB (x :: r) = true) := by
      constructor
      · rintro ⟨e1, e2, e3⟩
        obtain rfl : n = 0 := by omega
        obtain rfl : x = 46 := UInt8.toNat_inj.1 e2
        exact ⟨rfl, e3⟩
      · rintro ⟨e1, e3⟩
        have hlen := congrArg List.length e1
        rw [List.length_take] at hlen
        simp only [List.length_cons, List.length_nil] at hlen
        obtain rfl : n = 0 := by omega
        simp at e1
        subst e1
        exact ⟨rfl, rfl, e3⟩
    simp only [hiff]
set_option maxRecDepth 8000 in
set_option maxHeartbeats 8000000 in
theorem we60 (sz : Nat) (s : List UInt8) (i : Nat) (hz : sz = 1 ∨ s = []) (hroom : s.length ≤ room) (hp : inE s i = true) :
    awp (tblh [(41, onB FSkip), (43, G80), (44, G81), (64, onB F95), (65, onB F96), (66, onB F97), (67, onB F98), (68, onBp neB F99)] [(42, T79), (80, T109 (onB FName))]) c60 (PureQ [.cell 4 5 true, .t 5] (FNext s i)) ⟨argE 0 (dvArgs [.c (.list sz (encB s)), .c (.int .i64 (i : Nat))]), ⟨0, []⟩⟩ := by
  have hl : (encB s).length = s.length := encB_length s
  have hroom' := hroom
  unfold room at hroom
  simp only [inE, decide_eq_true_eq] at hp
  obtain ⟨k, e, hS⟩ : ∃ k e, skipR (s.drop i) = (k, e) := ⟨_, _, rfl⟩
  have hb := skipR_bd (s.drop i)
  rw [hS, List.length_drop] at hb
  simp only at hb
  obtain ⟨hb1, hb2⟩ := hb
  have h78 : onB FSkip [.c (.list 1 (encB (s.drop i)))] = some (.tup [.c (.int .i64 (k : Nat)), .c (.int .i64 e)]) := by
    rw [onB_eq (.inl rfl) (by rw [List.length_drop]; unfold room; omega), FSkip, hS]
  by_cases he : e ≠ 0
  · rw [fnextE_bad hS he, ← hl]
    unfold c60
    repeat' first
      | refine GoH ?_
      | refine ZB (ev_from (i := i) rfl hz rfl rfl (by omega)) ?_
      | ((with_reducible first|apply ZD|apply ZE|apply ZF|apply ZG|apply ZH|apply ZI);rfl;rfl;all_goals (intro hc;first|(exfalso;omega)|skip))|((with_reducible first|apply ZJ|apply ZK);rfl;rfl;all_goals (intro hc;first|contradiction|skip))|((with_reducible first|apply ZL|apply ZM);rfl;rfl;omega;omega)|((with_reducible first|apply ZN|apply ZO);rfl;rfl;omega;omega;intro c hget hc)|((with_reducible apply ZP);rfl;(first|exact .inl rfl|assumption);rfl;rfl;omega;omega;omega;intro s' hs' hl')|((with_reducible apply ZQ);rfl;rfl;rfl;omega;omega;omega;intro s' hs' hl')|((with_reducible apply ZR);rfl)
      | ((with_reducible apply Z1 (f := 41));rfl;rfl;rfl;exact h78;rfl)
      | refine GoH ?_|refine ZB rfl ?_|refine ZC rfl ?_
    exact ⟨_, rfl, rfl⟩
  · obtain rfl : e = 0 := by omega
    by_cases hend : i + k = s.length
    · rw [fnextE_none hS hend]
      unfold c60
      repeat' first
        | refine GoH ?_
        | refine ZB (ev_from (i := i) rfl hz rfl rfl (by omega)) ?_
        | ((with_reducible first|apply ZD|apply ZE|apply ZF|apply ZG|apply ZH|apply ZI);rfl;rfl;all_goals (intro hc;first|(exfalso;omega)|skip))|((with_reducible first|apply ZJ|apply ZK);rfl;rfl;all_goals (intro hc;first|contradiction|skip))|((with_reducible first|apply ZL|apply ZM);rfl;rfl;omega;omega)|((with_reducible first|apply ZN|apply ZO);rfl;rfl;omega;omega;intro c hget hc)|((with_reducible apply ZP);rfl;(first|exact .inl rfl|assumption);rfl;rfl;omega;omega;omega;intro s' hs' hl')|((with_reducible apply ZQ);rfl;rfl;rfl;omega;omega;omega;intro s' hs' hl')|((with_reducible apply ZR);rfl)
        | ((with_reducible apply Z1 (f := 41));rfl;rfl;rfl;exact h78;rfl)
        | refine GoH ?_|refine ZB rfl ?_|refine ZC rfl ?_
      exact ⟨_, rfl, rfl⟩
    · obtain ⟨c, hg, hdr, hg0⟩ := at_of (show i + k < s.length by omega)
      have hidx : ∀ (cl : Call) e h x y v, ev e x = .c (.d (.list sz (encB s))) → ev e y = .c (.d (.int .i64 v)) → v = (i : Int) + (k : Int) → eval cl e h (.idxAddr 1 x y) = some (.c (.lptr [.int .u8 c.toNat] 0), h) := fun cl e h x y v hx hy hv => by
        subst hv
        exact ev_idx hx hy (by omega) (by rw [show ((i : Int) + (k : Int)).toNat = i + k by omega]; exact encB_at hg) rfl
      have hrd : (s.drop (i + k)).length ≤ room := by rw [List.length_drop]; unfold room; omega
      have h95 : onB F95 [.c (.list 1 (encB (s.drop (i + k))))] = some (F95 (s.drop (i + k))) := onB_eq (.inl rfl) hrd
      have h96 : onB F96 [.c (.list 1 (encB (s.drop (i + k))))] = some (F96 (s.drop (i + k))) := onB_eq (.inl rfl) hrd
      have h97 : onB F97 [.c (.list 1 (encB (s.drop (i + k))))] = some (F97 (s.drop (i + k))) := onB_eq (.inl rfl) hrd
      have h98 : onB F98 [.c (.list 1 (encB (s.drop (i + k))))] = some (F98 (s.drop (i + k))) := onB_eq (.inl rfl) hrd
      have h99 : onBp neB F99 [.c (.list 1 (encB (s.drop (i + k))))] = some (F99 (s.drop (i + k))) := onBp_eq (.inl rfl) hrd (neB_of (by rw [List.length_drop]; omega))
      have h110 : onB FName [.c (.list 1 (encB (s.drop (i + k))))] = some (.c (.int .i64 ((nameOf (s.drop (i + k)) : Nat) : Int))) := onB_eq (.inl rfl) hrd
      have htk := fun kd cd z tx hT => fnextE_tok (s := s) (i := i) (k := k) hS hend (kd := kd) (cd := cd) (z := z) (tx := tx) hT
      have hbd := tokOf_bd hg0
      rw [List.length_drop] at hbd
      have hnle := nameOf_le (s.drop (i + k))
      generalize hu : s.drop (i + k) = u at *
      have hul : u.length = s.length - (i + k) := by rw [← hu, List.length_drop]
      have et : (u.take (((nameOf u : Nat) : Int)).toNat).drop (0 : Int).toNat = u.take (nameOf u) := by simp
      have hfrom : ∀ (cl : Call) e h x lo, ev e x = .c (.d (.list sz (encB s))) → ev e lo = .c (.d (.int .i64 ((i : Int) + (k : Int)))) → eval cl e h (.slice 1 x (some lo) none none) = some (.c (.d (.list 1 (encB u))), h) := fun cl e h x lo hx hlo => by
        rw [ev_from (i := i + k) hx hz hlo (by omega) (by omega), hu]
      have hmain : ∀ (kd cd : Int) (z : Nat) (tx : List UInt8), tokOf u = ⟨kd, z, tx, cd⟩ → 1 ≤ z ∧ z ≤ s.length - (i + k) := fun kd cd z tx hT => by
        rw [hT] at hbd
        exact hbd
      unfold c60
      repeat' first
        | refine GoH ?_
        | refine ZB (ev_from (i := i) rfl hz rfl rfl (by omega)) ?_
        | ((with_reducible first|apply ZD|apply ZE|apply ZF|apply ZG|apply ZH|apply ZI);rfl;rfl;all_goals (intro hc;first|(exfalso;omega)|skip))|((with_reducible first|apply ZJ|apply ZK);rfl;rfl;all_goals (intro hc;first|contradiction|skip))|((with_reducible first|apply ZL|apply ZM);rfl;rfl;omega;omega)|((with_reducible first|apply ZN|apply ZO);rfl;rfl;omega;omega;intro c hget hc)|((with_reducible apply ZP);rfl;(first|exact .inl rfl|assumption);rfl;rfl;omega;omega;omega;intro s' hs' hl')|((with_reducible apply ZQ);rfl;rfl;rfl;omega;omega;omega;intro s' hs' hl')|((with_reducible apply ZR);rfl)
        | ((with_reducible apply Z1 (f := 41));rfl;rfl;rfl;exact h78;rfl)
        | refine GoH ?_|refine ZB rfl ?_|refine ZC rfl ?_
        | with_reducible apply ZS
      refine ZZ (v := .c (.map 1)) (hp2 := ⟨4, [(3, .cells [.d (.int .i64 3)]), (2, .cells [.d (.int .i64 1)]), (1, .map (scansM 2 3)), (0, .cells [.d (.int .i64 0), .d (.int .i64 0), .d (.int .i64 0), .d (.str []), .d (.int .i64 0)])]⟩) (evalR_hcall (T := T79) rfl ⟨rfl, rfl, rfl⟩) trivial ?_
      refine ZX rfl rfl ?_
      refine ZX rfl rfl ?_
      refine dstep_all (fun h => hidx _ _ _ _ _ _ rfl rfl rfl) ?_
      refine dstep_all (fun ⟨_, _⟩ => rfl) ?_
      rcases classOf_cases c with hcl | hcl | hcl | hcl | hcl | hcl | hcl | hcl | hcl | hcl <;>
      refine ZY (ev_pcall rfl rfl (G80_k hcl) rfl rfl) (by (repeat' first|exact True.intro|refine ⟨?_, ?_⟩|exact .inl rfl|exact .inr (.inl rfl)|exact .inr (.inr rfl)|rfl)) ?_
      · have hT := tok0 hg0 (by omega) (by omega) (by omega) (by omega) (by omega) (by omega) (by omega)
        have := hmain _ _ _ _ hT
        rw [htk _ _ _ _ hT]
        repeat' first
          | refine GoH ?_
          | refine ZB (hfrom _ _ _ _ _ rfl rfl) ?_
          | ((with_reducible first|apply ZD|apply ZE|apply ZF|apply ZG|apply ZH|apply ZI);rfl;rfl;all_goals (intro hc;first|(exfalso;omega)|skip))|((with_reducible first|apply ZJ|apply ZK);rfl;rfl;all_goals (intro hc;first|contradiction|skip))|((with_reducible first|apply ZL|apply ZM);rfl;rfl;omega;omega)|((with_reducible first|apply ZN|apply ZO);rfl;rfl;omega;omega;intro c hget hc)|((with_reducible apply ZP);rfl;(first|exact .inl rfl|assumption);rfl;rfl;omega;omega;omega;intro s' hs' hl')|((with_reducible apply ZQ);rfl;rfl;rfl;omega;omega;omega;intro s' hs' hl')|((with_reducible apply ZR);rfl)
          | refine GoH ?_|refine ZB rfl ?_|refine ZC rfl ?_
          | (with_reducible first|apply ZS|apply ZT)|((with_reducible apply ZU);rfl)|((with_reducible apply ZV);rfl;decide)|((with_reducible apply ZW);rfl)|refine ZX rfl rfl ?_|refine ZY rfl (by (repeat' first|exact True.intro|refine ⟨?_, ?_⟩|exact .inl rfl|exact .inr (.inl rfl)|exact .inr (.inr rfl)|rfl)) ?_|refine ZZ (Z0 rfl ⟨rfl, rfl⟩) (by (repeat' first|exact True.intro|refine ⟨?_, ?_⟩|exact .inl rfl|exact .inr (.inl rfl)|exact .inr (.inr rfl)|rfl)) ?_
          | ((with_reducible apply step_vfn (g := 44)); rfl; rfl; rfl; rfl; rfl; rfl; rfl)
        exact ⟨_, rfl, rfl⟩
      · have hT := tok0 hg0 (by omega) (by omega) (by omega) (by omega) (by omega) (by omega) (by omega)
        have := hmain _ _ _ _ hT
        rw [htk _ _ _ _ hT]
        repeat' first
          | refine GoH ?_
          | refine ZB (hfrom _ _ _ _ _ rfl rfl) ?_
          | ((with_reducible first|apply ZD|apply ZE|apply ZF|apply ZG|apply ZH|apply ZI);rfl;rfl;all_goals (intro hc;first|(exfalso;omega)|skip))|((with_reducible first|apply ZJ|apply ZK);rfl;rfl;all_goals (intro hc;first|contradiction|skip))|((with_reducible first|apply ZL|apply ZM);rfl;rfl;omega;omega)|((with_reducible first|apply ZN|apply ZO);rfl;rfl;omega;omega;intro c hget hc)|((with_reducible apply ZP);rfl;(first|exact .inl rfl|assumption);rfl;rfl;omega;omega;omega;intro s' hs' hl')|((with_reducible apply ZQ);rfl;rfl;rfl;omega;omega;omega;intro s' hs' hl')|((with_reducible apply ZR);rfl)
          | refine GoH ?_|refine ZB rfl ?_|refine ZC rfl ?_
          | (with_reducible first|apply ZS|apply ZT)|((with_reducible apply ZU);rfl)|((with_reducible apply ZV);rfl;decide)|((with_reducible apply ZW);rfl)|refine ZX rfl rfl ?_|refine ZY rfl (by (repeat' first|exact True.intro|refine ⟨?_, ?_⟩|exact .inl rfl|exact .inr (.inl rfl)|exact .inr (.inr rfl)|rfl)) ?_|refine ZZ (Z0 rfl ⟨rfl, rfl⟩) (by (repeat' first|exact True.intro|refine ⟨?_, ?_⟩|exact .inl rfl|exact .inr (.inl rfl)|exact .inr (.inr rfl)|rfl)) ?_
          | ((with_reducible apply step_vfn (g := 44)); rfl; rfl; rfl; rfl; rfl; rfl; rfl)
        exact ⟨_, rfl, rfl⟩
      · have hT := tok2 hg0 hcl
        have := hmain _ _ _ _ hT
        rw [htk _ _ _ _ hT, ← et]
        repeat' first
          | refine GoH ?_
          | refine ZB (hfrom _ _ _ _ _ rfl rfl) ?_
          | ((with_reducible first|apply ZD|apply ZE|apply ZF|apply ZG|apply ZH|apply ZI);rfl;rfl;all_goals (intro hc;first|(exfalso;omega)|skip))|((with_reducible first|apply ZJ|apply ZK);rfl;rfl;all_goals (intro hc;first|contradiction|skip))|((with_reducible first|apply ZL|apply ZM);rfl;rfl;omega;omega)|((with_reducible first|apply ZN|apply ZO);rfl;rfl;omega;omega;intro c hget hc)|((with_reducible apply ZP);rfl;(first|exact .inl rfl|assumption);rfl;rfl;omega;omega;omega;intro s' hs' hl')|((with_reducible apply ZQ);rfl;rfl;rfl;omega;omega;omega;intro s' hs' hl')|((with_reducible apply ZR);rfl)
          | refine GoH ?_|refine ZB rfl ?_|refine ZC rfl ?_
          | (with_reducible first|apply ZS|apply ZT)|((with_reducible apply ZU);rfl)|((with_reducible apply ZV);rfl;decide)|((with_reducible apply ZW);rfl)|refine ZX rfl rfl ?_|refine ZY rfl (by (repeat' first|exact True.intro|refine ⟨?_, ?_⟩|exact .inl rfl|exact .inr (.inl rfl)|exact .inr (.inr rfl)|rfl)) ?_|refine ZZ (Z0 rfl ⟨rfl, rfl⟩) (by (repeat' first|exact True.intro|refine ⟨?_, ?_⟩|exact .inl rfl|exact .inr (.inl rfl)|exact .inr (.inr rfl)|rfl)) ?_
          | (refine step_vclo rfl rfl ⟨1, u, _, _, _, rfl, .inl rfl, rfl, h110, by omega, by omega, ?_⟩)
        exact ⟨_, rfl, rfl⟩
      · have hT := tok3 hg0 hcl
        have := hmain _ _ _ _ hT
        rw [htk _ _ _ _ hT, ← et]
        repeat' first
          | refine GoH ?_
          | refine ZB (hfrom _ _ _ _ _ rfl rfl) ?_
          | ((with_reducible first|apply ZD|apply ZE|apply ZF|apply ZG|apply ZH|apply ZI);rfl;rfl;all_goals (intro hc;first|(exfalso;omega)|skip))|((with_reducible first|apply ZJ|apply ZK);rfl;rfl;all_goals (intro hc;first|contradiction|skip))|((with_reducible first|apply ZL|apply ZM);rfl;rfl;omega;omega)|((with_reducible first|apply ZN|apply ZO);rfl;rfl;omega;omega;intro c hget hc)|((with_reducible apply ZP);rfl;(first|exact .inl rfl|assumption);rfl;rfl;omega;omega;omega;intro s' hs' hl')|((with_reducible apply ZQ);rfl;rfl;rfl;omega;omega;omega;intro s' hs' hl')|((with_reducible apply ZR);rfl)
          | refine GoH ?_|refine ZB rfl ?_|refine ZC rfl ?_
          | (with_reducible first|apply ZS|apply ZT)|((with_reducible apply ZU);rfl)|((with_reducible apply ZV);rfl;decide)|((with_reducible apply ZW);rfl)|refine ZX rfl rfl ?_|refine ZY rfl (by (repeat' first|exact True.intro|refine ⟨?_, ?_⟩|exact .inl rfl|exact .inr (.inl rfl)|exact .inr (.inr rfl)|rfl)) ?_|refine ZZ (Z0 rfl ⟨rfl, rfl⟩) (by (repeat' first|exact True.intro|refine ⟨?_, ?_⟩|exact .inl rfl|exact .inr (.inl rfl)|exact .inr (.inr rfl)|rfl)) ?_
          | (refine step_vclo rfl rfl ⟨1, u, _, _, _, rfl, .inl rfl, rfl, h110, by omega, by omega, ?_⟩)
        exact ⟨_, rfl, rfl⟩
      · by_cases hn : (numOf u).2.2 = 0
        · have hT := tok4 hg0 hcl hn
          have := hmain _ _ _ _ hT
          rw [htk _ _ _ _ hT]
          unfold F97 at h97
          rw [hn] at h97
          repeat' first
            | refine GoH ?_
            | refine ZB (hfrom _ _ _ _ _ rfl rfl) ?_
            | ((with_reducible first|apply ZD|apply ZE|apply ZF|apply ZG|apply ZH|apply ZI);rfl;rfl;all_goals (intro hc;first|(exfalso;omega)|skip))|((with_reducible first|apply ZJ|apply ZK);rfl;rfl;all_goals (intro hc;first|contradiction|skip))|((with_reducible first|apply ZL|apply ZM);rfl;rfl;omega;omega)|((with_reducible first|apply ZN|apply ZO);rfl;rfl;omega;omega;intro c hget hc)|((with_reducible apply ZP);rfl;(first|exact .inl rfl|assumption);rfl;rfl;omega;omega;omega;intro s' hs' hl')|((with_reducible apply ZQ);rfl;rfl;rfl;omega;omega;omega;intro s' hs' hl')|((with_reducible apply ZR);rfl)
            | refine GoH ?_|refine ZB rfl ?_|refine ZC rfl ?_
            | (with_reducible first|apply ZS|apply ZT)|((with_reducible apply ZU);rfl)|((with_reducible apply ZV);rfl;decide)|((with_reducible apply ZW);rfl)|refine ZX rfl rfl ?_|refine ZY rfl (by (repeat' first|exact True.intro|refine ⟨?_, ?_⟩|exact .inl rfl|exact .inr (.inl rfl)|exact .inr (.inr rfl)|rfl)) ?_|refine ZZ (Z0 rfl ⟨rfl, rfl⟩) (by (repeat' first|exact True.intro|refine ⟨?_, ?_⟩|exact .inl rfl|exact .inr (.inl rfl)|exact .inr (.inr rfl)|rfl)) ?_
            | ((with_reducible apply step_vfn (g := 66)); rfl; rfl; rfl; rfl; exact h97; rfl; rfl)
          exact ⟨_, rfl, rfl⟩
        · have hT := tok4b hg0 hcl hn
          have := hmain _ _ _ _ hT
          rw [htk _ _ _ _ hT]
          unfold F97 at h97
          repeat' first
            | refine GoH ?_
            | refine ZB (hfrom _ _ _ _ _ rfl rfl) ?_
            | ((with_reducible first|apply ZD|apply ZE|apply ZF|apply ZG|apply ZH|apply ZI);rfl;rfl;all_goals (intro hc;first|(exfalso;omega)|skip))|((with_reducible first|apply ZJ|apply ZK);rfl;rfl;all_goals (intro hc;first|contradiction|skip))|((with_reducible first|apply ZL|apply ZM);rfl;rfl;omega;omega)|((with_reducible first|apply ZN|apply ZO);rfl;rfl;omega;omega;intro c hget hc)|((with_reducible apply ZP);rfl;(first|exact .inl rfl|assumption);rfl;rfl;omega;omega;omega;intro s' hs' hl')|((with_reducible apply ZQ);rfl;rfl;rfl;omega;omega;omega;intro s' hs' hl')|((with_reducible apply ZR);rfl)
            | refine GoH ?_|refine ZB rfl ?_|refine ZC rfl ?_
            | (with_reducible first|apply ZS|apply ZT)|((with_reducible apply ZU);rfl)|((with_reducible apply ZV);rfl;decide)|((with_reducible apply ZW);rfl)|refine ZX rfl rfl ?_|refine ZY rfl (by (repeat' first|exact True.intro|refine ⟨?_, ?_⟩|exact .inl rfl|exact .inr (.inl rfl)|exact .inr (.inr rfl)|rfl)) ?_|refine ZZ (Z0 rfl ⟨rfl, rfl⟩) (by (repeat' first|exact True.intro|refine ⟨?_, ?_⟩|exact .inl rfl|exact .inr (.inl rfl)|exact .inr (.inr rfl)|rfl)) ?_
            | ((with_reducible apply step_vfn (g := 66)); rfl; rfl; rfl; rfl; exact h97; rfl; rfl)
          exact ⟨_, rfl, rfl⟩
      · have hT := tok5' hg0 hcl
        have := hmain _ _ _ _ hT
        rw [htk _ _ _ _ hT]
        unfold F96 at h96
        repeat' first
          | refine GoH ?_
          | refine ZB (hfrom _ _ _ _ _ rfl rfl) ?_
          | ((with_reducible first|apply ZD|apply ZE|apply ZF|apply ZG|apply ZH|apply ZI);rfl;rfl;all_goals (intro hc;first|(exfalso;omega)|skip))|((with_reducible first|apply ZJ|apply ZK);rfl;rfl;all_goals (intro hc;first|contradiction|skip))|((with_reducible first|apply ZL|apply ZM);rfl;rfl;omega;omega)|((with_reducible first|apply ZN|apply ZO);rfl;rfl;omega;omega;intro c hget hc)|((with_reducible apply ZP);rfl;(first|exact .inl rfl|assumption);rfl;rfl;omega;omega;omega;intro s' hs' hl')|((with_reducible apply ZQ);rfl;rfl;rfl;omega;omega;omega;intro s' hs' hl')|((with_reducible apply ZR);rfl)
          | refine GoH ?_|refine ZB rfl ?_|refine ZC rfl ?_
          | (with_reducible first|apply ZS|apply ZT)|((with_reducible apply ZU);rfl)|((with_reducible apply ZV);rfl;decide)|((with_reducible apply ZW);rfl)|refine ZX rfl rfl ?_|refine ZY rfl (by (repeat' first|exact True.intro|refine ⟨?_, ?_⟩|exact .inl rfl|exact .inr (.inl rfl)|exact .inr (.inr rfl)|rfl)) ?_|refine ZZ (Z0 rfl ⟨rfl, rfl⟩) (by (repeat' first|exact True.intro|refine ⟨?_, ?_⟩|exact .inl rfl|exact .inr (.inl rfl)|exact .inr (.inr rfl)|rfl)) ?_
          | ((with_reducible apply step_vfn (g := 65)); rfl; rfl; rfl; rfl; exact h96; rfl; rfl)
        exact ⟨_, rfl, rfl⟩
      · have hT := tok6 hg0 hcl
        have := hmain _ _ _ _ hT
        rw [htk _ _ _ _ hT]
        unfold F99 at h99
        repeat' first
          | refine GoH ?_
          | refine ZB (hfrom _ _ _ _ _ rfl rfl) ?_
          | ((with_reducible first|apply ZD|apply ZE|apply ZF|apply ZG|apply ZH|apply ZI);rfl;rfl;all_goals (intro hc;first|(exfalso;omega)|skip))|((with_reducible first|apply ZJ|apply ZK);rfl;rfl;all_goals (intro hc;first|contradiction|skip))|((with_reducible first|apply ZL|apply ZM);rfl;rfl;omega;omega)|((with_reducible first|apply ZN|apply ZO);rfl;rfl;omega;omega;intro c hget hc)|((with_reducible apply ZP);rfl;(first|exact .inl rfl|assumption);rfl;rfl;omega;omega;omega;intro s' hs' hl')|((with_reducible apply ZQ);rfl;rfl;rfl;omega;omega;omega;intro s' hs' hl')|((with_reducible apply ZR);rfl)
          | refine GoH ?_|refine ZB rfl ?_|refine ZC rfl ?_
          | (with_reducible first|apply ZS|apply ZT)|((with_reducible apply ZU);rfl)|((with_reducible apply ZV);rfl;decide)|((with_reducible apply ZW);rfl)|refine ZX rfl rfl ?_|refine ZY rfl (by (repeat' first|exact True.intro|refine ⟨?_, ?_⟩|exact .inl rfl|exact .inr (.inl rfl)|exact .inr (.inr rfl)|rfl)) ?_|refine ZZ (Z0 rfl ⟨rfl, rfl⟩) (by (repeat' first|exact True.intro|refine ⟨?_, ?_⟩|exact .inl rfl|exact .inr (.inl rfl)|exact .inr (.inr rfl)|rfl)) ?_
          | ((with_reducible apply step_vfn (g := 68)); rfl; rfl; rfl; rfl; exact h99; rfl; rfl)
        exact ⟨_, rfl, rfl⟩
      · by_cases hn : (quoteOf u).2.2 = 0
        · have hT := tok7 hg0 hcl hn
          have := hmain _ _ _ _ hT
          rw [htk _ _ _ _ hT]
          unfold F98 at h98
          rw [hn] at h98
          repeat' first
            | refine GoH ?_
            | refine ZB (hfrom _ _ _ _ _ rfl rfl) ?_
            | ((with_reducible first|apply ZD|apply ZE|apply ZF|apply ZG|apply ZH|apply ZI);rfl;rfl;all_goals (intro hc;first|(exfalso;omega)|skip))|((with_reducible first|apply ZJ|apply ZK);rfl;rfl;all_goals (intro hc;first|contradiction|skip))|((with_reducible first|apply ZL|apply ZM);rfl;rfl;omega;omega)|((with_reducible first|apply ZN|apply ZO);rfl;rfl;omega;omega;intro c hget hc)|((with_reducible apply ZP);rfl;(first|exact .inl rfl|assumption);rfl;rfl;omega;omega;omega;intro s' hs' hl')|((with_reducible apply ZQ);rfl;rfl;rfl;omega;omega;omega;intro s' hs' hl')|((with_reducible apply ZR);rfl)
            | refine GoH ?_|refine ZB rfl ?_|refine ZC rfl ?_
            | (with_reducible first|apply ZS|apply ZT)|((with_reducible apply ZU);rfl)|((with_reducible apply ZV);rfl;decide)|((with_reducible apply ZW);rfl)|refine ZX rfl rfl ?_|refine ZY rfl (by (repeat' first|exact True.intro|refine ⟨?_, ?_⟩|exact .inl rfl|exact .inr (.inl rfl)|exact .inr (.inr rfl)|rfl)) ?_|refine ZZ (Z0 rfl ⟨rfl, rfl⟩) (by (repeat' first|exact True.intro|refine ⟨?_, ?_⟩|exact .inl rfl|exact .inr (.inl rfl)|exact .inr (.inr rfl)|rfl)) ?_
            | ((with_reducible apply step_vfn (g := 67)); rfl; rfl; rfl; rfl; exact h98; rfl; rfl)
          exact ⟨_, rfl, rfl⟩
        · have hT := tok7b hg0 hcl hn
          have := hmain _ _ _ _ hT
          rw [htk _ _ _ _ hT]
          unfold F98 at h98
          repeat' first
            | refine GoH ?_
            | refine ZB (hfrom _ _ _ _ _ rfl rfl) ?_
            | ((with_reducible first|apply ZD|apply ZE|apply ZF|apply ZG|apply ZH|apply ZI);rfl;rfl;all_goals (intro hc;first|(exfalso;omega)|skip))|((with_reducible first|apply ZJ|apply ZK);rfl;rfl;all_goals (intro hc;first|contradiction|skip))|((with_reducible first|apply ZL|apply ZM);rfl;rfl;omega;omega)|((with_reducible first|apply ZN|apply ZO);rfl;rfl;omega;omega;intro c hget hc)|((with_reducible apply ZP);rfl;(first|exact .inl rfl|assumption);rfl;rfl;omega;omega;omega;intro s' hs' hl')|((with_reducible apply ZQ);rfl;rfl;rfl;omega;omega;omega;intro s' hs' hl')|((with_reducible apply ZR);rfl)
            | refine GoH ?_|refine ZB rfl ?_|refine ZC rfl ?_
            | (with_reducible first|apply ZS|apply ZT)|((with_reducible apply ZU);rfl)|((with_reducible apply ZV);rfl;decide)|((with_reducible apply ZW);rfl)|refine ZX rfl rfl ?_|refine ZY rfl (by (repeat' first|exact True.intro|refine ⟨?_, ?_⟩|exact .inl rfl|exact .inr (.inl rfl)|exact .inr (.inr rfl)|rfl)) ?_|refine ZZ (Z0 rfl ⟨rfl, rfl⟩) (by (repeat' first|exact True.intro|refine ⟨?_, ?_⟩|exact .inl rfl|exact .inr (.inl rfl)|exact .inr (.inr rfl)|rfl)) ?_
            | ((with_reducible apply step_vfn (g := 67)); rfl; rfl; rfl; rfl; exact h98; rfl; rfl)
          exact ⟨_, rfl, rfl⟩
      · have hT := tok0 hg0 (by omega) (by omega) (by omega) (by omega) (by omega) (by omega) (by omega)
        have := hmain _ _ _ _ hT
        rw [htk _ _ _ _ hT]
        repeat' first
          | refine GoH ?_
          | refine ZB (hfrom _ _ _ _ _ rfl rfl) ?_
          | ((with_reducible first|apply ZD|apply ZE|apply ZF|apply ZG|apply ZH|apply ZI);rfl;rfl;all_goals (intro hc;first|(exfalso;omega)|skip))|((with_reducible first|apply ZJ|apply ZK);rfl;rfl;all_goals (intro hc;first|contradiction|skip))|((with_reducible first|apply ZL|apply ZM);rfl;rfl;omega;omega)|((with_reducible first|apply ZN|apply ZO);rfl;rfl;omega;omega;intro c hget hc)|((with_reducible apply ZP);rfl;(first|exact .inl rfl|assumption);rfl;rfl;omega;omega;omega;intro s' hs' hl')|((with_reducible apply ZQ);rfl;rfl;rfl;omega;omega;omega;intro s' hs' hl')|((with_reducible apply ZR);rfl)
          | refine GoH ?_|refine ZB rfl ?_|refine ZC rfl ?_
          | (with_reducible first|apply ZS|apply ZT)|((with_reducible apply ZU);rfl)|((with_reducible apply ZV);rfl;decide)|((with_reducible apply ZW);rfl)|refine ZX rfl rfl ?_|refine ZY rfl (by (repeat' first|exact True.intro|refine ⟨?_, ?_⟩|exact .inl rfl|exact .inr (.inl rfl)|exact .inr (.inr rfl)|rfl)) ?_|refine ZZ (Z0 rfl ⟨rfl, rfl⟩) (by (repeat' first|exact True.intro|refine ⟨?_, ?_⟩|exact .inl rfl|exact .inr (.inl rfl)|exact .inr (.inr rfl)|rfl)) ?_
          | ((with_reducible apply step_vfn (g := 44)); rfl; rfl; rfl; rfl; rfl; rfl; rfl)
        exact ⟨_, rfl, rfl⟩
      · unfold F95 at h95
        cases hk2 : (takeOf u).2 with
        | true =>
          have hT := tok9 hg0 hcl hk2
          have := hmain _ _ _ _ hT
          rw [htk _ _ _ _ hT]
          rw [hk2] at h95
          repeat' first
            | refine GoH ?_
            | refine ZB (hfrom _ _ _ _ _ rfl rfl) ?_
            | ((with_reducible first|apply ZD|apply ZE|apply ZF|apply ZG|apply ZH|apply ZI);rfl;rfl;all_goals (intro hc;first|(exfalso;omega)|skip))|((with_reducible first|apply ZJ|apply ZK);rfl;rfl;all_goals (intro hc;first|contradiction|skip))|((with_reducible first|apply ZL|apply ZM);rfl;rfl;omega;omega)|((with_reducible first|apply ZN|apply ZO);rfl;rfl;omega;omega;intro c hget hc)|((with_reducible apply ZP);rfl;(first|exact .inl rfl|assumption);rfl;rfl;omega;omega;omega;intro s' hs' hl')|((with_reducible apply ZQ);rfl;rfl;rfl;omega;omega;omega;intro s' hs' hl')|((with_reducible apply ZR);rfl)
            | refine GoH ?_|refine ZB rfl ?_|refine ZC rfl ?_
            | (with_reducible first|apply ZS|apply ZT)|((with_reducible apply ZU);rfl)|((with_reducible apply ZV);rfl;decide)|((with_reducible apply ZW);rfl)|refine ZX rfl rfl ?_|refine ZY rfl (by (repeat' first|exact True.intro|refine ⟨?_, ?_⟩|exact .inl rfl|exact .inr (.inl rfl)|exact .inr (.inr rfl)|rfl)) ?_|refine ZZ (Z0 rfl ⟨rfl, rfl⟩) (by (repeat' first|exact True.intro|refine ⟨?_, ?_⟩|exact .inl rfl|exact .inr (.inl rfl)|exact .inr (.inr rfl)|rfl)) ?_
            | ((with_reducible apply step_vfn (g := 64)); rfl; rfl; rfl; rfl; exact h95; rfl; rfl)
          exact ⟨_, rfl, rfl⟩
        | false =>
          have hT := tok9b hg0 hcl hk2
          have := hmain _ _ _ _ hT
          rw [htk _ _ _ _ hT]
          rw [hk2] at h95
          repeat' first
            | refine GoH ?_
            | refine ZB (hfrom _ _ _ _ _ rfl rfl) ?_
            | ((with_reducible first|apply ZD|apply ZE|apply ZF|apply ZG|apply ZH|apply ZI);rfl;rfl;all_goals (intro hc;first|(exfalso;omega)|skip))|((with_reducible first|apply ZJ|apply ZK);rfl;rfl;all_goals (intro hc;first|contradiction|skip))|((with_reducible first|apply ZL|apply ZM);rfl;rfl;omega;omega)|((with_reducible first|apply ZN|apply ZO);rfl;rfl;omega;omega;intro c hget hc)|((with_reducible apply ZP);rfl;(first|exact .inl rfl|assumption);rfl;rfl;omega;omega;omega;intro s' hs' hl')|((with_reducible apply ZQ);rfl;rfl;rfl;omega;omega;omega;intro s' hs' hl')|((with_reducible apply ZR);rfl)
            | refine GoH ?_|refine ZB rfl ?_|refine ZC rfl ?_
            | (with_reducible first|apply ZS|apply ZT)|((with_reducible apply ZU);rfl)|((with_reducible apply ZV);rfl;decide)|((with_reducible apply ZW);rfl)|refine ZX rfl rfl ?_|refine ZY rfl (by (repeat' first|exact True.intro|refine ⟨?_, ?_⟩|exact .inl rfl|exact .inr (.inl rfl)|exact .inr (.inr rfl)|rfl)) ?_|refine ZZ (Z0 rfl ⟨rfl, rfl⟩) (by (repeat' first|exact True.intro|refine ⟨?_, ?_⟩|exact .inl rfl|exact .inr (.inl rfl)|exact .inr (.inr rfl)|rfl)) ?_
            | ((with_reducible apply step_vfn (g := 64)); rfl; rfl; rfl; rfl; exact h95; rfl; rfl)
          exact ⟨_, rfl, rfl⟩
theorem pe95 (m : Int) : PureOk Go.Proofs.Tryd.prog (glb m) 64 (onB F95) := onB_ok (fn95 m) (callh_cons (hok94 (fn94 m)) (callh_cons (hok109 (fn109 m) (pe110 m)) (callh_nil (callOk_cons (pe111 m) (callOk_nil _ _))))) we95
theorem pe60 (m : Int) : PureOk Go.Proofs.Tryd.prog (glb m) 17 (onBI inE FNext) :=
  onBI_ok (fn60 m) (callh_cons (hok79 (fn79 m) (hok94 (fn94 m))) (callh_cons (hok109 (fn109 m) (pe110 m)) (callh_nil (callOk_cons (pe78 m) (callOk_cons (pok80 m) (callOk_cons (pure_ok (fn81 m) (callOk_nil _ _) w81) (callOk_cons (pe95 m) (callOk_cons (pe96 m) (callOk_cons (pe97 m) (callOk_cons (pe98 m) (callOk_cons (pe99 m) (callOk_nil _ _)))))))))))) we60
theorem nextE_call {sz : Nat} {s : List UInt8} {i : Nat} {o : Option Tok} (hz : sz = 1 ∨ s = []) (hr : s.length ≤ room) (hi : i ≤ s.length) (ho : nextOf s i = o) : onBI inE FNext [.c (.list sz (encB s)), .c (.int .i64 (i : Nat))] = some (match (generalizing := false) o with | some t => .tup [.agg (tokC t), .c (.bool true)] | none => .tup [.agg [.int .i64 0, .int .i64 0, .int .i64 0, .str [], .int .i64 0], .c (.bool false)]) := by
  rw [onBI_eq hz hr (by simp [inE, hi]), FNext, ho]
  cases o <;> rfl
def I37e (sz : Nat) (s : List UInt8) (n : Nat) (st : St) : Prop := ∃ (i : Nat) (l : List Tok) (nx : Nat), i ≤ s.length ∧ s.length - i < n ∧ l.length ≤ i ∧ 0 < nx ∧ allR s 0 = l ++ allR s i ∧
  st = ⟨[(0, .c (.d (.list sz (encB s)))), (3, .c (.own 0 (l.map tokC).length)), (4, .c (.d (.int .i64 (i : Nat))))], ⟨nx, [(0, .row 5 (l.map tokC))]⟩⟩
set_option maxRecDepth 8000 in
set_option maxHeartbeats 8000000 in
theorem we37 (sz : Nat) (s : List UInt8) (hz : sz = 1 ∨ s = []) (hroom : s.length ≤ room) : awp (tbl [(17, onBI inE FNext)]) c37 (PureQ [.t 2] (FAll s)) ⟨argE 0 (dvArgs [.c (.list sz (encB s))]), ⟨0, []⟩⟩ := by
  have hroom' := hroom
  unfold room at hroom
  unfold c37
  repeat' first | refine GoH ?_|refine ZB rfl ?_|refine ZC rfl ?_
  refine awp_loop (I37e sz s) (s.length + 1) ?_ (by rintro st ⟨i, l, nx, h1, h2, _⟩; omega) ?_
  · exact weak_keep [0, 3, 4] rfl ⟨0, [], 1, by omega, by omega, by simp, by omega, rfl, rfl⟩
  · rintro n K hK st ⟨i, l, nx, h1, h2, h3, h4, hq, rfl⟩
    have hne : nx ≠ 0 := by omega
    obtain ⟨o, ho⟩ : ∃ o, nextOf s i = o := ⟨_, rfl⟩
    have hcall := nextE_call hz hroom' h1 ho
    cases o with
    | none =>
      simp only at hcall
      have hall : FAll s = .c (.list 5 (((l.map tokC).take (l.map tokC).length).drop 0)) := by unfold FAll; rw [allOf_R, hq, allR_none h1 ho, List.append_nil, List.take_length]; rfl
      rw [hall]
      repeat' first
        | refine GoH ?_
        | ((with_reducible apply Z1 (f := 17));rfl;rfl;rfl;exact hcall;rfl)
        | (refine ZC (ev_store rfl rfl rfl look_hd rfl put_hd) ?_)
        | ((with_reducible apply step_len_own); rfl; exact look_tl hne look_hd; rfl)
        | (refine ZB (ev_slice_own rfl (look_tl hne look_hd) rfl (bounds_full rfl rfl)) ?_)
        | refine GoH ?_|refine ZB rfl ?_|refine ZC rfl ?_
      exact ⟨_, rfl, rfl⟩
    | some t =>
      have hb := nextOf_bd h1 ho
      have hstep := allR_some h1 ho
      simp only at hcall
      repeat' first
        | refine GoH ?_
        | ((with_reducible apply Z1 (f := 17));rfl;rfl;rfl;exact hcall;rfl)
        | (refine ZC (ev_store rfl rfl rfl look_hd rfl put_hd) ?_)
        | refine GoH ?_|refine ZB rfl ?_|refine ZC rfl ?_
      apply ZS
      refine ZX rfl rfl ?_
      refine ZY (ev_load rfl look_hd rfl) trivial ?_
      refine ZY rfl ⟨trivial, trivial⟩ ?_
      refine ZZ (Z0 (ev_app_own rfl rfl (look_tl hne look_hd) rfl (by show (l.map tokC).length + 1 ≤ room; rw [List.length_map]; unfold room; omega) (put_tl hne put_hd)) ⟨rfl, rfl⟩) (by (repeat' first|exact True.intro|refine ⟨?_, ?_⟩|exact .inl rfl|exact .inr (.inl rfl)|exact .inr (.inr rfl)|rfl)) ?_
      refine ZX rfl rfl ?_
      refine ZY (ev_load rfl look_hd rfl) ⟨.inr (.inr (ev_load rfl look_hd rfl)), trivial, trivial, trivial⟩ ?_
      refine ZX rfl rfl ?_
      refine ZX rfl rfl ?_
      apply ZT
      repeat' first | refine GoH ?_|refine ZB rfl ?_|refine ZC rfl ?_
      refine hK _ (weak_drop [0, 3, 4] rfl (look_more (by simp [look]; omega)) (Nat.le_refl _) ⟨t.b, l ++ [t], nx + 1, by omega, by omega, by simp; omega, by omega, by rw [hq, hstep]; simp, ?_⟩)
      simp only [List.map_append]
      rfl
theorem pe37 (m : Int) : PureOk Go.Proofs.Tryd.prog (glb m) 9 (onB FAll) := onB_ok (fn37 m) (callOk_cons (pe60 m) (callOk_nil _ _)) we37
end Go.Am
