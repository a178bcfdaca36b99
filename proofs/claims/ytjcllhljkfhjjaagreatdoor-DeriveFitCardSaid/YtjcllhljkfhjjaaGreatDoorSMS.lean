/-
  The reference's tokens.
-/
import Derived.Test.YtjcllhljkfhjjaaGreatDoorSMQ
import Derived.Test.YtjcllhljkfhjjaaGreatDoorSML
import Derived.Test.YtjcllhljkfhjjaaGreatDoorSMG
import Derived.Test.YtjcllhljkfhjjaaGreatDoorSQU
import Derived.Test.YtjcllhljkfhjjaaGreatDoorSEP
import Derived.Test.YtjcllhljkfhjjaaGreatDoorSMD
namespace Go.Am
open Go
def someB (s : List UInt8) : Bool := !s.isEmpty
def FEnds (s : List UInt8) : DV := .c (.bool (endsB s))
set_option maxRecDepth 8000 in
theorem w132 (sz : Nat) (s : List UInt8) (_ : sz = 1 ∨ s = []) (_ : s.length ≤ room) (hp : someB s = true) : awp (tbl [(110, G80)]) c132 (PureQ [.t 2] (FEnds s)) ⟨argE 0 (dvArgs [.c (.list sz (encB s))]), ⟨0, []⟩⟩ := by
  have hl : (encB s).length = s.length := encB_length s
  unfold FEnds
  match s, hp with
  | [c], _ =>
    have hl1 : (encB [c]).length = 1 := rfl
    unfold c132
    repeat' first | ((with_reducible first|apply ZD|apply ZE|apply ZF|apply ZG|apply ZH|apply ZI);rfl;rfl;all_goals (intro hc;first|(exfalso;omega)|skip))|((with_reducible first|apply ZJ|apply ZK);rfl;rfl;all_goals (intro hc;first|contradiction|skip))|((with_reducible first|apply ZL|apply ZM);rfl;rfl;omega;omega)|((with_reducible first|apply ZN|apply ZO);rfl;rfl;omega;omega;intro c hget hc)|((with_reducible apply ZP);rfl;(first|exact .inl rfl|assumption);rfl;rfl;omega;omega;omega;intro s' hs' hl')|((with_reducible apply ZQ);rfl;rfl;rfl;omega;omega;omega;intro s' hs' hl')|((with_reducible apply ZR);rfl) | refine GoH ?_|refine ZB rfl ?_|refine ZC rfl ?_
    exact ⟨_, rfl, rfl⟩
  | c :: d :: r, _ =>
    have hl1 : (encB (c :: d :: r)).length = r.length + 2 := by rw [encB_length]; rfl
    have hg1 : (c :: d :: r)[1]? = some d := rfl
    unfold c132
    repeat' first
      | ((with_reducible apply step_byteN (i := 1)); rfl; rfl; exact hg1)
      | ((with_reducible first|apply ZD|apply ZE|apply ZF|apply ZG|apply ZH|apply ZI);rfl;rfl;all_goals (intro hc;first|(exfalso;omega)|skip))|((with_reducible first|apply ZJ|apply ZK);rfl;rfl;all_goals (intro hc;first|contradiction|skip))|((with_reducible first|apply ZL|apply ZM);rfl;rfl;omega;omega)|((with_reducible first|apply ZN|apply ZO);rfl;rfl;omega;omega;intro c hget hc)|((with_reducible apply ZP);rfl;(first|exact .inl rfl|assumption);rfl;rfl;omega;omega;omega;intro s' hs' hl')|((with_reducible apply ZQ);rfl;rfl;rfl;omega;omega;omega;intro s' hs' hl')|((with_reducible apply ZR);rfl)
      | ((with_reducible apply Z1 (f := 110));rfl;rfl;rfl;exact (G80_eq _);rfl)
      | refine GoH ?_|refine ZB rfl ?_|refine ZC rfl ?_
    all_goals
      refine ⟨_, rfl, ?_⟩
      simp only [endsB]
      first
      | (rw [show (classOf d == 1 || classOf d == 8) = true by simp; omega]; rfl)
      | (rw [show (classOf d == 1 || classOf d == 8) = false by simp; omega]; rfl)
theorem pok132 (m : Int) : PureOk Go.Proofs.Tryz.prog (glb m) 116 (onBp someB FEnds) := onBp_ok (fn132 m) (callOk_cons (pok126 m) (callOk_nil _ _)) w132
theorem take0 {s s' : List UInt8} {n : Nat} (h : s' = (s.take ((n : Nat) : Int).toNat).drop (0 : Int).toNat) : s' = s.take n := by simpa using h
set_option maxRecDepth 8000 in
set_option maxHeartbeats 8000000 in
theorem w120 (sz : Nat) (s : List UInt8) (hz : sz = 1 ∨ s = []) (hroom : s.length ≤ room) (hp : someB s = true) : awp (tbl [(110, G80), (113, onB FTake), (114, onB FName), (115, G90), (116, onBp someB FEnds), (117, onB FNum), (118, onB (FQuote 0))]) c120 (PureQ [.cell 2 5 true] (FFirst s)) ⟨argE 0 (dvArgs [.c (.list sz (encB s))]), ⟨0, []⟩⟩ := by
  have hl : (encB s).length = s.length := encB_length s
  have hroom' := hroom
  unfold room at hroom
  have hlen : 0 < s.length := by
    cases s with
    | nil => cases hp
    | cons c r => simp
  obtain ⟨c, hg, -, -⟩ := at_of hlen
  obtain ⟨k, ok, hT⟩ : ∃ k ok, takeOf s = (k, ok) := ⟨_, _, rfl⟩
  have hok : (takeOf s).2 = ok := by rw [hT]
  have hth : ok = true → classOf c = 9 → 2 ≤ k := fun ho h9 => by
    have := take_high hg (class9 c h9)
    rw [hT] at this
    exact this ho
  have hnm := nameOf_le s
  have hrn := runOf_le 5 s
  have hnu := numOf_le s
  have hqu := quoteOf_le s
  have k5 := k90 sz s 5 hz hroom'
  have hcl := class_le c
  have hn1 : onB FName [.c (.list sz (encB s))] = some (.c (.int .i64 ((nameOf s : Nat) : Int))) := onB_eq hz hroom'
  have hd1 : onB FNum [.c (.list sz (encB s))] = some (.tup [.c (.int .i64 (numOf s).1), .c (.int .i64 ((numOf s).2.1 : Nat)), .c (.int .i64 (numOf s).2.2)]) := onB_eq hz hroom'
  have hq1 : onB (FQuote 0) [.c (.list sz (encB s))] = some (.tup [.c (.list (if (quoteOf s).2.2 = 0 then 1 else 0) (encB (quoteOf s).1)), .c (.int .i64 ((quoteOf s).2.1 : Nat)), .c (.int .i64 (quoteOf s).2.2)]) := onB_eq hz hroom'
  have he1 : onBp someB FEnds [.c (.list sz (encB s))] = some (.c (.bool (endsB s))) := onBp_eq hz hroom' hp
  unfold c120
  cases ok <;>
  (try have hth := hth rfl) <;>
  repeat' first
    | ((with_reducible apply step_byteN (i := 0)); rfl; rfl; exact hg)
    | ((with_reducible first|apply ZD|apply ZE|apply ZF|apply ZG|apply ZH|apply ZI);rfl;rfl;all_goals (intro hc;first|(exfalso;omega)|skip))|((with_reducible first|apply ZJ|apply ZK);rfl;rfl;all_goals (intro hc;first|contradiction|skip))|((with_reducible first|apply ZL|apply ZM);rfl;rfl;omega;omega)|((with_reducible first|apply ZN|apply ZO);rfl;rfl;omega;omega;intro c hget hc)|((with_reducible apply ZP);rfl;(first|exact .inl rfl|assumption);rfl;rfl;omega;omega;omega;intro s' hs' hl')|((with_reducible apply ZQ);rfl;rfl;rfl;omega;omega;omega;intro s' hs' hl')|((with_reducible apply ZR);rfl)
    | ((with_reducible apply Z1 (f := 110));rfl;rfl;rfl;exact (G80_eq _);rfl)
    | ((with_reducible apply Z1 (f := 113));rfl;rfl;rfl;exact (take_call hz hroom' hT);rfl)
    | ((with_reducible apply Z1 (f := 114));rfl;rfl;rfl;exact hn1;rfl)
    | ((with_reducible apply Z1 (f := 115));rfl;rfl;rfl;exact k5;rfl)
    | (((with_reducible apply Z1 (f := 116));rfl;rfl;rfl;exact he1;rfl); refine step_bool (fun hb => ?_) (fun hb => ?_))
    | ((with_reducible apply Z1 (f := 117));rfl;rfl;rfl;exact hd1;rfl)
    | ((with_reducible apply Z1 (f := 118));rfl;rfl;rfl;exact hq1;rfl)
    | refine ZB (ev_b2s rfl) ?_
    | (refine ZC (ev_store rfl rfl rfl look_hd rfl put_hd) ?_)
    | refine GoH ?_|refine ZB rfl ?_|refine ZC rfl ?_
    | (rw [ffirst (tok2 hg (by omega)), ← take0 hs']; exact ⟨_, rfl, rfl⟩)
    | (rw [ffirst (tok3 hg (by omega)), ← take0 hs']; exact ⟨_, rfl, rfl⟩)
    | (rw [ffirst (tok9 hg (by omega) hok), ← take0 hs']; exact ⟨_, rfl, rfl⟩)
    | (rw [ffirst (tok9b hg (by omega) hok)]; exact ⟨_, rfl, rfl⟩)
    | (rw [ffirst (tok5 hg (by omega)), ← take0 hs', if_pos ⟨by omega, by omega, hb⟩]; exact ⟨_, rfl, rfl⟩)
    | (rw [ffirst (tok5 hg (by omega)), ← take0 hs', if_neg (by rintro ⟨h1, h2, h3⟩; first | omega | (rw [hb] at h3; cases h3))]; exact ⟨_, rfl, rfl⟩)
    | (rw [ffirst (tok4 hg (by omega) (by omega)), ← take0 hs']; exact ⟨_, rfl, rfl⟩)
    | (rw [ffirst (tok4b hg (by omega) (by omega))]; exact ⟨_, rfl, rfl⟩)
    | (rw [ffirst (tok7 hg (by omega) (by omega))]; exact ⟨_, rfl, rfl⟩)
    | (rw [ffirst (tok7b hg (by omega) (by omega))]; exact ⟨_, rfl, rfl⟩)
    | (rw [ffirst (tok6 hg (by omega)), show s.take 1 = s' from (take0 (n := 1) hs').symm]; exact ⟨_, rfl, rfl⟩)
    | (rw [ffirst (tok0 hg (by omega) (by omega) (by omega) (by omega) (by omega) (by omega) (by omega))]; exact ⟨_, rfl, rfl⟩)
theorem pok120 (m : Int) : PureOk Go.Proofs.Tryz.prog (glb m) 107 (onBp someB FFirst) := onBp_ok (fn120 m) (callOk_cons (pok126 m) (callOk_cons (pok129 m) (callOk_cons (pok130 m) (callOk_cons (pok131 m) (callOk_cons (pok132 m) (callOk_cons (pok133 m) (callOk_cons (pok134 m) (callOk_nil _ _)))))))) w120
theorem drop_of {s s' : List UInt8} {v : Int} {n i : Nat} (h : s' = (s.take n).drop v.toNat) (hn : n = s.length) (hv : v = i) : s' = s.drop i := by
  subst hn
  subst hv
  rw [h, List.take_length]
  rfl
theorem skip_call {s s' : List UInt8} {i k : Nat} {e : Int} (h : s' = s.drop i) (hr : s'.length ≤ room) (hS : skipR (s.drop i) = (k, e)) : onB FSkip [.c (.list 1 (encB s'))] = some (.tup [.c (.int .i64 (k : Nat)), .c (.int .i64 e)]) := by
  rw [onB_eq (.inl rfl) hr, FSkip, h, hS]
theorem first_call {s s' : List UInt8} {i : Nat} {kd cd : Int} {z : Nat} {tx : List UInt8} (h : s' = s.drop i) (hr : s'.length ≤ room) (hp : 0 < s'.length) (hT : tokOf (s.drop i) = ⟨kd, z, tx, cd⟩) : onBp someB FFirst [.c (.list 1 (encB s'))] = some (.agg [.int .i64 kd, .int .i64 0, .int .i64 (z : Nat), .str tx, .int .i64 cd]) := by
  rw [onBp_eq (.inl rfl) hr (by unfold someB; cases s' with | nil => simp at hp | cons a b => rfl), FFirst, h, hT]
theorem fnext_bad' {s : List UInt8} {i k : Nat} {e : Int} (hS : skipR (s.drop i) = (k, e)) (h : e ≠ 0) : FNext s i = .tup [.agg [.int .i64 8, .int .i64 ((i + k : Nat) : Int), .int .i64 (s.length : Nat), .str [], .int .i64 e], .c (.bool true)] := by
  have := fnext_bad (s := s) (i := i) (by rw [hS]; exact h)
  rw [hS] at this
  exact this
theorem fnext_none' {s : List UInt8} {i k : Nat} (hS : skipR (s.drop i) = (k, 0)) (h2 : i + k = s.length) : FNext s i = .tup [.agg [.int .i64 0, .int .i64 0, .int .i64 0, .str [], .int .i64 0], .c (.bool false)] := fnext_none (by rw [hS]) (by rw [hS]; exact h2)
theorem fnext_tok' {s : List UInt8} {i k : Nat} (hS : skipR (s.drop i) = (k, 0)) (h2 : i + k ≠ s.length) {kd cd : Int} {z : Nat} {tx : List UInt8} (hT : tokOf (s.drop (i + k)) = ⟨kd, z, tx, cd⟩) : FNext s i = .tup [.agg [.int .i64 kd, .int .i64 ((i + k : Nat) : Int), .int .i64 ((i + k + z : Nat) : Int), .str tx, .int .i64 cd], .c (.bool true)] := by
  have h1 : (skipR (s.drop i)).1 = k := by rw [hS]
  have := fnext_tok (s := s) (i := i) (by rw [hS]) (by rw [h1]; exact h2) (t := ⟨kd, z, tx, cd⟩) (by rw [h1]; exact hT)
  rw [h1] at this
  exact this
def inB (s : List UInt8) (i : Nat) : Bool := decide (i ≤ s.length)
set_option maxRecDepth 8000 in
set_option maxHeartbeats 8000000 in
theorem w104 (sz : Nat) (s : List UInt8) (i : Nat) (hz : sz = 1 ∨ s = []) (hroom : s.length ≤ room) (hp : inB s i = true) : awp (tbl [(106, onB FSkip), (107, onBp someB FFirst)]) c104 (PureQ [.cell 4 5 true, .t 5] (FNext s i)) ⟨argE 0 (dvArgs [.c (.list sz (encB s)), .c (.int .i64 (i : Nat))]), ⟨0, []⟩⟩ := by
  have hl : (encB s).length = s.length := encB_length s
  have hroom' := hroom
  unfold room at hroom
  simp only [inB, decide_eq_true_eq] at hp
  obtain ⟨k, e, hS⟩ : ∃ k e, skipR (s.drop i) = (k, e) := ⟨_, _, rfl⟩
  have hb := skipR_bd (s.drop i)
  rw [hS, List.length_drop] at hb
  simp only at hb
  obtain ⟨hb1, hb2⟩ := hb
  obtain ⟨kd, z, tx, cd, hT⟩ : ∃ kd z tx cd, tokOf (s.drop (i + k)) = ⟨kd, z, tx, cd⟩ := ⟨_, _, _, _, rfl⟩
  have hbd : i + k < s.length → 1 ≤ z ∧ i + k + z ≤ s.length := by
    intro hlt
    obtain ⟨c, _, _, hg⟩ := at_of hlt
    have := tokOf_bd hg
    rw [hT, List.length_drop] at this
    simp only at this
    omega
  unfold c104
  repeat' first
    | ((with_reducible first|apply ZD|apply ZE|apply ZF|apply ZG|apply ZH|apply ZI);rfl;rfl;all_goals (intro hc;first|(exfalso;omega)|skip))|((with_reducible first|apply ZJ|apply ZK);rfl;rfl;all_goals (intro hc;first|contradiction|skip))|((with_reducible first|apply ZL|apply ZM);rfl;rfl;omega;omega)|((with_reducible first|apply ZN|apply ZO);rfl;rfl;omega;omega;intro c hget hc)|((with_reducible apply ZP);rfl;(first|exact .inl rfl|assumption);rfl;rfl;omega;omega;omega;intro s' hs' hl')|((with_reducible apply ZQ);rfl;rfl;rfl;omega;omega;omega;intro s' hs' hl')|((with_reducible apply ZR);rfl)
    | ((with_reducible apply Z1 (f := 106)); rfl; rfl; rfl; exact skip_call (drop_of hs' hl.symm rfl) (by unfold room; omega) hS; rfl)
    | ((with_reducible apply Z1 (f := 106)); rfl; rfl; rfl; exact skip_call (drop_of hs' rfl rfl) (by unfold room; omega) hS; rfl)
    | ((with_reducible apply Z1 (f := 107)); rfl; rfl; rfl; exact first_call (drop_of hs' rfl rfl) (by unfold room; omega) (by omega) hT; rfl)
    | (refine ZC (ev_store rfl rfl rfl look_hd rfl put_hd) ?_)
    | refine GoH ?_|refine ZB rfl ?_|refine ZC rfl ?_
    | (rw [fnext_bad' hS (by assumption)]; rw [← hl]; exact ⟨_, rfl, rfl⟩)
    | (obtain rfl : e = 0 := by omega
       first
       | (rw [fnext_none' hS (by omega)]; exact ⟨_, rfl, rfl⟩)
       | (rw [fnext_tok' hS (by omega) hT]; exact ⟨_, rfl, rfl⟩))
theorem pok104 (m : Int) : PureOk Go.Proofs.Tryz.prog (glb m) 100 (onBI inB FNext) := onBI_ok (fn104 m) (callOk_cons (pok119 m) (callOk_cons (pok120 m) (callOk_nil _ _))) w104
def nextDV : Option Tok → DV
  | some t => .tup [.agg (tokC t), .c (.bool true)]
  | none => .tup [.agg [.int .i64 0, .int .i64 0, .int .i64 0, .str [], .int .i64 0], .c (.bool false)]
theorem next_call {sz : Nat} {s : List UInt8} {i : Nat} {o : Option Tok} (hz : sz = 1 ∨ s = []) (hr : s.length ≤ room) (hi : i ≤ s.length) (ho : nextOf s i = o) : onBI inB FNext [.c (.list sz (encB s)), .c (.int .i64 (i : Nat))] = some (nextDV o) := by
  rw [onBI_eq hz hr (by simp [inB, hi]), ← ho, FNext]
  cases nextOf s i <;> rfl
def I87 (sz : Nat) (s : List UInt8) (n : Nat) (st : St) : Prop := ∃ (i : Nat) (l : List Tok) (nx : Nat), i ≤ s.length ∧ s.length - i < n ∧ l.length ≤ i ∧ 0 < nx ∧ allR s 0 = l ++ allR s i ∧
  st = ⟨[(0, .c (.d (.list sz (encB s)))), (3, .c (.own 0 (l.map tokC).length)), (4, .c (.d (.int .i64 (i : Nat))))], ⟨nx, [(0, .row 5 (l.map tokC))]⟩⟩
set_option maxRecDepth 8000 in
set_option maxHeartbeats 8000000 in
theorem w87 (sz : Nat) (s : List UInt8) (hz : sz = 1 ∨ s = []) (hroom : s.length ≤ room) : awp (tbl [(100, onBI inB FNext)]) c87 (PureQ [.t 2] (FAll s)) ⟨argE 0 (dvArgs [.c (.list sz (encB s))]), ⟨0, []⟩⟩ := by
  have hroom' := hroom
  unfold room at hroom
  unfold c87
  repeat' first | refine GoH ?_|refine ZB rfl ?_|refine ZC rfl ?_
  refine awp_loop (I87 sz s) (s.length + 1) ?_ (by rintro st ⟨i, l, nx, h1, h2, _⟩; omega) ?_
  · exact weak_keep [0, 3, 4] rfl ⟨0, [], 1, by omega, by omega, by simp, by omega, rfl, rfl⟩
  · rintro n K hK st ⟨i, l, nx, h1, h2, h3, h4, hq, rfl⟩
    have hne : nx ≠ 0 := by omega
    have hml : (l.map tokC).length = l.length := by simp
    obtain ⟨o, ho⟩ : ∃ o, nextOf s i = o := ⟨_, rfl⟩
    have hcall := next_call hz hroom' h1 ho
    cases o with
    | none =>
      simp only [nextDV] at hcall
      have hall : FAll s = .c (.list 5 (l.map tokC)) := by unfold FAll; rw [allOf_R, hq, allR_none h1 ho, List.append_nil]
      rw [hall]
      repeat' first
        | ((with_reducible apply Z1 (f := 100));rfl;rfl;rfl;exact hcall;rfl)
        | (refine ZC (ev_store rfl rfl rfl look_hd rfl put_hd) ?_)
        | refine GoH ?_|refine ZB rfl ?_|refine ZC rfl ?_
      exact ⟨_, rfl, toDVt_own1 (look_tl hne look_hd) rfl⟩
    | some t =>
      have hb := nextOf_bd h1 ho
      simp only [nextDV] at hcall
      have hstep := allR_some h1 ho
      repeat' first
        | ((with_reducible apply Z1 (f := 100));rfl;rfl;rfl;exact hcall;rfl)
        | (refine ZC (ev_store rfl rfl rfl look_hd rfl put_hd) ?_)
        | refine ZB (ev_load rfl look_hd rfl) ?_
        | refine ZB (ev_app_own rfl rfl (look_tl hne look_hd) rfl (by show (l.map tokC).length + 1 ≤ room; unfold room; omega) (put_tl hne put_hd)) ?_
        | refine GoH ?_|refine ZB rfl ?_|refine ZC rfl ?_
      refine hK _ (weak_drop [0, 3, 4] rfl (look_more (by simp [look]; omega)) (Nat.le_refl _) ⟨t.b, l ++ [t], nx + 1, by omega, by omega, by simp; omega, by omega, by rw [hq, hstep]; simp, ?_⟩)
      simp only [List.map_append]
      rfl
theorem pok87 (m : Int) : PureOk Go.Proofs.Tryz.prog (glb m) 89 (onB FAll) := onB_ok (fn87 m) (callOk_cons (pok104 m) (callOk_nil _ _)) w87
def G74 : List DV → Option DV
  | [.c (.str s)] => if s.length ≤ room then some (.c (.bool (partE s))) else none
  | _ => none
theorem fall_at {s : List UInt8} (hr : s.length ≤ room) : onB FAll [.c (.list 1 (encB s))] = some (.c (.list 5 ((allOf s).map tokC))) := onB_eq (.inl rfl) hr
theorem partE_idx {s : List UInt8} {i : Nat} {c : UInt8} (h : s[i]? = some c) (hc : (c.toNat : Int) = 95) : partE s = false := by
  have hc' : c = 95 := UInt8.toNat_inj.1 (by show c.toNat = 95; omega)
  have h0 : 0 ≤ Lib.indexByte s 95 := by
    have hge := Lib.indexByte_ge s 95
    refine Decidable.byContradiction fun hn => ?_
    exact Lib.indexByte_none (l := s) (c := 95) (by omega) i (by rw [h, hc'])
  unfold partE partV
  split
  · rw [decide_eq_true h0]; simp
  · rfl
theorem no95_idx' {s : List UInt8} (h : ∀ (i : Nat) (c : UInt8), s[i]? = some c → (c.toNat : Int) ≠ 95) : decide (0 ≤ Lib.indexByte s 95) = false := by
  refine decide_eq_false fun hn => ?_
  have := (Lib.indexByte_some (l := s) (c := 95) (o := (Lib.indexByte s 95).toNat) (by omega)).1
  exact h _ _ this rfl
theorem bads_no {s : List UInt8} (h1 : s ≠ [40]) (h2 : s ≠ [41]) (h3 : s ≠ [44]) (h4 : s ≠ [46]) (h5 : s ≠ [58, 45]) : hasS bads s = false := by
  simp [hasS, bads, idxOf, h1, h2, h3, h4, h5]
theorem bads_yes {s : List UInt8} (h : s = [40] ∨ s = [41] ∨ s = [44] ∨ s = [46] ∨ s = [58, 45]) : hasS bads s = true := by
  rcases h with rfl | rfl | rfl | rfl | rfl <;> decide
set_option maxRecDepth 8000 in
set_option maxHeartbeats 8000000 in
theorem w74 (ds : List DV) (r : DV) (h : G74 ds = some r) : awp (tbl [(89, onB FAll)]) c74 (PureQ [.t 2] r) ⟨argE 0 (dvArgs ds), ⟨0, []⟩⟩ := by
  unfold G74 at h
  split at h
  · rename_i s
    split at h
    · rename_i hroom
      cases h
      have hroom' := hroom
      unfold room at hroom
      have hs2b : ∀ nx ob e x, ev e x = .c (.d (.str s)) → eval (tbl [(89, onB FAll)]) e ⟨nx, ob⟩ (.s2b x false) = some (.c (.d (.list 1 (encB s))), ⟨nx, ob⟩) := by
        intro nx ob e x he
        simp only [eval, he, if_pos hroom']
      unfold c74
      repeat' first | refine GoH ?_|refine ZB rfl ?_|refine ZC rfl ?_
      refine awp_loop (fun m st => ∃ i : Nat, i ≤ s.length ∧ s.length - i < m ∧ (∀ (j : Nat) (c : UInt8), j < i → s[j]? = some c → (c.toNat : Int) ≠ 95) ∧
        st = ⟨[(0, .c (.d (.str s))), (3, .c (.d (.int .i64 (i : Nat))))], ⟨0, []⟩⟩) (s.length + 1) ?_ (by rintro st ⟨i, h1, h2, _⟩; omega) ?_
      · exact weak_keep [0, 3] rfl ⟨0, by omega, by omega, fun j c hj => by omega, rfl⟩
      · rintro m K hK st ⟨i, hi, hm, hno, rfl⟩
        by_cases hend : i = s.length
        · have hidx := no95_idx' (s := s) (fun j c hc => hno j c (by have := (List.getElem?_eq_some_iff.1 hc).1; omega) hc)
          have hall := fall_at hroom'
          have hpE : partE s = partV (onB FAll) s := rfl
          match hA : allOf s with
          | [] =>
            rw [hA, List.map_nil] at hall
            have e : partE s = false := by rw [hpE]; unfold partV; rw [hall]
            rw [e]
            have hlen : (([] : List (List D)).length : Int) = 0 := rfl
            repeat' first | ((with_reducible first|apply ZD|apply ZE|apply ZF|apply ZG|apply ZH|apply ZI);rfl;rfl;all_goals (intro hc;first|(exfalso;omega)|skip))|((with_reducible first|apply ZJ|apply ZK);rfl;rfl;all_goals (intro hc;first|contradiction|skip))|((with_reducible first|apply ZL|apply ZM);rfl;rfl;omega;omega)|((with_reducible first|apply ZN|apply ZO);rfl;rfl;omega;omega;intro c hget hc)|((with_reducible apply ZP);rfl;(first|exact .inl rfl|assumption);rfl;rfl;omega;omega;omega;intro s' hs' hl')|((with_reducible apply ZQ);rfl;rfl;rfl;omega;omega;omega;intro s' hs' hl')|((with_reducible apply ZR);rfl) | ((with_reducible apply Z1 (f := 89));rfl;rfl;rfl;exact hall;rfl) | refine ZB (hs2b _ _ _ _ rfl) ?_ | refine GoH ?_|refine ZB rfl ?_|refine ZC rfl ?_
            all_goals exact ⟨_, rfl, rfl⟩
          | x :: y :: l' =>
            rw [hA, List.map_cons, List.map_cons] at hall
            have e : partE s = false := by rw [hpE]; unfold partV; rw [hall]; rfl
            rw [e]
            generalize tokC x = x, tokC y = y, l'.map tokC = l' at hall
            have hlen : ((x :: y :: l').length : Int) = l'.length + 2 := by simp only [List.length_cons]; omega
            repeat' first | ((with_reducible first|apply ZD|apply ZE|apply ZF|apply ZG|apply ZH|apply ZI);rfl;rfl;all_goals (intro hc;first|(exfalso;omega)|skip))|((with_reducible first|apply ZJ|apply ZK);rfl;rfl;all_goals (intro hc;first|contradiction|skip))|((with_reducible first|apply ZL|apply ZM);rfl;rfl;omega;omega)|((with_reducible first|apply ZN|apply ZO);rfl;rfl;omega;omega;intro c hget hc)|((with_reducible apply ZP);rfl;(first|exact .inl rfl|assumption);rfl;rfl;omega;omega;omega;intro s' hs' hl')|((with_reducible apply ZQ);rfl;rfl;rfl;omega;omega;omega;intro s' hs' hl')|((with_reducible apply ZR);rfl) | ((with_reducible apply Z1 (f := 89));rfl;rfl;rfl;exact hall;rfl) | refine ZB (hs2b _ _ _ _ rfl) ?_ | refine GoH ?_|refine ZB rfl ?_|refine ZC rfl ?_
            all_goals first | exact ⟨_, rfl, rfl⟩ | (exfalso; simp only [List.length_cons] at *; omega)
          | [x] =>
            rw [hA] at hall
            obtain ⟨kind, a, b, text, code⟩ := x
            have hall2 : onB FAll [.c (.list 1 (encB s))] = some (.c (.list 5 [[.int .i64 kind, .int .i64 (a : Nat), .int .i64 (b : Nat), .str text, .int .i64 code]])) := hall
            have e := partV_one hall2
            rw [hidx] at e
            rw [hpE, e]
            have hlen : (([[.int .i64 kind, .int .i64 (a : Nat), .int .i64 (b : Nat), .str text, .int .i64 code]] : List (List D)).length : Int) = 1 := rfl
            repeat' first
              | ((with_reducible first|apply ZD|apply ZE|apply ZF|apply ZG|apply ZH|apply ZI);rfl;rfl;all_goals (intro hc;first|(exfalso;omega)|skip))|((with_reducible first|apply ZJ|apply ZK);rfl;rfl;all_goals (intro hc;first|contradiction|skip))|((with_reducible first|apply ZL|apply ZM);rfl;rfl;omega;omega)|((with_reducible first|apply ZN|apply ZO);rfl;rfl;omega;omega;intro c hget hc)|((with_reducible apply ZP);rfl;(first|exact .inl rfl|assumption);rfl;rfl;omega;omega;omega;intro s' hs' hl')|((with_reducible apply ZQ);rfl;rfl;rfl;omega;omega;omega;intro s' hs' hl')|((with_reducible apply ZR);rfl) | ((with_reducible apply Z1 (f := 89));rfl;rfl;rfl;exact hall2;rfl) | refine ZB (hs2b _ _ _ _ rfl) ?_
              | refine GoH ?_|refine ZB rfl ?_|refine ZC rfl ?_
            all_goals first
              | (rw [show (text == s && !false && (kind == 1 || kind == 2 || kind == 6) && !hasS bads s) = false by
                  have hk : text ≠ s ∨ hasS bads s = true ∨ (kind ≠ 1 ∧ kind ≠ 2 ∧ kind ≠ 6) := by
                    first
                    | (left; assumption)
                    | (right; left; apply bads_yes; first | (left; assumption) | (right; left; assumption) | (right; right; left; assumption) | (right; right; right; left; assumption) | (right; right; right; right; assumption))
                    | (right; right; omega)
                  rcases hk with h | h | ⟨h1, h2, h3⟩
                  · simp [h]
                  · simp [h]
                  · simp [h1, h2, h3]]
                 exact ⟨_, rfl, rfl⟩)
              | (have hb := bads_no (s := s) (by assumption) (by assumption) (by assumption) (by assumption) (by assumption)
                 rw [show (text == s && !false && (kind == 1 || kind == 2 || kind == 6) && !hasS bads s) = true by
                  have hk : kind = 1 ∨ kind = 2 ∨ kind = 6 := by omega
                  have ht : text = s := by assumption
                  rw [hb, ht]
                  rcases hk with h | h | h <;> simp [h]]
                 exact ⟨_, rfl, rfl⟩)
        · repeat' first
            | ((with_reducible first|apply ZD|apply ZE|apply ZF|apply ZG|apply ZH|apply ZI);rfl;rfl;all_goals (intro hc;first|(exfalso;omega)|skip))|((with_reducible first|apply ZJ|apply ZK);rfl;rfl;all_goals (intro hc;first|contradiction|skip))|((with_reducible first|apply ZL|apply ZM);rfl;rfl;omega;omega)|((with_reducible first|apply ZN|apply ZO);rfl;rfl;omega;omega;intro c hget hc)|((with_reducible apply ZP);rfl;(first|exact .inl rfl|assumption);rfl;rfl;omega;omega;omega;intro s' hs' hl')|((with_reducible apply ZQ);rfl;rfl;rfl;omega;omega;omega;intro s' hs' hl')|((with_reducible apply ZR);rfl)
            | refine GoH ?_|refine ZB rfl ?_|refine ZC rfl ?_
          · rw [partE_idx (by simpa using hget) (by omega)]
            exact ⟨_, rfl, rfl⟩
          · refine hK _ (weak_keep [0, 3] rfl ⟨i + 1, by omega, by omega, fun j c' hj hc' => ?_, rfl⟩)
            by_cases hji : j = i
            · subst hji
              have e0 : s[j]? = some c := by simpa using hget
              obtain rfl := Option.some.inj (e0.symm.trans hc')
              omega
            · exact hno j c' (by omega) hc'
    · cases h
  · cases h
theorem pok74 (m : Int) : PureOk Go.Proofs.Tryz.prog (glb m) 72 G74 := pure_ok (fn74 m) (callOk_cons (pok87 m) (callOk_nil _ _)) w74
def jl : List (List UInt8) → Nat
  | [] => 0
  | x :: r => x.length + 1 + jl r
theorem join_jl : ∀ q : List (List UInt8), q ≠ [] → (joinOf q [95]).length + 1 = jl q
  | [], h => (h rfl).elim
  | [x], _ => by rw [join_single]; rfl
  | x :: y :: r, _ => by
    have := join_jl (y :: r) (by simp)
    rw [join_cons2, List.length_append, List.length_cons]
    simp only [jl] at this ⊢
    omega
theorem jl_take : ∀ (q : List (List UInt8)) (i : Nat), jl (q.take i) ≤ jl q
  | [], i => by simp
  | x :: r, 0 => by simp [jl]
  | x :: r, i + 1 => by
    have := jl_take r i
    simp only [List.take_succ_cons, jl]
    omega
theorem join_snoc : ∀ (q : List (List UInt8)) (x : List UInt8), q ≠ [] → joinOf (q ++ [x]) [95] = joinOf q [95] ++ 95 :: x
  | [], _, h => (h rfl).elim
  | [y], x, _ => by rw [show [y] ++ [x] = y :: x :: [] from rfl, join_cons2, join_single, join_single]
  | y :: z :: r, x, _ => by
    have := join_snoc (z :: r) x (by simp)
    rw [show (y :: z :: r) ++ [x] = y :: z :: (r ++ [x]) from rfl, join_cons2, show z :: (r ++ [x]) = (z :: r) ++ [x] from rfl, this, join_cons2]
    simp
theorem join_nil : joinOf [] [95] = [] := rfl
theorem join_take_len {ss : List (List UInt8)} {i : Nat} : (joinOf (ss.take i) [95]).length ≤ (joinOf ss [95]).length := by
  by_cases h : ss.take i = []
  · rw [h, join_nil]; simp
  · have h2 : ss ≠ [] := by intro e; subst e; simp at h
    have h3 := join_jl _ h
    have h4 := join_jl _ h2
    have h5 := jl_take ss i
    omega
theorem take_step {ss : List (List UInt8)} {i : Nat} {x : List UInt8} (h : ss[i]? = some x) : ss.take (i + 1) = ss.take i ++ [x] := by
  have hlt := (List.getElem?_eq_some_iff.1 h).1
  rw [List.take_add_one, h]
  rfl
def lE (b : Bool) : List UInt8 := if b then [95] else []
theorem lE_len (b : Bool) : (lE b).length ≤ 1 := by cases b <;> decide
theorem textOf_E (ss : List (List UInt8)) (a b : Bool) : textOf ⟨ss, a, b⟩ = lE a ++ joinOf ss [95] ++ lE b := rfl
noncomputable def T36 : List DV → Option DV := fam (fun x : Nat × List (List UInt8) × Bool × Bool => [.agg [.list x.1 (ofStrs x.2.1), .bool x.2.2.1, .bool x.2.2.2]]) (fun x => joinOk x.2.1 [95] = true) (fun x => .c (.str (textOf ⟨x.2.1, x.2.2.1, x.2.2.2⟩)))
theorem T36_eq {sz : Nat} {ss : List (List UInt8)} {a b : Bool} (h : joinOk ss [95] = true) : T36 [.agg [.list sz (ofStrs ss), .bool a, .bool b]] = some (.c (.str (textOf ⟨ss, a, b⟩))) := by
  refine fam_eq (ι := Nat × List (List UInt8) × Bool × Bool) (sz, ss, a, b) h ?_
  rintro ⟨sz', ss', a', b'⟩ _ he
  simp only [List.cons.injEq, DV.agg.injEq, D.list.injEq, D.bool.injEq, and_true] at he
  obtain ⟨⟨_, h1⟩, rfl, rfl⟩ := he
  rw [ofStrs_inj h1]
set_option maxRecDepth 8000 in
set_option maxHeartbeats 4000000 in
theorem w36l {cl : Call} (sz : Nat) (ss : List (List UInt8)) (a b : Bool) (h1 : ss.length ≤ 2147483648) (h2 : (joinOf ss [95]).length ≤ 2147483648) : awp cl (c36.tail 3) (PureQ [.t 2] (.c (.str (lE a ++ joinOf ss [95] ++ lE b)))) ⟨[(1, .c (.ptr 0 0)), (3, .c (.d (.str (lE a))))], ⟨1, [(0, .cells [.d (.list sz (ofStrs ss)), .d (.bool a), .d (.bool b)])]⟩⟩ := by
  have hlen := ofStrs_len ss
  have hla := lE_len a
  unfold c36
  dsimp only [ACode.tail]
  repeat' first | ((with_reducible first|apply ZD|apply ZE|apply ZF|apply ZG|apply ZH|apply ZI);rfl;rfl;all_goals (intro hc;first|(exfalso;omega)|skip))|((with_reducible first|apply ZJ|apply ZK);rfl;rfl;all_goals (intro hc;first|contradiction|skip))|((with_reducible first|apply ZL|apply ZM);rfl;rfl;omega;omega)|((with_reducible first|apply ZN|apply ZO);rfl;rfl;omega;omega;intro c hget hc)|((with_reducible apply ZP);rfl;(first|exact .inl rfl|assumption);rfl;rfl;omega;omega;omega;intro s' hs' hl')|((with_reducible apply ZQ);rfl;rfl;rfl;omega;omega;omega;intro s' hs' hl')|((with_reducible apply ZR);rfl) | refine GoH ?_|refine ZB rfl ?_|refine ZC rfl ?_
  refine awp_loop (fun m st => ∃ i : Nat, i ≤ ss.length ∧ ss.length - i < m ∧
    st = ⟨[(1, .c (.ptr 0 0)), (3, .c (.d (.str (lE a ++ joinOf (ss.take i) [95])))), (4, .c (.d (.int .i64 (i : Nat))))], ⟨1, [(0, .cells [.d (.list sz (ofStrs ss)), .d (.bool a), .d (.bool b)])]⟩⟩) (ss.length + 1) ?_ (by rintro st ⟨i, h1, h2, _⟩; omega) ?_
  · exact weak_keep [1, 3, 4] rfl ⟨0, by omega, by omega, by rw [List.take_zero, join_nil, List.append_nil]; rfl⟩
  · rintro m K hK st ⟨i, hi, hm, rfl⟩
    by_cases hend : i = ss.length
    · subst hend
      rw [List.take_length]
      cases b <;>
      repeat' first
        | ((with_reducible first|apply ZD|apply ZE|apply ZF|apply ZG|apply ZH|apply ZI);rfl;rfl;all_goals (intro hc;first|(exfalso;omega)|skip))|((with_reducible first|apply ZJ|apply ZK);rfl;rfl;all_goals (intro hc;first|contradiction|skip))|((with_reducible first|apply ZL|apply ZM);rfl;rfl;omega;omega)|((with_reducible first|apply ZN|apply ZO);rfl;rfl;omega;omega;intro c hget hc)|((with_reducible apply ZP);rfl;(first|exact .inl rfl|assumption);rfl;rfl;omega;omega;omega;intro s' hs' hl')|((with_reducible apply ZQ);rfl;rfl;rfl;omega;omega;omega;intro s' hs' hl')|((with_reducible apply ZR);rfl)
        | refine ZB (ev_adds rfl rfl (by simp only [List.length_append, List.length_cons, List.length_nil]; omega)) ?_
        | refine GoH ?_|refine ZB rfl ?_|refine ZC rfl ?_
      · simp only [lE, Bool.false_eq_true, if_false, List.append_nil]
        exact ⟨_, rfl, rfl⟩
      · exact ⟨_, rfl, rfl⟩
    · have hx : ss[i]? = some ss[i] := List.getElem?_eq_getElem (by omega)
      have hx' : (ofStrs ss)[(i : Int).toNat]? = some [.str ss[i]] := by simp [ofStrs_get, hx]
      have hts := take_step hx
      have hjl := join_take_len (ss := ss) (i := i + 1)
      rw [hts] at hjl
      by_cases h0 : i = 0
      · subst h0
        simp only [List.take_zero, List.nil_append, join_single] at hts hjl
        rw [List.take_zero, join_nil, List.append_nil]
        repeat' first
          | ((with_reducible first|apply ZD|apply ZE|apply ZF|apply ZG|apply ZH|apply ZI);rfl;rfl;all_goals (intro hc;first|(exfalso;omega)|skip))|((with_reducible first|apply ZJ|apply ZK);rfl;rfl;all_goals (intro hc;first|contradiction|skip))|((with_reducible first|apply ZL|apply ZM);rfl;rfl;omega;omega)|((with_reducible first|apply ZN|apply ZO);rfl;rfl;omega;omega;intro c hget hc)|((with_reducible apply ZP);rfl;(first|exact .inl rfl|assumption);rfl;rfl;omega;omega;omega;intro s' hs' hl')|((with_reducible apply ZQ);rfl;rfl;rfl;omega;omega;omega;intro s' hs' hl')|((with_reducible apply ZR);rfl)
          | refine ZB (ev_idx rfl rfl (by omega) hx' rfl) ?_
          | refine ZB (ev_adds rfl rfl (by omega)) ?_
          | refine GoH ?_|refine ZB rfl ?_|refine ZC rfl ?_
        refine hK _ (weak_keep [1, 3, 4] rfl ⟨1, by omega, by omega, ?_⟩)
        rw [show (0 : Nat) + 1 = 1 from rfl] at hts
        rw [hts, join_single]
        rfl
      · have hne : ss.take i ≠ [] := by
          intro e
          have := congrArg List.length e
          rw [List.length_take] at this
          simp only [List.length_nil] at this
          omega
        rw [join_snoc _ _ hne] at hjl
        simp only [List.length_append, List.length_cons] at hjl
        repeat' first
          | ((with_reducible first|apply ZD|apply ZE|apply ZF|apply ZG|apply ZH|apply ZI);rfl;rfl;all_goals (intro hc;first|(exfalso;omega)|skip))|((with_reducible first|apply ZJ|apply ZK);rfl;rfl;all_goals (intro hc;first|contradiction|skip))|((with_reducible first|apply ZL|apply ZM);rfl;rfl;omega;omega)|((with_reducible first|apply ZN|apply ZO);rfl;rfl;omega;omega;intro c hget hc)|((with_reducible apply ZP);rfl;(first|exact .inl rfl|assumption);rfl;rfl;omega;omega;omega;intro s' hs' hl')|((with_reducible apply ZQ);rfl;rfl;rfl;omega;omega;omega;intro s' hs' hl')|((with_reducible apply ZR);rfl)
          | refine ZB (ev_idx rfl rfl (by omega) hx' rfl) ?_
          | refine ZB (ev_adds rfl rfl (by simp only [List.length_append, List.length_cons, List.length_nil]; omega)) ?_
          | refine GoH ?_|refine ZB rfl ?_|refine ZC rfl ?_
        refine hK _ (weak_keep [1, 3, 4] rfl ⟨i + 1, by omega, by omega, ?_⟩)
        rw [hts, join_snoc _ _ hne]
        simp only [List.append_assoc, List.cons_append, List.nil_append]
        rfl
set_option maxRecDepth 8000 in
set_option maxHeartbeats 4000000 in
theorem w36 (x : Nat × List (List UInt8) × Bool × Bool) (h : joinOk x.2.1 [95] = true) : awp (tbl []) c36 (PureQ [.t 2] (.c (.str (textOf ⟨x.2.1, x.2.2.1, x.2.2.2⟩)))) ⟨argE 0 (dvArgs [.agg [.list x.1 (ofStrs x.2.1), .bool x.2.2.1, .bool x.2.2.2]]), ⟨0, []⟩⟩ := by
  obtain ⟨sz, ss, a, b⟩ := x
  simp only at h ⊢
  simp only [joinOk, Bool.and_eq_true, decide_eq_true_eq] at h
  obtain ⟨h1, h2⟩ := h
  unfold room at h1 h2
  rw [textOf_E]
  have hfin := w36l (cl := tbl []) sz ss a b h1 h2
  unfold c36
  cases a <;>
  (repeat' first
    | exact weak_keep [1, 3] rfl hfin
    | ((with_reducible first|apply ZD|apply ZE|apply ZF|apply ZG|apply ZH|apply ZI);rfl;rfl;all_goals (intro hc;first|(exfalso;omega)|skip))|((with_reducible first|apply ZJ|apply ZK);rfl;rfl;all_goals (intro hc;first|contradiction|skip))|((with_reducible first|apply ZL|apply ZM);rfl;rfl;omega;omega)|((with_reducible first|apply ZN|apply ZO);rfl;rfl;omega;omega;intro c hget hc)|((with_reducible apply ZP);rfl;(first|exact .inl rfl|assumption);rfl;rfl;omega;omega;omega;intro s' hs' hl')|((with_reducible apply ZQ);rfl;rfl;rfl;omega;omega;omega;intro s' hs' hl')|((with_reducible apply ZR);rfl)
    | refine GoH ?_|refine ZB rfl ?_|refine ZC rfl ?_)
theorem pok36 (m : Int) : PureOk Go.Proofs.Tryz.prog (glb m) 49 T36 := .inl (fam_ok (fn36 m) (callOk_nil _ _) w36)
def mayR (v : SV) : Bool := mayS partE v && decide ((textOf v).length ≤ 40)
noncomputable def T57 : List DV → Option DV := fam (fun x : Nat × List (List UInt8) × Bool × Bool => [.agg [.list x.1 (ofStrs x.2.1), .bool x.2.2.1, .bool x.2.2.2]]) (fun x => joinOk x.2.1 [95] = true) (fun x => .c (.bool (mayR ⟨x.2.1, x.2.2.1, x.2.2.2⟩)))
theorem T57_eq {sz : Nat} {ss : List (List UInt8)} {a b : Bool} (h : joinOk ss [95] = true) : T57 [.agg [.list sz (ofStrs ss), .bool a, .bool b]] = some (.c (.bool (mayR ⟨ss, a, b⟩))) := by
  refine fam_eq (ι := Nat × List (List UInt8) × Bool × Bool) (sz, ss, a, b) h ?_
  rintro ⟨sz', ss', a', b'⟩ _ he
  simp only [List.cons.injEq, DV.agg.injEq, D.list.injEq, D.bool.injEq, and_true] at he
  obtain ⟨⟨_, h1⟩, rfl, rfl⟩ := he
  rw [ofStrs_inj h1]
theorem mayR_f {v : SV} (h : mayS partE v = false ∨ 40 < (textOf v).length) : mayR v = false := by
  unfold mayR
  rcases h with h | h
  · rw [h]; rfl
  · rw [decide_eq_false (by omega)]; simp
theorem part_len {ss : List (List UInt8)} {x : List UInt8} : x ∈ ss → x.length ≤ (joinOf ss [95]).length := by
  intro h
  have hne : ss ≠ [] := by intro e; subst e; cases h
  have h1 := join_jl ss hne
  have : ∀ q : List (List UInt8), x ∈ q → x.length + 1 ≤ jl q := by
    intro q
    induction q with
    | nil => intro h; cases h
    | cons y r ih =>
      intro h
      rcases List.mem_cons.1 h with rfl | h
      · simp only [jl]; omega
      · have := ih h; simp only [jl]; omega
  have := this ss h
  omega
set_option maxRecDepth 8000 in
set_option maxHeartbeats 8000000 in
theorem w57l {a b : Bool} {ss : List (List UInt8)} (sz : Nat) (h1 : ss.length ≤ 2147483648) (hpl : ∀ x ∈ ss, x.length ≤ room) (hn1 : 1 ≤ ss.length) (hn4 : ss.length ≤ 4) (hab : ss.length = 1 → a = true ∨ b = true) (htl : (textOf ⟨ss, a, b⟩).length ≤ 40) :
    awp (tbl [(49, T36), (72, G74)]) (c57.tail 3) (PureQ [.t 2] (.c (.bool (mayR ⟨ss, a, b⟩)))) ⟨[(1, .c (.ptr 0 0)), (3, .c (.d (.int .i64 (ofStrs ss).length)))], ⟨1, [(0, .cells [.d (.list sz (ofStrs ss)), .d (.bool a), .d (.bool b)])]⟩⟩ := by
  have hlen := ofStrs_len ss
  unfold c57
  dsimp only [ACode.tail]
  repeat' first | ((with_reducible first|apply ZD|apply ZE|apply ZF|apply ZG|apply ZH|apply ZI);rfl;rfl;all_goals (intro hc;first|(exfalso;omega)|skip))|((with_reducible first|apply ZJ|apply ZK);rfl;rfl;all_goals (intro hc;first|contradiction|skip))|((with_reducible first|apply ZL|apply ZM);rfl;rfl;omega;omega)|((with_reducible first|apply ZN|apply ZO);rfl;rfl;omega;omega;intro c hget hc)|((with_reducible apply ZP);rfl;(first|exact .inl rfl|assumption);rfl;rfl;omega;omega;omega;intro s' hs' hl')|((with_reducible apply ZQ);rfl;rfl;rfl;omega;omega;omega;intro s' hs' hl')|((with_reducible apply ZR);rfl) | refine GoH ?_|refine ZB rfl ?_|refine ZC rfl ?_
  refine awp_loop (fun m st => ∃ i : Nat, i ≤ ss.length ∧ ss.length - i < m ∧ (∀ p ∈ ss.take i, partE p = true) ∧
    st = ⟨[(1, .c (.ptr 0 0)), (3, .c (.d (.int .i64 (ofStrs ss).length))), (4, .c (.d (.int .i64 (i : Nat))))], ⟨1, [(0, .cells [.d (.list sz (ofStrs ss)), .d (.bool a), .d (.bool b)])]⟩⟩) (ss.length + 1) ?_ (by rintro st ⟨i, h1, h2, _⟩; omega) ?_
  · exact weak_keep [1, 3, 4] rfl ⟨0, by omega, by omega, fun p hp => by simp at hp, rfl⟩
  · rintro m K hK st ⟨i, hi, hm, hall, rfl⟩
    by_cases hend : i = ss.length
    · subst hend
      rw [List.take_length] at hall
      have hbad : badS partE ss = false := by
        unfold badS
        rw [List.any_eq_false]
        intro p hp
        rw [hall p hp]
        decide
      rw [show mayR ⟨ss, a, b⟩ = true by
        unfold mayR
        rw [decide_eq_true htl, mayS_t hn1 hn4 hab hbad]
        rfl]
      repeat' first | ((with_reducible first|apply ZD|apply ZE|apply ZF|apply ZG|apply ZH|apply ZI);rfl;rfl;all_goals (intro hc;first|(exfalso;omega)|skip))|((with_reducible first|apply ZJ|apply ZK);rfl;rfl;all_goals (intro hc;first|contradiction|skip))|((with_reducible first|apply ZL|apply ZM);rfl;rfl;omega;omega)|((with_reducible first|apply ZN|apply ZO);rfl;rfl;omega;omega;intro c hget hc)|((with_reducible apply ZP);rfl;(first|exact .inl rfl|assumption);rfl;rfl;omega;omega;omega;intro s' hs' hl')|((with_reducible apply ZQ);rfl;rfl;rfl;omega;omega;omega;intro s' hs' hl')|((with_reducible apply ZR);rfl) | refine GoH ?_|refine ZB rfl ?_|refine ZC rfl ?_
      exact ⟨_, rfl, rfl⟩
    · have hx : ss[i]? = some ss[i] := List.getElem?_eq_getElem (by omega)
      have hmem : ss[i] ∈ ss := List.getElem_mem _
      have hx' : (ofStrs ss)[(i : Int).toNat]? = some [.str ss[i]] := by simp [ofStrs_get, hx]
      have hts := take_step hx
      have h74 : G74 [.c (.str ss[i])] = some (.c (.bool (partE ss[i]))) := by simp only [G74, if_pos (hpl _ hmem)]
      repeat' first
        | ((with_reducible first|apply ZD|apply ZE|apply ZF|apply ZG|apply ZH|apply ZI);rfl;rfl;all_goals (intro hc;first|(exfalso;omega)|skip))|((with_reducible first|apply ZJ|apply ZK);rfl;rfl;all_goals (intro hc;first|contradiction|skip))|((with_reducible first|apply ZL|apply ZM);rfl;rfl;omega;omega)|((with_reducible first|apply ZN|apply ZO);rfl;rfl;omega;omega;intro c hget hc)|((with_reducible apply ZP);rfl;(first|exact .inl rfl|assumption);rfl;rfl;omega;omega;omega;intro s' hs' hl')|((with_reducible apply ZQ);rfl;rfl;rfl;omega;omega;omega;intro s' hs' hl')|((with_reducible apply ZR);rfl)
        | (((with_reducible apply Z1 (f := 72));rfl;rfl;rfl;exact h74;rfl); refine step_bool (fun hb => ?_) (fun hb => ?_))
        | refine ZB (ev_idx rfl rfl (by omega) hx' rfl) ?_
        | refine GoH ?_|refine ZB rfl ?_|refine ZC rfl ?_
      · refine hK _ (weak_keep [1, 3, 4] rfl ⟨i + 1, by omega, by omega, fun p hp => ?_, rfl⟩)
        rw [hts] at hp
        rcases List.mem_append.1 hp with hp | hp
        · exact hall p hp
        · simp at hp; subst hp; exact hb
      · rw [mayR_f (.inl (mayS_f (.inr (.inr (.inr (by
          show badS partE ss = true
          unfold badS
          rw [List.any_eq_true]
          exact ⟨_, hmem, by rw [hb]; rfl⟩))))))]
        exact ⟨_, rfl, rfl⟩
set_option maxRecDepth 8000 in
set_option maxHeartbeats 8000000 in
theorem w57 (x : Nat × List (List UInt8) × Bool × Bool) (h : joinOk x.2.1 [95] = true) : awp (tbl [(49, T36), (72, G74)]) c57 (PureQ [.t 2] (.c (.bool (mayR ⟨x.2.1, x.2.2.1, x.2.2.2⟩)))) ⟨argE 0 (dvArgs [.agg [.list x.1 (ofStrs x.2.1), .bool x.2.2.1, .bool x.2.2.2]]), ⟨0, []⟩⟩ := by
  obtain ⟨sz, ss, a, b⟩ := x
  simp only at h ⊢
  have h36 := fun (a b : Bool) => T36_eq (sz := sz) (a := a) (b := b) h
  simp only [joinOk, Bool.and_eq_true, decide_eq_true_eq] at h
  obtain ⟨h1, h2⟩ := h
  have hpl := fun x (hx : x ∈ ss) => Nat.le_trans (part_len hx) h2
  unfold room at h1 h2
  have hlen := ofStrs_len ss
  have e0 : ss.length < 1 → mayR ⟨ss, a, b⟩ = false := fun h => mayR_f (.inl (mayS_f (.inl h)))
  have e1 : 4 < ss.length → mayR ⟨ss, a, b⟩ = false := fun h => mayR_f (.inl (mayS_f (.inr (.inl h))))
  have e2 : ss.length = 1 ∧ a = false ∧ b = false → mayR ⟨ss, a, b⟩ = false := fun h => mayR_f (.inl (mayS_f (.inr (.inr (.inl h)))))
  have e3 : 40 < (textOf ⟨ss, a, b⟩).length → mayR ⟨ss, a, b⟩ = false := fun h => mayR_f (.inr h)
  unfold c57
  cases a <;> cases b <;>
  (repeat' first
    | exact weak_keep [1, 3] rfl (w57l sz h1 hpl (by omega) (by omega) (fun hl => by first | exact .inl rfl | exact .inr rfl | (exfalso; omega)) (by omega))
    | ((with_reducible first|apply ZD|apply ZE|apply ZF|apply ZG|apply ZH|apply ZI);rfl;rfl;all_goals (intro hc;first|(exfalso;omega)|skip))|((with_reducible first|apply ZJ|apply ZK);rfl;rfl;all_goals (intro hc;first|contradiction|skip))|((with_reducible first|apply ZL|apply ZM);rfl;rfl;omega;omega)|((with_reducible first|apply ZN|apply ZO);rfl;rfl;omega;omega;intro c hget hc)|((with_reducible apply ZP);rfl;(first|exact .inl rfl|assumption);rfl;rfl;omega;omega;omega;intro s' hs' hl')|((with_reducible apply ZQ);rfl;rfl;rfl;omega;omega;omega;intro s' hs' hl')|((with_reducible apply ZR);rfl)
    | ((with_reducible apply Z1 (f := 49));rfl;rfl;rfl;exact (h36 _ _);rfl)
    | refine GoH ?_|refine ZB rfl ?_|refine ZC rfl ?_
    | (rw [e0 (by omega)]; exact ⟨_, rfl, rfl⟩)
    | (rw [e1 (by omega)]; exact ⟨_, rfl, rfl⟩)
    | (rw [e2 ⟨by omega, rfl, rfl⟩]; exact ⟨_, rfl, rfl⟩)
    | (rw [e3 (by omega)]; exact ⟨_, rfl, rfl⟩))
theorem pok57 (m : Int) : PureOk Go.Proofs.Tryz.prog (glb m) 48 T57 := .inl (fam_ok (fn57 m) (callOk_cons (pok36 m) (callOk_cons (pok74 m) (callOk_nil _ _))) w57)
end Go.Am
