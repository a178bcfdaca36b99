/-
  shape.part and the slices' functions.
-/
import Derived.Test.YtpidbhbmamjbpaaDoorSMG
namespace Go.Am
open Go
def strOf : List D → Option (List UInt8)
  | [.str s] => some s
  | _ => none
def strsOf : List (List D) → Option (List (List UInt8))
  | [] => some []
  | e :: r => match strOf e, strsOf r with | some s, some l => some (s :: l) | _, _ => none
def ofStrs (l : List (List UInt8)) : List (List D) := l.map fun s => [.str s]
def idxOf (p : List UInt8 → Bool) : List (List UInt8) → Nat → Int
  | [], _ => -1
  | e :: r, k => if p e = true then k else idxOf p r (k + 1)
theorem strsOf_get : ∀ {l : List (List D)} {ss : List (List UInt8)}, strsOf l = some ss → l = ofStrs ss
  | [], ss, h => by cases h; rfl
  | e :: r, ss, h => by
    unfold strsOf at h
    cases h1 : strOf e with
    | none => rw [h1] at h; cases h
    | some s =>
      cases h2 : strsOf r with
      | none => rw [h1, h2] at h; cases h
      | some l' =>
        rw [h1, h2] at h
        cases h
        have := strsOf_get h2
        have he : e = [.str s] := by unfold strOf at h1; split at h1 <;> cases h1; rfl
        rw [he, this]
        rfl
theorem strsOf_back : ∀ ss : List (List UInt8), strsOf (ofStrs ss) = some ss
  | [] => rfl
  | s :: r => by
    have : strsOf (ofStrs r) = some r := strsOf_back r
    show strsOf ([.str s] :: ofStrs r) = _
    simp only [strsOf, strOf, this]
theorem ofStrs_get (ss : List (List UInt8)) (i : Nat) : (ofStrs ss)[i]? = (ss[i]?).map fun s => [.str s] := by simp [ofStrs]
theorem ofStrs_len (ss : List (List UInt8)) : (ofStrs ss).length = ss.length := by simp [ofStrs]
theorem idxOf_drop {p : List UInt8 → Bool} {ss : List (List UInt8)} {i : Nat} {x : List UInt8} (hx : ss[i]? = some x) : idxOf p (ss.drop i) i = if p x = true then (i : Int) else idxOf p (ss.drop (i + 1)) (i + 1) := by
  have hlt := (List.getElem?_eq_some_iff.1 hx).1
  have : ss.drop i = x :: ss.drop (i + 1) := by rw [List.drop_eq_getElem_cons hlt]; congr 1; exact (List.getElem?_eq_some_iff.1 hx).2
  rw [this]
  rfl
def G73 : List DV → Option DV
  | [.c (.list _ l), .c (.str v)] => match strsOf l with
    | some ss => if ss.length ≤ room then some (.c (.int .i64 (idxOf (fun e => v == e) ss 0))) else none
    | none => none
  | _ => none
set_option maxRecDepth 8000 in
theorem w73 (ds : List DV) (r : DV) (h : G73 ds = some r) : awp (tbl []) c73 (PureQ [.t 4] r) ⟨argE 0 (dvArgs ds), ⟨0, []⟩⟩ := by
  unfold G73 at h
  split at h
  · rename_i sz l v
    split at h
    · rename_i ss hss
      obtain rfl := strsOf_get hss
      split at h
      · rename_i hroom
        cases h
        unfold room at hroom
        have hlen := ofStrs_len ss
        unfold c73
        repeat' first | refine GoH ?_|refine ZB rfl ?_|refine ZC rfl ?_
        refine awp_loop (fun n st => ∃ i : Nat, i ≤ ss.length ∧ n = ss.length - i + 1 ∧ idxOf (fun e => v == e) ss 0 = idxOf (fun e => v == e) (ss.drop i) i ∧
          st = ⟨[(0, .c (.d (.list sz (ofStrs ss)))), (1, .c (.d (.str v))), (7, .c (.d (.int .i64 (ofStrs ss).length))), (8, .c (.d (.int .i64 (i : Nat))))], ⟨0, []⟩⟩) (ss.length + 1) ?_ (by rintro st ⟨i, h1, h2, _⟩; omega) ?_
        · exact weak_keep [0, 1, 7, 8] rfl ⟨0, by omega, by omega, rfl, rfl⟩
        · rintro n K hK st ⟨i, hi, hn, hidx, rfl⟩
          by_cases hend : i = ss.length
          · have hm : idxOf (fun e => v == e) ss 0 = -1 := by rw [hidx, hend, List.drop_length]; rfl
            rw [hm]
            repeat' first | ((with_reducible first|apply ZD|apply ZE|apply ZF|apply ZG|apply ZH|apply ZI);rfl;rfl;all_goals (intro hc;first|(exfalso;omega)|skip))|((with_reducible first|apply ZJ|apply ZK);rfl;rfl;all_goals (intro hc;first|contradiction|skip))|((with_reducible first|apply ZL|apply ZM);rfl;rfl;omega;omega)|((with_reducible first|apply ZN|apply ZO);rfl;rfl;omega;omega;intro c hget hc)|((with_reducible apply ZP);rfl;(first|exact .inl rfl|assumption);rfl;rfl;omega;omega;omega;intro s' hs' hl')|((with_reducible apply ZQ);rfl;rfl;rfl;omega;omega;omega;intro s' hs' hl')|((with_reducible apply ZR);rfl) | refine GoH ?_|refine ZB rfl ?_|refine ZC rfl ?_
            exact ⟨_, rfl, rfl⟩
          · have hlt : i < ss.length := by omega
            have hx : ss[i]? = some ss[i] := List.getElem?_eq_getElem hlt
            have hx' : (ofStrs ss)[(i : Int).toNat]? = some [.str ss[i]] := by simp [ofStrs_get, hlt]
            rw [idxOf_drop hx] at hidx
            repeat' first
              | ((with_reducible first|apply ZD|apply ZE|apply ZF|apply ZG|apply ZH|apply ZI);rfl;rfl;all_goals (intro hc;first|(exfalso;omega)|skip))|((with_reducible first|apply ZJ|apply ZK);rfl;rfl;all_goals (intro hc;first|contradiction|skip))|((with_reducible first|apply ZL|apply ZM);rfl;rfl;omega;omega)|((with_reducible first|apply ZN|apply ZO);rfl;rfl;omega;omega;intro c hget hc)|((with_reducible apply ZP);rfl;(first|exact .inl rfl|assumption);rfl;rfl;omega;omega;omega;intro s' hs' hl')|((with_reducible apply ZQ);rfl;rfl;rfl;omega;omega;omega;intro s' hs' hl')|((with_reducible apply ZR);rfl)
              | refine ZB (ev_idx rfl rfl (by omega) hx' rfl) ?_
              | refine GoH ?_|refine ZB rfl ?_|refine ZC rfl ?_
            · have e : (v == ss[i]) = true := by simpa using hc
              rw [if_pos e] at hidx
              rw [hidx]
              exact ⟨_, rfl, rfl⟩
            · have e : ¬ (v == ss[i]) = true := by simpa using hc
              rw [if_neg e] at hidx
              exact hK _ (weak_keep [0, 1, 7, 8] rfl ⟨i + 1, by omega, by omega, hidx, rfl⟩)
      · cases h
    · cases h
  · cases h
theorem pok73 (m : Int) : PureOk Go.Proofs.Tryd.prog (glb m) 77 G73 := pure_ok (fn73 m) (callOk_nil _ _) w73
def hasS (ss : List (List UInt8)) (v : List UInt8) : Bool := decide (0 ≤ idxOf (fun e => v == e) ss 0)
def G55 : List DV → Option DV
  | [.c (.list _ l), .c (.str v)] => match strsOf l with
    | some ss => if ss.length ≤ room then some (.c (.bool (hasS ss v))) else none
    | none => none
  | _ => none
set_option maxRecDepth 8000 in
theorem w55 (ds : List DV) (r : DV) (h : G55 ds = some r) : awp (tbl [(77, G73)]) c55 (PureQ [.t 4] r) ⟨argE 0 (dvArgs ds), ⟨0, []⟩⟩ := by
  unfold G55 at h
  split at h
  · rename_i sz l v
    split at h
    · rename_i ss hss
      split at h
      · rename_i hroom
        cases h
        have h73 : G73 [.c (.list sz l), .c (.str v)] = some (.c (.int .i64 (idxOf (fun e => v == e) ss 0))) := by simp [G73, hss, hroom]
        unfold c55
        repeat' first | ((with_reducible first|apply ZD|apply ZE|apply ZF|apply ZG|apply ZH|apply ZI);rfl;rfl;all_goals (intro hc;first|(exfalso;omega)|skip))|((with_reducible first|apply ZJ|apply ZK);rfl;rfl;all_goals (intro hc;first|contradiction|skip))|((with_reducible first|apply ZL|apply ZM);rfl;rfl;omega;omega)|((with_reducible first|apply ZN|apply ZO);rfl;rfl;omega;omega;intro c hget hc)|((with_reducible apply ZP);rfl;(first|exact .inl rfl|assumption);rfl;rfl;omega;omega;omega;intro s' hs' hl')|((with_reducible apply ZQ);rfl;rfl;rfl;omega;omega;omega;intro s' hs' hl')|((with_reducible apply ZR);rfl) | ((with_reducible apply Z1 (f := 77));rfl;rfl;rfl;exact h73;rfl) | refine GoH ?_|refine ZB rfl ?_|refine ZC rfl ?_
        · have e : hasS ss v = true := by unfold hasS; simpa using hc
          rw [e]; exact ⟨_, rfl, rfl⟩
        · have e : hasS ss v = false := by unfold hasS; simpa using hc
          rw [e]; exact ⟨_, rfl, rfl⟩
      · cases h
    · cases h
  · cases h
theorem pok55 (m : Int) : PureOk Go.Proofs.Tryd.prog (glb m) 56 G55 := pure_ok (fn55 m) (callOk_cons (pok73 m) (callOk_nil _ _)) w55
def bads : List (List UInt8) := [[40], [41], [44], [46], [58, 45]]
def partV (G37 : List DV → Option DV) (s : List UInt8) : Bool :=
  match G37 [.c (.list 1 (encB s))] with
  | some (.c (.list _ [[.int _ kind, _, _, .str text, _]])) => text == s && !decide (0 ≤ Lib.indexByte s 95) && (kind == 1 || kind == 2 || kind == 6) && !hasS bads s
  | _ => false
def G46 (G37 : List DV → Option DV) : List DV → Option DV
  | [.c (.str s)] => if s.length ≤ room then some (.c (.bool (partV G37 s))) else none
  | _ => none
theorem partV_one {G : List DV → Option DV} {s text : List UInt8} {kind a b code : Int} (h : G [.c (.list 1 (encB s))] = some (.c (.list 5 [[.int .i64 kind, .int .i64 a, .int .i64 b, .str text, .int .i64 code]]))) :
    partV G s = (text == s && !decide (0 ≤ Lib.indexByte s 95) && (kind == 1 || kind == 2 || kind == 6) && !hasS bads s) := by
  simp only [partV, h]
set_option maxRecDepth 8000 in
set_option maxHeartbeats 4000000 in
theorem w46 {G37 : List DV → Option DV} (hG : KB R37 G37) (ds : List DV) (r : DV) (h : G46 G37 ds = some r) : awp (tbl [(9, G37), (56, G55), (55, G61)]) c46 (PureQ [.t 2] r) ⟨argE 0 (dvArgs ds), ⟨0, []⟩⟩ := by
  unfold G46 at h
  split at h
  · rename_i s
    split at h
    · rename_i hroom
      cases h
      obtain ⟨r0, hr0, l, rfl, htok, _⟩ := hG 1 s (.inl rfl) hroom
      have h61 : G61 [.c (.str s), .c (.str [95])] = some (.c (.bool (decide (0 ≤ Lib.indexByte s 95)))) := rfl
      have h55 : G55 [.c (.list 1 (ofStrs bads)), .c (.str s)] = some (.c (.bool (hasS bads s))) := by
        simp only [G55, strsOf_back]
        rw [if_pos (by decide)]
      have hs2b : ∀ nx ob e, ev e (.t 4) = .c (.d (.str s)) → eval (tbl [(9, G37), (56, G55), (55, G61)]) e ⟨nx, ob⟩ (.s2b (.t 4) false) = some (.c (.d (.list 1 (encB s))), ⟨nx, ob⟩) := by
        intro nx ob e he
        simp only [eval, he, if_pos hroom]
      match l, htok with
      | [], _ =>
        have e : partV G37 s = false := by simp only [partV, hr0]
        rw [e]
        have hlen : (([] : List (List D)).length : Int) = 0 := rfl
        unfold c46
        repeat' first | ((with_reducible first|apply ZD|apply ZE|apply ZF|apply ZG|apply ZH|apply ZI);rfl;rfl;all_goals (intro hc;first|(exfalso;omega)|skip))|((with_reducible first|apply ZJ|apply ZK);rfl;rfl;all_goals (intro hc;first|contradiction|skip))|((with_reducible first|apply ZL|apply ZM);rfl;rfl;omega;omega)|((with_reducible first|apply ZN|apply ZO);rfl;rfl;omega;omega;intro c hget hc)|((with_reducible apply ZP);rfl;(first|exact .inl rfl|assumption);rfl;rfl;omega;omega;omega;intro s' hs' hl')|((with_reducible apply ZQ);rfl;rfl;rfl;omega;omega;omega;intro s' hs' hl')|((with_reducible apply ZR);rfl) | ((with_reducible apply Z1 (f := 9));rfl;rfl;rfl;exact hr0;rfl) | refine ZB (hs2b _ _ _ rfl) ?_ | refine GoH ?_|refine ZB rfl ?_|refine ZC rfl ?_
        all_goals exact ⟨_, rfl, rfl⟩
      | x :: y :: l', _ =>
        have e : partV G37 s = false := by simp only [partV, hr0]
        rw [e]
        have hlen : ((x :: y :: l').length : Int) = l'.length + 2 := by simp only [List.length_cons]; omega
        unfold c46
        repeat' first | ((with_reducible first|apply ZD|apply ZE|apply ZF|apply ZG|apply ZH|apply ZI);rfl;rfl;all_goals (intro hc;first|(exfalso;omega)|skip))|((with_reducible first|apply ZJ|apply ZK);rfl;rfl;all_goals (intro hc;first|contradiction|skip))|((with_reducible first|apply ZL|apply ZM);rfl;rfl;omega;omega)|((with_reducible first|apply ZN|apply ZO);rfl;rfl;omega;omega;intro c hget hc)|((with_reducible apply ZP);rfl;(first|exact .inl rfl|assumption);rfl;rfl;omega;omega;omega;intro s' hs' hl')|((with_reducible apply ZQ);rfl;rfl;rfl;omega;omega;omega;intro s' hs' hl')|((with_reducible apply ZR);rfl) | ((with_reducible apply Z1 (f := 9));rfl;rfl;rfl;exact hr0;rfl) | refine ZB (hs2b _ _ _ rfl) ?_ | refine GoH ?_|refine ZB rfl ?_|refine ZC rfl ?_
        all_goals first | exact ⟨_, rfl, rfl⟩ | (exfalso; simp only [List.length_cons] at *; omega)
      | [x], htok =>
        obtain ⟨kind, a, b, code, text, rfl⟩ := htok x (by simp)
        have e := partV_one hr0
        rw [e]
        have hlen : (([[.int .i64 kind, .int .i64 a, .int .i64 b, .str text, .int .i64 code]] : List (List D)).length : Int) = 1 := rfl
        unfold c46
        repeat' first
          | ((with_reducible first|apply ZD|apply ZE|apply ZF|apply ZG|apply ZH|apply ZI);rfl;rfl;all_goals (intro hc;first|(exfalso;omega)|skip))|((with_reducible first|apply ZJ|apply ZK);rfl;rfl;all_goals (intro hc;first|contradiction|skip))|((with_reducible first|apply ZL|apply ZM);rfl;rfl;omega;omega)|((with_reducible first|apply ZN|apply ZO);rfl;rfl;omega;omega;intro c hget hc)|((with_reducible apply ZP);rfl;(first|exact .inl rfl|assumption);rfl;rfl;omega;omega;omega;intro s' hs' hl')|((with_reducible apply ZQ);rfl;rfl;rfl;omega;omega;omega;intro s' hs' hl')|((with_reducible apply ZR);rfl) | ((with_reducible apply Z1 (f := 9));rfl;rfl;rfl;exact hr0;rfl) | refine ZB (hs2b _ _ _ rfl) ?_
          | (((with_reducible apply Z1 (f := 55));rfl;rfl;rfl;exact h61;rfl); refine step_bool (fun hb => ?_) (fun hb => ?_))
          | ((with_reducible apply Z1 (f := 56));rfl;rfl;rfl;exact h55;rfl)
          | refine GoH ?_|refine ZB rfl ?_|refine ZC rfl ?_
        all_goals first
          | (rw [show (text == s && !decide (0 ≤ Lib.indexByte s 95) && (kind == 1 || kind == 2 || kind == 6) && !hasS bads s) = false by simp_all]; exact ⟨_, rfl, rfl⟩)
          | (rw [show (text == s && !decide (0 ≤ Lib.indexByte s 95) && (kind == 1 || kind == 2 || kind == 6) && !hasS bads s) = !hasS bads s by simp_all]; exact ⟨_, rfl, rfl⟩)
    · cases h
  · cases h
theorem pok46 {m : Int} {G37 : List DV → Option DV} (h : PureOk Go.Proofs.Tryd.prog (glb m) 9 G37) (hG : KB R37 G37) : PureOk Go.Proofs.Tryd.prog (glb m) 34 (G46 G37) :=
  pure_ok (fn46 m) (callOk_cons h (callOk_cons (pok55 m) (callOk_cons (pok61 m) (callOk_nil _ _)))) (w46 hG)
def G45 (part : List UInt8 → Bool) : List DV → Option DV
  | [.c (.str s)] => if s.length ≤ room then some (.c (.bool (!part s))) else none
  | _ => none
theorem w45 {G37 : List DV → Option DV} (ds : List DV) (r : DV) (h : G45 (partV G37) ds = some r) : awp (tbl [(34, G46 G37)]) c45 (PureQ [.t 2] r) ⟨argE 0 (dvArgs ds), ⟨0, []⟩⟩ := by
  unfold G45 at h
  split at h
  · rename_i s
    split at h
    · rename_i hroom
      cases h
      have h46 : G46 G37 [.c (.str s)] = some (.c (.bool (partV G37 s))) := by simp [G46, hroom]
      unfold c45
      repeat' first | ((with_reducible apply Z1 (f := 34));rfl;rfl;rfl;exact h46;rfl) | refine GoH ?_|refine ZB rfl ?_|refine ZC rfl ?_
      exact ⟨_, rfl, rfl⟩
    · cases h
  · cases h
theorem pok45 {m : Int} {G37 : List DV → Option DV} (h : PureOk Go.Proofs.Tryd.prog (glb m) 34 (G46 G37)) : PureOk Go.Proofs.Tryd.prog (glb m) 33 (G45 (partV G37)) := pure_ok (fn45 m) (callOk_cons h (callOk_nil _ _)) w45
def roomAll (ss : List (List UInt8)) : Bool := decide (ss.length ≤ room) && ss.all fun s => decide (s.length ≤ room)
def G63 (part : List UInt8 → Bool) : List DV → Option DV
  | [.c (.list _ l), .c (.fn 33)] => match strsOf l with
    | some ss => if roomAll ss then some (.c (.int .i64 (idxOf (fun s => !part s) ss 0))) else none
    | none => none
  | _ => none
set_option maxRecDepth 8000 in
theorem w63 (part : List UInt8 → Bool) (ds : List DV) (r : DV) (h : G63 part ds = some r) : awp (tbl [(33, G45 part)]) c63 (PureQ [.t 4] r) ⟨argE 0 (dvArgs ds), ⟨0, []⟩⟩ := by
  unfold G63 at h
  split at h
  · rename_i sz l
    split at h
    · rename_i ss hss
      obtain rfl := strsOf_get hss
      split at h
      · rename_i hra
        simp only [roomAll, Bool.and_eq_true, decide_eq_true_eq, List.all_eq_true] at hra
        obtain ⟨hroom, hall⟩ := hra
        cases h
        have hlen := ofStrs_len ss
        unfold c63
        repeat' first | refine GoH ?_|refine ZB rfl ?_|refine ZC rfl ?_
        refine awp_loop (fun n st => ∃ i : Nat, i ≤ ss.length ∧ n = ss.length - i + 1 ∧ idxOf (fun s => !part s) ss 0 = idxOf (fun s => !part s) (ss.drop i) i ∧
          st = ⟨[(0, .c (.d (.list sz (ofStrs ss)))), (1, .c (.d (.fn 33))), (7, .c (.d (.int .i64 (ofStrs ss).length))), (8, .c (.d (.int .i64 (i : Nat))))], ⟨0, []⟩⟩) (ss.length + 1) ?_ (by rintro st ⟨i, h1, h2, _⟩; omega) ?_
        · exact weak_keep [0, 1, 7, 8] rfl ⟨0, by omega, by omega, rfl, rfl⟩
        · rintro n K hK st ⟨i, hi, hn, hidx, rfl⟩
          have hroom' := hroom
          unfold room at hroom'
          by_cases hend : i = ss.length
          · have hm : idxOf (fun s => !part s) ss 0 = -1 := by rw [hidx, hend, List.drop_length]; rfl
            rw [hm]
            repeat' first | ((with_reducible first|apply ZD|apply ZE|apply ZF|apply ZG|apply ZH|apply ZI);rfl;rfl;all_goals (intro hc;first|(exfalso;omega)|skip))|((with_reducible first|apply ZJ|apply ZK);rfl;rfl;all_goals (intro hc;first|contradiction|skip))|((with_reducible first|apply ZL|apply ZM);rfl;rfl;omega;omega)|((with_reducible first|apply ZN|apply ZO);rfl;rfl;omega;omega;intro c hget hc)|((with_reducible apply ZP);rfl;(first|exact .inl rfl|assumption);rfl;rfl;omega;omega;omega;intro s' hs' hl')|((with_reducible apply ZQ);rfl;rfl;rfl;omega;omega;omega;intro s' hs' hl')|((with_reducible apply ZR);rfl) | refine GoH ?_|refine ZB rfl ?_|refine ZC rfl ?_
            exact ⟨_, rfl, rfl⟩
          · have hlt : i < ss.length := by omega
            have hx : ss[i]? = some ss[i] := List.getElem?_eq_getElem hlt
            have hx' : (ofStrs ss)[(i : Int).toNat]? = some [.str ss[i]] := by simp [ofStrs_get, hlt]
            have h45 : G45 part [.c (.str ss[i])] = some (.c (.bool (!part ss[i]))) := by
              have := hall _ (List.getElem_mem hlt)
              simp only [G45, if_pos this]
            rw [idxOf_drop hx] at hidx
            repeat' first
              | ((with_reducible first|apply ZD|apply ZE|apply ZF|apply ZG|apply ZH|apply ZI);rfl;rfl;all_goals (intro hc;first|(exfalso;omega)|skip))|((with_reducible first|apply ZJ|apply ZK);rfl;rfl;all_goals (intro hc;first|contradiction|skip))|((with_reducible first|apply ZL|apply ZM);rfl;rfl;omega;omega)|((with_reducible first|apply ZN|apply ZO);rfl;rfl;omega;omega;intro c hget hc)|((with_reducible apply ZP);rfl;(first|exact .inl rfl|assumption);rfl;rfl;omega;omega;omega;intro s' hs' hl')|((with_reducible apply ZQ);rfl;rfl;rfl;omega;omega;omega;intro s' hs' hl')|((with_reducible apply ZR);rfl)
              | ((with_reducible apply step_vfn (g := 33)); rfl; rfl; rfl; rfl; exact h45; rfl; rfl; refine step_bool (fun hb => ?_) (fun hb => ?_))
              | refine ZB (ev_idx rfl rfl (by omega) hx' rfl) ?_
              | refine GoH ?_|refine ZB rfl ?_|refine ZC rfl ?_
            · rw [if_pos hb] at hidx
              rw [hidx]
              exact ⟨_, rfl, rfl⟩
            · rw [if_neg (by rw [hb]; simp)] at hidx
              exact hK _ (weak_keep [0, 1, 7, 8] rfl ⟨i + 1, by omega, by omega, hidx, rfl⟩)
      · cases h
    · cases h
  · cases h
theorem pok63 {m : Int} {part : List UInt8 → Bool} (h : PureOk Go.Proofs.Tryd.prog (glb m) 33 (G45 part)) : PureOk Go.Proofs.Tryd.prog (glb m) 57 (G63 part) := pure_ok (fn63 m) (callOk_cons h (callOk_nil _ _)) (w63 part)
def badS (part : List UInt8 → Bool) (ss : List (List UInt8)) : Bool := ss.any fun s => !part s
theorem idxOf_any (p : List UInt8 → Bool) : ∀ (ss : List (List UInt8)) (k : Nat), decide (0 ≤ idxOf p ss k) = ss.any p
  | [], _ => rfl
  | s :: r, k => by
    simp only [idxOf, List.any_cons]
    by_cases h : p s = true
    · simp [h]
    · have h' : p s = false := by simpa using h
      simp [h', ← idxOf_any p r (k + 1)]
def G47 (part : List UInt8 → Bool) : List DV → Option DV
  | [.c (.list _ l), .c (.fn 33)] => match strsOf l with
    | some ss => if roomAll ss then some (.c (.bool (badS part ss))) else none
    | none => none
  | _ => none
set_option maxRecDepth 8000 in
theorem w47 (part : List UInt8 → Bool) (ds : List DV) (r : DV) (h : G47 part ds = some r) : awp (tbl [(57, G63 part)]) c47 (PureQ [.t 4] r) ⟨argE 0 (dvArgs ds), ⟨0, []⟩⟩ := by
  unfold G47 at h
  split at h
  · rename_i sz l
    split at h
    · rename_i ss hss
      split at h
      · rename_i hroom
        cases h
        have h63 : G63 part [.c (.list sz l), .c (.fn 33)] = some (.c (.int .i64 (idxOf (fun s => !part s) ss 0))) := by simp [G63, hss, hroom]
        have hbad := idxOf_any (fun s => !part s) ss 0
        unfold c47
        repeat' first | ((with_reducible first|apply ZD|apply ZE|apply ZF|apply ZG|apply ZH|apply ZI);rfl;rfl;all_goals (intro hc;first|(exfalso;omega)|skip))|((with_reducible first|apply ZJ|apply ZK);rfl;rfl;all_goals (intro hc;first|contradiction|skip))|((with_reducible first|apply ZL|apply ZM);rfl;rfl;omega;omega)|((with_reducible first|apply ZN|apply ZO);rfl;rfl;omega;omega;intro c hget hc)|((with_reducible apply ZP);rfl;(first|exact .inl rfl|assumption);rfl;rfl;omega;omega;omega;intro s' hs' hl')|((with_reducible apply ZQ);rfl;rfl;rfl;omega;omega;omega;intro s' hs' hl')|((with_reducible apply ZR);rfl) | ((with_reducible apply Z1 (f := 57));rfl;rfl;rfl;exact h63;rfl) | refine GoH ?_|refine ZB rfl ?_|refine ZC rfl ?_
        · have e : badS part ss = true := by unfold badS; rw [← hbad]; simpa using hc
          rw [e]; exact ⟨_, rfl, rfl⟩
        · have e : badS part ss = false := by unfold badS; rw [← hbad]; simpa using hc
          rw [e]; exact ⟨_, rfl, rfl⟩
      · cases h
    · cases h
  · cases h
theorem pok47 {m : Int} {part : List UInt8 → Bool} (h : PureOk Go.Proofs.Tryd.prog (glb m) 57 (G63 part)) : PureOk Go.Proofs.Tryd.prog (glb m) 35 (G47 part) := pure_ok (fn47 m) (callOk_cons h (callOk_nil _ _)) (w47 part)
end Go.Am
