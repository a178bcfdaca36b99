/-
  strings.Join, shape.Text.
-/
import Derived.Test.YtnhalnblbfgbkaaDoorAMJ
import Derived.Test.YtnhalnblbfgbkaaDoorAQU
import Derived.Test.YtnhalnblbfgbkaaDoorACY
import Derived.Test.YtnhalnblbfgbkaaDoorACZ
namespace Go.Am
open Go
def G59 : List DV → Option DV
  | [.c (.list sz l), .c (.str sep)] => match strsOf l with
    | some ss => if (sz = 1 ∨ ss = []) ∧ joinOk ss sep = true then some (.c (.str (joinOf ss sep))) else none
    | none => none
  | _ => none
theorem kept_below {w w' : World} (h : RowKit.Below w.heap.size w w') : Kept (fun _ => False) w w' := ⟨h.os, h.tape, h.output, h.size, fun b hb _ => h.block b hb⟩
theorem map_data : ∀ ss : List (List UInt8), (ss.map fun s => (⟨⟨s⟩⟩ : ByteArray)).map (fun x => x.data.toList) = ss
  | [] => rfl
  | s :: r => by simp only [List.map_cons, map_data r]
theorem ofStrs_flat : ∀ ss : List (List UInt8), (ofStrs ss).flatten = ss.map D.str
  | [] => rfl
  | s :: r => by
    have := ofStrs_flat r
    show ([D.str s] :: ofStrs r).flatten = _
    simp only [List.flatten_cons, this]
    rfl
theorem pok59 (m : Int) : PureOk Go.Proofs.Tryd.prog (glb m) 117 G59 := by
  refine .inl ⟨enters_of (fn := Go.Proofs.Tryd.f117) (c := (Go.Proofs.Tryd.f117.body).getD .skip) (by kernel_rfl) (by kernel_rfl) (by kernel_rfl), ?_⟩
  intro w A ds vs r hgl hA hds hG
  unfold G59 at hG
  split at hG
  · rename_i sz l sep
    split at hG
    · rename_i ss hss
      split at hG
      · rename_i hok
        cases hG
        obtain ⟨hsz, hok⟩ := hok
        obtain rfl := strsOf_get hss
        simp only [joinOk, Bool.and_eq_true, decide_eq_true_eq] at hok
        obtain ⟨hl1, hl2⟩ := hok
        unfold room at hl1 hl2
        obtain ⟨u, v, rfl, h1, h2⟩ := ds_two hds
        obtain rfl := repdv_str h2
        cases h1 with
        | c _ _ h1 =>
          generalize hl : ofStrs ss = l at h1
          cases h1 with
          | nil _ a c =>
            have : ss = [] := by cases ss with | nil => rfl | cons b r => cases hl
            subst this
            refine Calls.mono (Go.Proofs.Any.strings_Join_none Go.Proofs.Tryd.lays156 Go.Proofs.Tryd.extra156 a c ⟨⟨sep⟩⟩ w) ?_
            rintro e w' ⟨rfl, rfl⟩
            exact ⟨Kept.refl _ _, .c _ _ (.str _)⟩
          | list _ _ b off c us hpos hz' hse hc hnA hcell hrepd =>
            have hlen : l.length = ss.length := by rw [← hl]; exact ofStrs_len ss
            have hne : ss ≠ [] := by intro e; rw [e] at hlen; simp only [List.length_nil] at hlen; omega
            have hs1 : sz = 1 := hsz.resolve_right hne
            subst hs1
            rw [hlen]
            have hx : ∀ (j : Nat) x, (ss.map fun s => (⟨⟨s⟩⟩ : ByteArray))[j]? = some x → w.cell? ⟨b, off + j, none⟩ = some (.string x) := by
              intro j x hj
              rw [List.getElem?_map] at hj
              cases hsj : ss[j]? with
              | none => rw [hsj] at hj; cases hj
              | some s =>
                rw [hsj] at hj
                cases hj
                have hjl : j < ss.length := (List.getElem?_eq_some_iff.1 hsj).1
                have e1 : cellAt w b (off + j) = some (us j) := hcell j (by omega)
                have e2 : l.flatten[j]? = some (.str s) := by rw [← hl, ofStrs_flat, List.getElem?_map, hsj]; rfl
                have e3 := hrepd j _ e2
                have e4 : us j = .string ⟨⟨s⟩⟩ := by
                  generalize us j = z at e3
                  cases e3
                  rfl
                rw [← e4]
                exact e1
            have hb : b < w.heap.size := by
              have := hcell 0 (by omega)
              exact cellAt_lt this
            have key := Go.Proofs.Any.strings_Join Go.Proofs.Tryd.lays156 Go.Proofs.Tryd.extra156 b off c (ss.map fun s => (⟨⟨s⟩⟩ : ByteArray)) ⟨⟨sep⟩⟩ w hx hb (by simp; omega) (by simp; omega)
              (by rw [map_data]; have : (joinOf ss sep).length ≤ 140737488355328 := by omega
                  exact this)
            rw [List.length_map] at key
            refine Calls.mono key ?_
            rintro e w' ⟨rfl, hbel⟩
            refine ⟨kept_below hbel, .c _ _ ?_⟩
            rw [map_data]
            exact .str _
      · cases hG
    · cases hG
  · cases hG
def G58 : List DV → Option DV
  | [.c (.bool b)] => some (.c (.str (if b then [95] else [])))
  | _ => none
theorem w58 (ds : List DV) (r : DV) (h : G58 ds = some r) : awp (tbl []) c58 (PureQ [.t 2] r) ⟨argE 0 (dvArgs ds), ⟨0, []⟩⟩ := by
  unfold G58 at h
  split at h
  · rename_i b
    cases h
    unfold c58
    cases b <;> (repeat' first | refine GoH ?_|refine ZB rfl ?_|refine ZC rfl ?_) <;> exact ⟨_, rfl, rfl⟩
  · cases h
theorem pok58 (m : Int) : PureOk Go.Proofs.Tryd.prog (glb m) 116 G58 := pure_ok (fn58 m) (callOk_nil _ _) w58
def G34 : List DV → Option DV
  | [.agg [.list sz l, .bool a, .bool b]] => match strsOf l with
    | some ss => if (sz = 1 ∨ ss = []) ∧ joinOk ss [95] = true then some (.c (.str (textOf ⟨ss, a, b⟩))) else none
    | none => none
  | _ => none
theorem evalR_vfn {cl : Call} {e : Env} {h : Hp} {f : Opd} {g : Nat} {args : List Opd} {G : List DV → Option DV} {ds : List DV} {q : DV} {v : V} (hx : ev e f = .c (.d (.fn g))) (hh : cl.heap g = none) (hp : cl.pure g = some G) (hd : toDVs h (evs e args) = some ds) (hG : G ds = some q) (hv : q.toV = some v) (hf : q.flat = true) :
    evalR cl e h (.vcall f args) v h := by
  unfold evalR
  simp only [opWp]
  rw [hx]
  exact vcall_pure hh hp hd hG hv hf ⟨rfl, rfl⟩
set_option maxRecDepth 8000 in
set_option maxHeartbeats 2000000 in
theorem w34 (ds : List DV) (r : DV) (h : G34 ds = some r) : awp (tbl [(116, G58), (117, G59)]) c34 (PureQ [.t 2] r) ⟨argE 0 (dvArgs ds), ⟨0, []⟩⟩ := by
  unfold G34 at h
  split at h
  · rename_i sz l a b
    split at h
    · rename_i ss hss
      split at h
      · rename_i hok
        cases h
        have h59 : G59 [.c (.list sz l), .c (.str [95])] = some (.c (.str (joinOf ss [95]))) := by simp only [G59, hss, if_pos hok]
        have h58a : G58 [.c (.bool a)] = some (.c (.str (if a then [95] else []))) := rfl
        have h58b : G58 [.c (.bool b)] = some (.c (.str (if b then [95] else []))) := rfl
        have hl : (joinOf ss [95]).length ≤ 2147483648 := by
          have := hok.2
          simp only [joinOk, Bool.and_eq_true, decide_eq_true_eq] at this
          exact this.2
        have hla : (if a = true then [95] else ([] : List UInt8)).length ≤ 1 := by split <;> simp
        have hlb : (if b = true then [95] else ([] : List UInt8)).length ≤ 1 := by split <;> simp
        unfold c34
        repeat' first
          | refine GoH ?_|refine ZB rfl ?_|refine ZC rfl ?_
          | with_reducible apply ZS
          | refine ZX rfl (ev_adds rfl rfl (by first | omega | (simp only [List.length_append]; omega))) ?_
          | refine ZY (ev_pcall rfl rfl h59 rfl rfl) (by (repeat' first|exact True.intro|refine ⟨?_, ?_⟩|exact .inl rfl|exact .inr (.inl rfl)|exact .inr (.inr rfl)|rfl)) ?_
          | refine ZZ (evalR_vfn rfl rfl rfl rfl h58a rfl rfl) (by (repeat' first|exact True.intro|refine ⟨?_, ?_⟩|exact .inl rfl|exact .inr (.inl rfl)|exact .inr (.inr rfl)|rfl)) ?_
          | refine ZZ (evalR_vfn rfl rfl rfl rfl h58b rfl rfl) (by (repeat' first|exact True.intro|refine ⟨?_, ?_⟩|exact .inl rfl|exact .inr (.inl rfl)|exact .inr (.inr rfl)|rfl)) ?_
          | (with_reducible first|apply ZS|apply ZT)|((with_reducible apply ZU);rfl)|((with_reducible apply ZV);rfl;decide)|((with_reducible apply ZW);rfl)|refine ZX rfl rfl ?_|refine ZY rfl (by (repeat' first|exact True.intro|refine ⟨?_, ?_⟩|exact .inl rfl|exact .inr (.inl rfl)|exact .inr (.inr rfl)|rfl)) ?_
        exact ⟨_, rfl, rfl⟩
      · cases h
    · cases h
  · cases h
theorem pok34 (m : Int) : PureOk Go.Proofs.Tryd.prog (glb m) 101 G34 := pure_ok (fn34 m) (callOk_cons (pok58 m) (callOk_cons (pok59 m) (callOk_nil _ _))) w34
def simplesT : List (List UInt8 × Bool × Bool × Nat) := [([120, 102, 120], true, true, 0), ([120, 102, 121], true, true, 2), ([121, 102, 120], true, true, 1), ([102, 120], false, true, 0), ([102, 121], false, true, 2), ([120, 102], true, false, 0), ([121, 102], true, false, 1)]
def simpleIn : List (List UInt8 × Bool × Bool × Nat) → List UInt8 → Option (Bool × Bool × Nat)
  | [], _ => none
  | (k, l, r, a) :: t, s => if k = s then some (l, r, a) else simpleIn t s
def simpleDV (kind name : List UInt8) : Option DV := match simpleIn simplesT kind with
  | none => some (.tup [.c (.str []), .c (.int .i64 0), .c (.int .i64 22)])
  | some (l, r, a) => if name = [] ∨ 0 ≤ Lib.indexByte name 95 then some (.tup [.c (.str []), .c (.int .i64 0), .c (.int .i64 23)])
    else if joinOk [name] [95] = true then some (.tup [.c (.str (textOf ⟨[name], l, r⟩)), .c (.int .i64 a), .c (.int .i64 0)]) else none
def G40 : List DV → Option DV
  | [.c (.str kind), .c (.str name)] => simpleDV kind name
  | _ => none
def simplesV : V := .agg (simplesD.map .d)
theorem simples_at {k : Nat} (hk : k < 7) : ∃ (n : List UInt8) (l r : Bool) (a : Nat), simplesT.drop k = (n, l, r, a) :: simplesT.drop (k + 1) ∧ sub (simplesD.map C.d) (k * 4) 4 = some [.d (.str n), .d (.bool l), .d (.bool r), .d (.int .i64 a)] := by
  have : k = 0 ∨ k = 1 ∨ k = 2 ∨ k = 3 ∨ k = 4 ∨ k = 5 ∨ k = 6 := by omega
  rcases this with rfl | rfl | rfl | rfl | rfl | rfl | rfl <;> exact ⟨_, _, _, _, rfl, rfl⟩
set_option maxRecDepth 8000 in
set_option maxHeartbeats 4000000 in
theorem w40 (ds : List DV) (r : DV) (h : G40 ds = some r) : awp (tbl [(101, G34), (86, G61)]) c40 (PureQ [.t 4, .t 5, .t 6] r) ⟨argE 0 (dvArgs ds), ⟨0, []⟩⟩ := by
  unfold G40 at h
  split at h
  · rename_i kind name
    have h61 : G61 [.c (.str name), .c (.str [95])] = some (.c (.bool (decide (0 ≤ Lib.indexByte name 95)))) := rfl
    unfold simpleDV at h
    unfold c40
    repeat' first | refine GoH ?_|refine ZB rfl ?_|refine ZC rfl ?_
    refine awp_loop (fun m st => ∃ k nx : Nat, k ≤ 7 ∧ m = 7 - k + 1 ∧ simpleIn simplesT kind = simpleIn (simplesT.drop k) kind ∧
      st = ⟨[(0, .c (.d (.str kind))), (1, .c (.d (.str name))), (9, simplesV), (10, .c (.d (.int .i64 (k : Nat))))], ⟨nx, []⟩⟩) 8 ?_ (by rintro st ⟨k, nx, h1, h2, _⟩; omega) ?_
    · exact weak_keep [0, 1, 9, 10] rfl ⟨0, 0, by omega, by omega, rfl, rfl⟩
    · rintro m K hK st ⟨k, nx, hk, hm, hin, rfl⟩
      by_cases h7 : k = 7
      · subst h7
        rw [hin] at h
        obtain rfl : DV.tup [.c (.str []), .c (.int .i64 0), .c (.int .i64 22)] = r := Option.some.inj h
        repeat' first | ((with_reducible first|apply ZD|apply ZE|apply ZF|apply ZG|apply ZH|apply ZI);rfl;rfl;all_goals (intro hc;first|(exfalso;omega)|skip))|((with_reducible first|apply ZJ|apply ZK);rfl;rfl;all_goals (intro hc;first|contradiction|skip))|((with_reducible first|apply ZL|apply ZM);rfl;rfl;omega;omega)|((with_reducible first|apply ZN|apply ZO);rfl;rfl;omega;omega;intro c hget hc)|((with_reducible apply ZP);rfl;(first|exact .inl rfl|assumption);rfl;rfl;omega;omega;omega;intro s' hs' hl')|((with_reducible apply ZQ);rfl;rfl;rfl;omega;omega;omega;intro s' hs' hl')|((with_reducible apply ZR);rfl) | refine GoH ?_|refine ZB rfl ?_|refine ZC rfl ?_
        exact ⟨_, rfl, rfl⟩
      · obtain ⟨n, l, rr, a, hd, hsub⟩ := simples_at (show k < 7 by omega)
        rw [hd] at hin
        have hm2 : mkV true (sub (simplesD.map C.d) (k * 4) 4) = some (.agg [.d (.str n), .d (.bool l), .d (.bool rr), .d (.int .i64 a)]) := by rw [hsub]; rfl
        by_cases hn : n = kind
        · have hin' : simpleIn simplesT kind = some (l, rr, a) := by rw [hin]; simp only [simpleIn, if_pos hn]
          rw [hin'] at h
          simp only at h
          by_cases hbad : name = [] ∨ 0 ≤ Lib.indexByte name 95
          · rw [if_pos hbad] at h
            obtain rfl : DV.tup [.c (.str []), .c (.int .i64 0), .c (.int .i64 23)] = r := Option.some.inj h
            have hb : name ≠ [] → decide (0 ≤ Lib.indexByte name 95) = true := fun hne => decide_eq_true (hbad.resolve_left hne)
            repeat' first
              | ((with_reducible first|apply ZD|apply ZE|apply ZF|apply ZG|apply ZH|apply ZI);rfl;rfl;all_goals (intro hc;first|(exfalso;omega)|skip))|((with_reducible first|apply ZJ|apply ZK);rfl;rfl;all_goals (intro hc;first|contradiction|skip))|((with_reducible first|apply ZL|apply ZM);rfl;rfl;omega;omega)|((with_reducible first|apply ZN|apply ZO);rfl;rfl;omega;omega;intro c hget hc)|((with_reducible apply ZP);rfl;(first|exact .inl rfl|assumption);rfl;rfl;omega;omega;omega;intro s' hs' hl')|((with_reducible apply ZQ);rfl;rfl;rfl;omega;omega;omega;intro s' hs' hl')|((with_reducible apply ZR);rfl)
              | (((with_reducible apply Z1 (f := 86));rfl;rfl;rfl;exact h61;rfl); refine step_val (hb (by assumption)) ?_)
              | refine ZB (ev_at (k := k) (n := 0) rfl rfl (by omega) hm2 rfl) ?_
              | refine ZC (ev_store rfl rfl rfl look_hd rfl put_hd) ?_
              | refine ZB (ev_load rfl look_hd rfl) ?_
              | refine GoH ?_|refine ZB rfl ?_|refine ZC rfl ?_
            all_goals exact ⟨_, rfl, rfl⟩
          · rw [if_neg hbad] at h
            by_cases hok : joinOk [name] [95] = true
            · rw [if_pos hok] at h
              obtain rfl := Option.some.inj h
              have hne : name ≠ [] := fun e => hbad (.inl e)
              have hb : decide (0 ≤ Lib.indexByte name 95) = false := decide_eq_false fun e => hbad (.inr e)
              have h34 : G34 [.agg [.list 1 [[.str name]], .bool l, .bool rr]] = some (.c (.str (textOf ⟨[name], l, rr⟩))) := by
                have e : G34 [.agg [.list 1 (ofStrs [name]), .bool l, .bool rr]] = some (.c (.str (textOf ⟨[name], l, rr⟩))) := by
                  simp only [G34, strsOf_back]
                  rw [if_pos ⟨.inl trivial, hok⟩]
                exact e
              repeat' first
                | ((with_reducible first|apply ZD|apply ZE|apply ZF|apply ZG|apply ZH|apply ZI);rfl;rfl;all_goals (intro hc;first|(exfalso;omega)|skip))|((with_reducible first|apply ZJ|apply ZK);rfl;rfl;all_goals (intro hc;first|contradiction|skip))|((with_reducible first|apply ZL|apply ZM);rfl;rfl;omega;omega)|((with_reducible first|apply ZN|apply ZO);rfl;rfl;omega;omega;intro c hget hc)|((with_reducible apply ZP);rfl;(first|exact .inl rfl|assumption);rfl;rfl;omega;omega;omega;intro s' hs' hl')|((with_reducible apply ZQ);rfl;rfl;rfl;omega;omega;omega;intro s' hs' hl')|((with_reducible apply ZR);rfl)
                | (((with_reducible apply Z1 (f := 86));rfl;rfl;rfl;exact h61;rfl); refine step_val hb ?_)
                | refine ZB (ev_at (k := k) (n := 0) rfl rfl (by omega) hm2 rfl) ?_
                | refine ZC (ev_store rfl rfl rfl look_hd rfl put_hd) ?_
                | refine ZB (ev_load rfl look_hd rfl) ?_
                | refine GoH ?_|refine ZB rfl ?_|refine ZC rfl ?_
                | with_reducible apply ZS
                | refine ZY (ev_load rfl look_hd rfl) (by (repeat' first|exact True.intro|refine ⟨?_, ?_⟩|exact .inl rfl|exact .inr (.inl rfl)|exact .inr (.inr rfl)|rfl)) ?_
                | refine ZY (ev_pcall rfl rfl h34 rfl rfl) (by (repeat' first|exact True.intro|refine ⟨?_, ?_⟩|exact .inl rfl|exact .inr (.inl rfl)|exact .inr (.inr rfl)|rfl)) ?_
                | (with_reducible first|apply ZS|apply ZT)|((with_reducible apply ZU);rfl)|((with_reducible apply ZV);rfl;decide)|((with_reducible apply ZW);rfl)|refine ZX rfl rfl ?_|refine ZY rfl (by (repeat' first|exact True.intro|refine ⟨?_, ?_⟩|exact .inl rfl|exact .inr (.inl rfl)|exact .inr (.inr rfl)|rfl)) ?_
              all_goals exact ⟨_, rfl, rfl⟩
            · rw [if_neg hok] at h
              cases h
        · have hin' : simpleIn simplesT kind = simpleIn (simplesT.drop (k + 1)) kind := by rw [hin]; simp only [simpleIn, if_neg hn]
          repeat' first
            | ((with_reducible first|apply ZD|apply ZE|apply ZF|apply ZG|apply ZH|apply ZI);rfl;rfl;all_goals (intro hc;first|(exfalso;omega)|skip))|((with_reducible first|apply ZJ|apply ZK);rfl;rfl;all_goals (intro hc;first|contradiction|skip))|((with_reducible first|apply ZL|apply ZM);rfl;rfl;omega;omega)|((with_reducible first|apply ZN|apply ZO);rfl;rfl;omega;omega;intro c hget hc)|((with_reducible apply ZP);rfl;(first|exact .inl rfl|assumption);rfl;rfl;omega;omega;omega;intro s' hs' hl')|((with_reducible apply ZQ);rfl;rfl;rfl;omega;omega;omega;intro s' hs' hl')|((with_reducible apply ZR);rfl)
            | refine ZB (ev_at (k := k) (n := 0) rfl rfl (by omega) hm2 rfl) ?_
            | refine ZC (ev_store rfl rfl rfl look_hd rfl put_hd) ?_
            | refine ZB (ev_load rfl look_hd rfl) ?_
            | refine GoH ?_|refine ZB rfl ?_|refine ZC rfl ?_
          exact hK _ (weak_drop [0, 1, 9, 10] rfl (fun y o h => by cases h) (Nat.le_refl _) ⟨k + 1, _, by omega, by omega, hin', rfl⟩)
  · cases h
theorem pok40 (m : Int) : PureOk Go.Proofs.Tryd.prog (glbS m) 70 G40 := pure_ok (fn40 m) (callOk_cons (pok34 m).s (callOk_cons (pok61 m).s (callOk_nil _ _))) w40
def G42 (part : List UInt8 → Bool) : List DV → Option DV
  | [.agg [.str pat, .int .i64 g, .int .i64 a]] => some (.c (.int .i64 (mayOf part pat g a)))
  | _ => none
set_option maxRecDepth 8000 in
set_option maxHeartbeats 4000000 in
theorem w42 (part : List UInt8 → Bool) (ds : List DV) (r : DV) (h : G42 part ds = some r) : awp (tbl [(30, G19 part)]) c42 (PureQ [.t 2] r) ⟨argE 0 (dvArgs ds), ⟨0, []⟩⟩ := by
  unfold G42 at h
  split at h
  · rename_i pat g a
    cases h
    unfold mayOf
    cases hS : shapeOf part pat with
    | none =>
      have h19 : G19 part [.c (.str pat)] = some (.tup [.agg [.list 0 [], .bool false, .bool false], .c (.int .i64 23)]) := by simp only [G19, hS]; rfl
      unfold c42
      repeat' first | ((with_reducible first|apply ZD|apply ZE|apply ZF|apply ZG|apply ZH|apply ZI);rfl;rfl;all_goals (intro hc;first|(exfalso;omega)|skip))|((with_reducible first|apply ZJ|apply ZK);rfl;rfl;all_goals (intro hc;first|contradiction|skip))|((with_reducible first|apply ZL|apply ZM);rfl;rfl;omega;omega)|((with_reducible first|apply ZN|apply ZO);rfl;rfl;omega;omega;intro c hget hc)|((with_reducible apply ZP);rfl;(first|exact .inl rfl|assumption);rfl;rfl;omega;omega;omega;intro s' hs' hl')|((with_reducible apply ZQ);rfl;rfl;rfl;omega;omega;omega;intro s' hs' hl')|((with_reducible apply ZR);rfl) | ((with_reducible apply Z1 (f := 30));rfl;rfl;rfl;exact h19;rfl) | refine GoH ?_|refine ZB rfl ?_|refine ZC rfl ?_
      exact ⟨_, rfl, rfl⟩
    | some v =>
      obtain ⟨ps, l, rr⟩ := v
      have h19 : G19 part [.c (.str pat)] = some (.tup [.agg [.list 1 (ofStrs ps), .bool l, .bool rr], .c (.int .i64 0)]) := by simp only [G19, hS]; rfl
      unfold c42
      cases l <;> cases rr <;> (try simp only [Bool.false_eq_true, and_false, and_true, or_false, false_or]) <;>
      (repeat' first | ((with_reducible first|apply ZD|apply ZE|apply ZF|apply ZG|apply ZH|apply ZI);rfl;rfl;all_goals (intro hc;first|(exfalso;omega)|skip))|((with_reducible first|apply ZJ|apply ZK);rfl;rfl;all_goals (intro hc;first|contradiction|skip))|((with_reducible first|apply ZL|apply ZM);rfl;rfl;omega;omega)|((with_reducible first|apply ZN|apply ZO);rfl;rfl;omega;omega;intro c hget hc)|((with_reducible apply ZP);rfl;(first|exact .inl rfl|assumption);rfl;rfl;omega;omega;omega;intro s' hs' hl')|((with_reducible apply ZQ);rfl;rfl;rfl;omega;omega;omega;intro s' hs' hl')|((with_reducible apply ZR);rfl) | ((with_reducible apply Z1 (f := 30));rfl;rfl;rfl;exact h19;rfl) | refine GoH ?_|refine ZB rfl ?_|refine ZC rfl ?_)
      all_goals first
        | (rw [if_pos (by omega)]; exact ⟨_, rfl, rfl⟩)
        | (rw [if_neg (by omega), if_pos (by omega)]; exact ⟨_, rfl, rfl⟩)
        | (rw [if_neg (by omega), if_neg (by omega)]; exact ⟨_, rfl, rfl⟩)
  · cases h
theorem pok42 {m : Int} {part : List UInt8 → Bool} (h : PureOk Go.Proofs.Tryd.prog (glbS m) 30 (G19 part)) : PureOk Go.Proofs.Tryd.prog (glbS m) 71 (G42 part) := pure_ok (fn42 m) (callOk_cons h (callOk_nil _ _)) (w42 part)
theorem toInt_64 {cl : Call} {e : Env} {h : Hp} {x : Opd} {k : IntKind} {n : Int} (hx : ev e x = .c (.d (.int k n))) (h0 : 0 ≤ n) (h1 : n < 9223372036854775808) : eval cl e h (.toInt .i64 x) = some (.c (.d (.int .i64 n)), h) := by
  simp only [eval, hx, wrap64 (n := n) (by omega) (by omega)]
end Go.Am
