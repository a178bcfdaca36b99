/-
  graph, and the reference's: Start, Tighter, Edge; New.
-/
import Derived.Test.YtpidbhbmamjbpaaDoorSMD
import Derived.Test.YtpidbhbmamjbpaaDoorProg
import Derived.Test.YtpidbhbmamjbpaaDoorSCU
import Derived.Test.YtpidbhbmamjbpaaDoorSME
import Derived.Test.YtpidbhbmamjbpaaDoorSQU
namespace Go.Am
open Go K
set_option maxRecDepth 100000
theorem mixedV : Go.Proofs.Tryd.prog.follows .mixedOrders = true := by kernel_rfl
def c31 : ACode :=
 (S (R [q 2 (.box (t 0)), q 4 (.move (.k (.c .nil)))]) (S (R [q 5 (.newRow 4)]) (S (S (R [q 9 (fa 2 0), q 10 (l 9), q 11 (.len (t 10)), q 12 (.move (i 0))]) (B 0 (L (S (R [q 13 (.bin .lss (t 12) (t 11))]) (S (I (t 13) X (E 0)) (S (B 1 (S (R [q 14 (.idxAddr 3 (t 10) (t 12)), q 15 (la 14 3), q 7 (.alloc [e, o, o]), n (st 7 15 3)]) (S (S (R [q 16 (la 7 3), q 17 (.pcall 70 [(t 16)]), m 18 1, q 19 (.pcall 56 [(t 17), (t 18)]), q 20 (.not (t 19))]) (I (t 20) (E 1) X)) (S (R [q 21 (la 7 3), q 22 (.build [e, o, o, o] [(0, 3, (t 21))]), q 8 (.alloc [e, o, o, o]), n (st 8 22 4)]) (S (S (R [q 23 (fa 7 1), q 24 (l 23), q 25 (.bin .geq (t 24) (i 0)), m 26 25, p 27 26 (fa 7 1), p 28 26 (l 27), p 29 26 (.bin .lss (t 28) (i 10)), q 30 (.pick (t 26) (t 29) F)]) (I (t 30) (R [q 31 (fa 7 1), q 32 (l 31), q 33 (fa 2 1), q 34 (.arrAddr (t 33) (t 32) 1 10), q 35 (l 34), q 36 (fa 8 3), n (st 36 35 1)]) X)) (R [m 37 5, q 38 (la 8 4), q 39 (.lit 4 1 [(.str []), (.int .i64 0), (.int .i64 0), (.int .i64 0)] [(0, (t 38))] false), q 40 (.append (t 37) (t 39) 4), m 5 40])))))) (R [q 41 (.bin .add (t 12) (i 1)), m 12 41]))))))) (S (R [m 42 5, m 4 42]) Z))))
theorem fn31 (m : Int) : FnOk Go.Proofs.Tryd.prog ⟨[], [5], HP, glb m⟩ 46 43 c31 [.t 4] := fnk mixedV Go.Proofs.Tryd.f46
end Go.Am
namespace Go.Am
open Go
def G64 : List DV → Option DV
  | [] => some (.agg (rowsD fun x => (startF x : Int)))
  | _ => none
theorem w64 (ds : List DV) (r : DV) (h : G64 ds = some r) : awp (tbl []) c64 (PureQ [.cell 0 10 true] r) ⟨argE 0 (dvArgs ds), ⟨0, []⟩⟩ := by
  unfold G64 at h
  split at h
  · cases h
    exact run_pure (n := 100) (by kernel_rfl)
  · cases h
theorem pok64 (m : Int) : PureOk Go.Proofs.Tryd.prog (glb m) 26 G64 := pure_ok (fn64 m) (callOk_nil _ _) w64
def tightI (f : Nat → Int) (g h : Int) : Bool := decide (0 ≤ g ∧ g < 10 ∧ 0 ≤ h ∧ h < 10) && bitI (f g.toNat) h.toNat
noncomputable def T51 : List DV → Option DV := fam (fun x : (Nat → Int) × Int × Int => [.agg (rowsD x.1), .c (.int .i64 x.2.1), .c (.int .i64 x.2.2)]) (fun _ => True) (fun x => .c (.bool (tightI x.1 x.2.1 x.2.2)))
theorem T51_eq (f : Nat → Int) (g h : Int) : T51 [.agg (rowsD f), .c (.int .i64 g), .c (.int .i64 h)] = some (.c (.bool (tightI f g h))) := by
  refine fam_eq (ι := (Nat → Int) × Int × Int) (f, g, h) trivial ?_
  rintro ⟨f', g', h'⟩ _ he
  simp only [List.cons.injEq, DV.agg.injEq, DV.c.injEq, D.int.injEq, true_and, and_true] at he
  obtain ⟨h1, rfl, rfl⟩ := he
  have h2 := rowsD_inj h1
  simp only [tightI]
  by_cases hg : 0 ≤ g' ∧ g' < 10 ∧ 0 ≤ h' ∧ h' < 10
  · rw [h2 g'.toNat (by omega)]
  · rw [decide_eq_false hg]; rfl
theorem tightI_no {f : Nat → Int} {g h : Int} (hn : ¬ (0 ≤ g ∧ g < 10 ∧ 0 ≤ h ∧ h < 10)) : tightI f g h = false := by unfold tightI; rw [decide_eq_false hn]; rfl
theorem tightI_at {f : Nat → Int} {g h : Nat} (hg : g < 10) (hh : h < 10) : tightI f g h = bitI (f g) h := by
  unfold tightI
  rw [decide_eq_true (by omega)]
  simp
theorem tightI_t {f : Nat → Int} {g h : Nat} (hg : g < 10) (hh : h < 10) (hb : (f g).fdiv (2 ^ h) % 2 = 1) : tightI f g h = true := by rw [tightI_at hg hh]; unfold bitI; exact decide_eq_true hb
theorem tightI_f {f : Nat → Int} {g h : Nat} (hg : g < 10) (hh : h < 10) (hb : (f g).fdiv (2 ^ h) % 2 ≠ 1) : tightI f g h = false := by rw [tightI_at hg hh]; unfold bitI; exact decide_eq_false hb
def G69 : List DV → Option DV
  | [.c (.int .i64 g)] => some (.c (.bool (decide (0 < g ∧ g < 10))))
  | _ => none
theorem w69 (ds : List DV) (r : DV) (h : G69 ds = some r) : awp (tbl []) c69 (PureQ [.t 2] r) ⟨argE 0 (dvArgs ds), ⟨0, []⟩⟩ := by
  unfold G69 at h
  split at h
  · cases h
    unfold c69
    repeat' first
      | ((with_reducible first|apply ZD|apply ZE|apply ZF|apply ZG|apply ZH|apply ZI);rfl;rfl;all_goals (intro hc;first|(exfalso;omega)|skip))|((with_reducible first|apply ZJ|apply ZK);rfl;rfl;all_goals (intro hc;first|contradiction|skip))|((with_reducible first|apply ZL|apply ZM);rfl;rfl;omega;omega)|((with_reducible first|apply ZN|apply ZO);rfl;rfl;omega;omega;intro c hget hc)|((with_reducible apply ZP);rfl;(first|exact .inl rfl|assumption);rfl;rfl;omega;omega;omega;intro s' hs' hl')|((with_reducible apply ZQ);rfl;rfl;rfl;omega;omega;omega;intro s' hs' hl')|((with_reducible apply ZR);rfl)
      | refine GoH ?_|refine ZB rfl ?_|refine ZC rfl ?_
      | (rw [decide_eq_true (by omega)]; exact ⟨_, rfl, rfl⟩)
      | (rw [decide_eq_false (by omega)]; exact ⟨_, rfl, rfl⟩)
  · cases h
theorem pok69 (m : Int) : PureOk Go.Proofs.Tryd.prog (glb m) 86 G69 := pure_ok (fn69 m) (callOk_nil _ _) w69
set_option maxHeartbeats 4000000 in
theorem w51 (x : (Nat → Int) × Int × Int) (_ : True) : awp (tbl [(86, G69)]) c51 (PureQ [.t 6] (.c (.bool (tightI x.1 x.2.1 x.2.2)))) ⟨argE 0 (dvArgs [.agg (rowsD x.1), .c (.int .i64 x.2.1), .c (.int .i64 x.2.2)]), ⟨0, []⟩⟩ := by
  obtain ⟨f, g, h⟩ := x
  simp only
  have e69 : ∀ g, G69 [.c (.int .i64 g)] = some (.c (.bool (decide (0 < g ∧ g < 10)))) := fun _ => rfl
  by_cases hin : 0 ≤ g ∧ g < 10 ∧ 0 ≤ h ∧ h < 10
  · obtain ⟨g, rfl⟩ : ∃ k : Nat, g = k := ⟨g.toNat, by omega⟩
    obtain ⟨h, rfl⟩ : ∃ k : Nat, h = k := ⟨h.toNat, by omega⟩
    have hld := rows_ld f (i := g) (by omega)
    unfold c51
    repeat' first
      | refine ZB (ev_arrn (i := g) rfl rfl (by omega)) ?_
      | refine ZB (ev_load rfl look_hd hld) ?_
      | refine ZB (ev_shr (b := h) rfl rfl (by omega)) ?_
      | refine ZB (ev_and1 rfl rfl) ?_
      | ((with_reducible first|apply ZD|apply ZE|apply ZF|apply ZG|apply ZH|apply ZI);rfl;rfl;all_goals (intro hc;first|(exfalso;omega)|skip))|((with_reducible first|apply ZJ|apply ZK);rfl;rfl;all_goals (intro hc;first|contradiction|skip))|((with_reducible first|apply ZL|apply ZM);rfl;rfl;omega;omega)|((with_reducible first|apply ZN|apply ZO);rfl;rfl;omega;omega;intro c hget hc)|((with_reducible apply ZP);rfl;(first|exact .inl rfl|assumption);rfl;rfl;omega;omega;omega;intro s' hs' hl')|((with_reducible apply ZQ);rfl;rfl;rfl;omega;omega;omega;intro s' hs' hl')|((with_reducible apply ZR);rfl)
      | (((with_reducible apply Z1 (f := 86));rfl;rfl;rfl;exact (e69 _);rfl); refine step_bool (fun hb => ?_) (fun hb => ?_) <;> (simp only [decide_eq_true_eq, decide_eq_false_iff_not] at hb; first | (exfalso; omega) | skip))
      | refine GoH ?_|refine ZB rfl ?_|refine ZC rfl ?_
      | (rw [tightI_t (by omega) (by omega) (by assumption)]; exact ⟨_, rfl, rfl⟩)
      | (rw [tightI_f (by omega) (by omega) (by assumption)]; exact ⟨_, rfl, rfl⟩)
  · rw [tightI_no hin]
    unfold c51
    repeat' first
      | ((with_reducible first|apply ZD|apply ZE|apply ZF|apply ZG|apply ZH|apply ZI);rfl;rfl;all_goals (intro hc;first|(exfalso;omega)|skip))|((with_reducible first|apply ZJ|apply ZK);rfl;rfl;all_goals (intro hc;first|contradiction|skip))|((with_reducible first|apply ZL|apply ZM);rfl;rfl;omega;omega)|((with_reducible first|apply ZN|apply ZO);rfl;rfl;omega;omega;intro c hget hc)|((with_reducible apply ZP);rfl;(first|exact .inl rfl|assumption);rfl;rfl;omega;omega;omega;intro s' hs' hl')|((with_reducible apply ZQ);rfl;rfl;rfl;omega;omega;omega;intro s' hs' hl')|((with_reducible apply ZR);rfl)
      | (((with_reducible apply Z1 (f := 86));rfl;rfl;rfl;exact (e69 _);rfl); refine step_bool (fun hb => ?_) (fun hb => ?_) <;> (simp only [decide_eq_true_eq, decide_eq_false_iff_not] at hb; first | (exfalso; omega) | skip))
      | refine GoH ?_|refine ZB rfl ?_|refine ZC rfl ?_
    all_goals exact ⟨_, rfl, rfl⟩
theorem pok51 (m : Int) : PureOk Go.Proofs.Tryd.prog (glb m) 72 T51 := .inl (fam_ok (fn51 m) (callOk_cons (pok69 m) (callOk_nil _ _)) w51)
def liftF (r : Nat → Nat) (x : Nat) : Int := (r x : Int)
def zeroR : List D := [.int .i64 0, .int .i64 0, .int .i64 0, .int .i64 0, .int .i64 0, .int .i64 0, .int .i64 0, .int .i64 0, .int .i64 0, .int .i64 0]
def G48 : List DV → Option DV
  | [] => some (.agg (.list 0 [] :: rowsD fun x => (startF x : Int)))
  | _ => none
theorem w48 (ds : List DV) (r : DV) (h : G48 ds = some r) : awp (tbl [(26, G64)]) c48 (PureQ [.cell 0 11 true] r) ⟨argE 0 (dvArgs ds), ⟨0, []⟩⟩ := by
  unfold G48 at h
  split at h
  · cases h
    exact run_pure (n := 20) (by kernel_rfl)
  · cases h
theorem pok48 (m : Int) : PureOk Go.Proofs.Tryd.prog (glb m) 12 G48 := pure_ok (fn48 m) (callOk_cons (pok64 m) (callOk_nil _ _)) w48
def envD (sz : Nat) (l : List Op3) (f : Nat → Int) : List D := .list sz (l.map opD) :: rowsD f
def zeroEnv : List D := .list 0 [] :: zeroR
theorem envD_inj {sz sz' : Nat} {l l' : List Op3} {f f' : Nat → Int} (h : envD sz l f = envD sz' l' f') : l = l' ∧ ∀ x, x < 10 → f x = f' x := by
  unfold envD at h
  injection h with h1 h2
  injection h1 with _ h1
  exact ⟨ops_inj h1, rowsD_inj h2⟩
theorem envR_eq {sz : Nat} {l : List Op3} {f f' : Nat → Int} (h : ∀ x, x < 10 → f x = f' x) : envD sz l f = envD sz l f' := by unfold envD; rw [rowsD_eq h]
structure EnvOk (sz : Nat) (l : List Op3) (r : Nat → Nat) : Prop where
  sz : sz = 3 ∨ l = []
  len : l.length ≤ 1000
  lt : ∀ x, r x < 1024
  hi : ∀ x, 10 ≤ x → r x = 0
theorem EnvOk.szd {sz : Nat} {l : List Op3} {r : Nat → Nat} (h : EnvOk sz l r) : sz = 3 ∨ l.map opD = [] := h.sz.imp id fun h => by rw [h]; rfl
theorem envT {h : Hp} {x n : Nat} {l : List (List D)} (f : Nat → Int) {d : D} (hl : look h.obs x = some (.row 3 l)) (hn : n = l.length) : V.toDVt h (.tup [.agg (.own x n :: rowsC f), .c (.d d)]) = some (.tup [.agg (.list 3 l :: rowsD f), .c d]) := by
  simp [V.toDVt, toDVs, V.toDV, toDs, rowsC, rowsD, C.toD, hl, hn]
theorem span_at {α : Type} {q : α → Bool} : ∀ {l : List α} {i : Nat}, (∀ x ∈ l.take i, q x = true) → (∀ y, l[i]? = some y → q y = false) → l.takeWhile q = l.take i ∧ l.dropWhile q = l.drop i
  | [], i, _, _ => by simp
  | x :: r, 0, _, h2 => by
    have := h2 x rfl
    simp [this]
  | x :: r, i + 1, h1, h2 => by
    have hx := h1 x (by simp)
    obtain ⟨e1, e2⟩ := span_at (q := q) (l := r) (i := i) (fun y hy => h1 y (by simp [hy])) (fun y hy => h2 y (by simpa using hy))
    simp [hx, e1, e2]
theorem take_snoc {α : Type} {l : List α} {i : Nat} {x : α} (h : l[i]? = some x) : l.take (i + 1) = l.take i ++ [x] := by
  rw [List.take_add_one, h]
  rfl
theorem ops_at (l : List Op3) {i : Nat} {x : Op3} (h : l[i]? = some x) : (l.map opD)[(i : Int).toNat]? = some (opD x) := by simp [h]
end Go.Am
