/-
  graph, and the reference's: Start, Tighter, Edge; New.
-/
import Derived.Test.YtnhalnblbfgbkaaDoorAMD
import Derived.Test.YtnhalnblbfgbkaaDoorACU
import Derived.Test.YtnhalnblbfgbkaaDoorAME
import Derived.Test.YtnhalnblbfgbkaaDoorACV
import Derived.Test.YtnhalnblbfgbkaaDoorAQU
namespace Go.Am
open Go
def G64 : List DV → Option DV
  | [] => some (.agg (rowsD fun x => (startF x : Int)))
  | _ => none
theorem w64 (ds : List DV) (r : DV) (h : G64 ds = some r) : awp (tbl []) c64 (PureQ [.cell 0 10 true] r) ⟨argE 0 (dvArgs ds), ⟨0, []⟩⟩ := by
  unfold G64 at h
  split at h
  · cases h
    exact run_pure (n := 100) (by kernel_rfl)
  · cases h
theorem pok64 (m : Int) : PureOk Go.Proofs.Tryd.prog (glb m) 52 G64 := pure_ok (fn64 m) (callOk_nil _ _) w64
def tightI (f : Nat → Int) (g h : Int) : Bool := decide (0 ≤ g ∧ g < 10 ∧ 0 ≤ h ∧ h < 10) && bitI (f g.toNat) h.toNat
noncomputable def T51 : List DV → Option DV := fam (fun x : (Nat → Int) × Int × Int => [.agg (rowsD x.1), .c (.int .i64 x.2.1), .c (.int .i64 x.2.2)]) (fun _ => True) (fun x => .c (.bool (tightI x.1 x.2.1 x.2.2)))
theorem T51_eq (f : Nat → Int) (g h : Int) : T51 [.agg (rowsD f), .c (.int .i64 g), .c (.int .i64 h)] = some (.c (.bool (tightI f g h))) := by
  refine fam_eq (ι := (Nat → Int) × Int × Int) (f, g, h) trivial ?_
  rintro ⟨f', g', h'⟩ _ he
  simp only [List.cons.injEq, DV.agg.injEq, DV.c.injEq, D.int.injEq, true_and, and_true] at he
  obtain ⟨h1, rfl, rfl⟩ := he
  have h2 := rowsD_inj h1
  simp only [tightI]
  by_cases hg : 0 ≤ g' ∧ g' < 10 ∧ 0 ≤ h' ∧ h' < 10
  · rw [h2 g'.toNat (by omega)]
  · rw [decide_eq_false hg]; rfl
theorem tightI_no {f : Nat → Int} {g h : Int} (hn : ¬ (0 ≤ g ∧ g < 10 ∧ 0 ≤ h ∧ h < 10)) : tightI f g h = false := by unfold tightI; rw [decide_eq_false hn]; rfl
theorem tightI_at {f : Nat → Int} {g h : Nat} (hg : g < 10) (hh : h < 10) : tightI f g h = bitI (f g) h := by
  unfold tightI
  rw [decide_eq_true (by omega)]
  simp
theorem tightI_t {f : Nat → Int} {g h : Nat} (hg : g < 10) (hh : h < 10) (hb : (f g).fdiv (2 ^ h) % 2 = 1) : tightI f g h = true := by rw [tightI_at hg hh]; unfold bitI; exact decide_eq_true hb
theorem tightI_f {f : Nat → Int} {g h : Nat} (hg : g < 10) (hh : h < 10) (hb : (f g).fdiv (2 ^ h) % 2 ≠ 1) : tightI f g h = false := by rw [tightI_at hg hh]; unfold bitI; exact decide_eq_false hb
theorem w52 (x : (Nat → Int) × Int × Int) (_ : True) : awp (tbl []) c52 (PureQ [.t 6] (.c (.bool (tightI x.1 x.2.1 x.2.2)))) ⟨argE 0 (dvArgs [.agg (rowsD x.1), .c (.int .i64 x.2.1), .c (.int .i64 x.2.2)]), ⟨0, []⟩⟩ := by
  obtain ⟨f, g, h⟩ := x
  simp only
  by_cases hin : 0 ≤ g ∧ g < 10 ∧ 0 ≤ h ∧ h < 10
  · obtain ⟨g, rfl⟩ : ∃ k : Nat, g = k := ⟨g.toNat, by omega⟩
    obtain ⟨h, rfl⟩ : ∃ k : Nat, h = k := ⟨h.toNat, by omega⟩
    have hld := rows_ld f (i := g) (by omega)
    unfold c52
    repeat' first
      | refine ZB (ev_arrn (i := g) rfl rfl (by omega)) ?_
      | refine ZB (ev_load rfl look_hd hld) ?_
      | refine ZB (ev_shr (b := h) rfl rfl (by omega)) ?_
      | refine ZB (ev_and1 rfl rfl) ?_
      | ((with_reducible first|apply ZD|apply ZE|apply ZF|apply ZG|apply ZH|apply ZI);rfl;rfl;all_goals (intro hc;first|(exfalso;omega)|skip))|((with_reducible first|apply ZJ|apply ZK);rfl;rfl;all_goals (intro hc;first|contradiction|skip))|((with_reducible first|apply ZL|apply ZM);rfl;rfl;omega;omega)|((with_reducible first|apply ZN|apply ZO);rfl;rfl;omega;omega;intro c hget hc)|((with_reducible apply ZP);rfl;(first|exact .inl rfl|assumption);rfl;rfl;omega;omega;omega;intro s' hs' hl')|((with_reducible apply ZQ);rfl;rfl;rfl;omega;omega;omega;intro s' hs' hl')|((with_reducible apply ZR);rfl)
      | refine GoH ?_|refine ZB rfl ?_|refine ZC rfl ?_
      | (rw [tightI_t (by omega) (by omega) (by assumption)]; exact ⟨_, rfl, rfl⟩)
      | (rw [tightI_f (by omega) (by omega) (by assumption)]; exact ⟨_, rfl, rfl⟩)
  · rw [tightI_no hin]
    unfold c52
    repeat' first | ((with_reducible first|apply ZD|apply ZE|apply ZF|apply ZG|apply ZH|apply ZI);rfl;rfl;all_goals (intro hc;first|(exfalso;omega)|skip))|((with_reducible first|apply ZJ|apply ZK);rfl;rfl;all_goals (intro hc;first|contradiction|skip))|((with_reducible first|apply ZL|apply ZM);rfl;rfl;omega;omega)|((with_reducible first|apply ZN|apply ZO);rfl;rfl;omega;omega;intro c hget hc)|((with_reducible apply ZP);rfl;(first|exact .inl rfl|assumption);rfl;rfl;omega;omega;omega;intro s' hs' hl')|((with_reducible apply ZQ);rfl;rfl;rfl;omega;omega;omega;intro s' hs' hl')|((with_reducible apply ZR);rfl) | refine GoH ?_|refine ZB rfl ?_|refine ZC rfl ?_
    all_goals exact ⟨_, rfl, rfl⟩
theorem pok52 (m : Int) : PureOk Go.Proofs.Tryd.prog (glb m) 33 T51 := .inl (fam_ok (fn52 m) (callOk_nil _ _) w52)
def G69 : List DV → Option DV
  | [.c (.int .i64 g)] => some (.c (.bool (decide (0 < g ∧ g < 10))))
  | _ => none
theorem w69 (ds : List DV) (r : DV) (h : G69 ds = some r) : awp (tbl []) c69 (PureQ [.t 2] r) ⟨argE 0 (dvArgs ds), ⟨0, []⟩⟩ := by
  unfold G69 at h
  split at h
  · cases h
    unfold c69
    repeat' first
      | ((with_reducible first|apply ZD|apply ZE|apply ZF|apply ZG|apply ZH|apply ZI);rfl;rfl;all_goals (intro hc;first|(exfalso;omega)|skip))|((with_reducible first|apply ZJ|apply ZK);rfl;rfl;all_goals (intro hc;first|contradiction|skip))|((with_reducible first|apply ZL|apply ZM);rfl;rfl;omega;omega)|((with_reducible first|apply ZN|apply ZO);rfl;rfl;omega;omega;intro c hget hc)|((with_reducible apply ZP);rfl;(first|exact .inl rfl|assumption);rfl;rfl;omega;omega;omega;intro s' hs' hl')|((with_reducible apply ZQ);rfl;rfl;rfl;omega;omega;omega;intro s' hs' hl')|((with_reducible apply ZR);rfl)
      | refine GoH ?_|refine ZB rfl ?_|refine ZC rfl ?_
      | (rw [decide_eq_true (by omega)]; exact ⟨_, rfl, rfl⟩)
      | (rw [decide_eq_false (by omega)]; exact ⟨_, rfl, rfl⟩)
  · cases h
theorem pok69 (m : Int) : PureOk Go.Proofs.Tryd.prog (glb m) 57 G69 := pure_ok (fn69 m) (callOk_nil _ _) w69
set_option maxHeartbeats 4000000 in
theorem w51 (x : (Nat → Int) × Int × Int) (_ : True) : awp (tbl [(57, G69)]) c51 (PureQ [.t 6] (.c (.bool (tightI x.1 x.2.1 x.2.2)))) ⟨argE 0 (dvArgs [.agg (rowsD x.1), .c (.int .i64 x.2.1), .c (.int .i64 x.2.2)]), ⟨0, []⟩⟩ := by
  obtain ⟨f, g, h⟩ := x
  simp only
  have e69 : ∀ g, G69 [.c (.int .i64 g)] = some (.c (.bool (decide (0 < g ∧ g < 10)))) := fun _ => rfl
  by_cases hin : 0 ≤ g ∧ g < 10 ∧ 0 ≤ h ∧ h < 10
  · obtain ⟨g, rfl⟩ : ∃ k : Nat, g = k := ⟨g.toNat, by omega⟩
    obtain ⟨h, rfl⟩ : ∃ k : Nat, h = k := ⟨h.toNat, by omega⟩
    have hld := rows_ld f (i := g) (by omega)
    unfold c51
    repeat' first
      | refine ZB (ev_arrn (i := g) rfl rfl (by omega)) ?_
      | refine ZB (ev_load rfl look_hd hld) ?_
      | refine ZB (ev_shr (b := h) rfl rfl (by omega)) ?_
      | refine ZB (ev_and1 rfl rfl) ?_
      | ((with_reducible first|apply ZD|apply ZE|apply ZF|apply ZG|apply ZH|apply ZI);rfl;rfl;all_goals (intro hc;first|(exfalso;omega)|skip))|((with_reducible first|apply ZJ|apply ZK);rfl;rfl;all_goals (intro hc;first|contradiction|skip))|((with_reducible first|apply ZL|apply ZM);rfl;rfl;omega;omega)|((with_reducible first|apply ZN|apply ZO);rfl;rfl;omega;omega;intro c hget hc)|((with_reducible apply ZP);rfl;(first|exact .inl rfl|assumption);rfl;rfl;omega;omega;omega;intro s' hs' hl')|((with_reducible apply ZQ);rfl;rfl;rfl;omega;omega;omega;intro s' hs' hl')|((with_reducible apply ZR);rfl)
      | (((with_reducible apply Z1 (f := 57));rfl;rfl;rfl;exact (e69 _);rfl); refine step_bool (fun hb => ?_) (fun hb => ?_) <;> (simp only [decide_eq_true_eq, decide_eq_false_iff_not] at hb; first | (exfalso; omega) | skip))
      | refine GoH ?_|refine ZB rfl ?_|refine ZC rfl ?_
      | (rw [tightI_t (by omega) (by omega) (by assumption)]; exact ⟨_, rfl, rfl⟩)
      | (rw [tightI_f (by omega) (by omega) (by assumption)]; exact ⟨_, rfl, rfl⟩)
  · rw [tightI_no hin]
    unfold c51
    repeat' first
      | ((with_reducible first|apply ZD|apply ZE|apply ZF|apply ZG|apply ZH|apply ZI);rfl;rfl;all_goals (intro hc;first|(exfalso;omega)|skip))|((with_reducible first|apply ZJ|apply ZK);rfl;rfl;all_goals (intro hc;first|contradiction|skip))|((with_reducible first|apply ZL|apply ZM);rfl;rfl;omega;omega)|((with_reducible first|apply ZN|apply ZO);rfl;rfl;omega;omega;intro c hget hc)|((with_reducible apply ZP);rfl;(first|exact .inl rfl|assumption);rfl;rfl;omega;omega;omega;intro s' hs' hl')|((with_reducible apply ZQ);rfl;rfl;rfl;omega;omega;omega;intro s' hs' hl')|((with_reducible apply ZR);rfl)
      | (((with_reducible apply Z1 (f := 57));rfl;rfl;rfl;exact (e69 _);rfl); refine step_bool (fun hb => ?_) (fun hb => ?_) <;> (simp only [decide_eq_true_eq, decide_eq_false_iff_not] at hb; first | (exfalso; omega) | skip))
      | refine GoH ?_|refine ZB rfl ?_|refine ZC rfl ?_
    all_goals exact ⟨_, rfl, rfl⟩
theorem pok51 (m : Int) : PureOk Go.Proofs.Tryd.prog (glb m) 31 T51 := .inl (fam_ok (fn51 m) (callOk_cons (pok69 m) (callOk_nil _ _)) w51)
def liftF (r : Nat → Nat) (x : Nat) : Int := (r x : Int)
def G48 : List DV → Option DV
  | [] => some (.agg (.list 0 [] :: rowsD fun x => (startF x : Int)))
  | _ => none
theorem w48 (ds : List DV) (r : DV) (h : G48 ds = some r) : awp (tbl [(52, G64)]) c48 (PureQ [.cell 0 11 true] r) ⟨argE 0 (dvArgs ds), ⟨0, []⟩⟩ := by
  unfold G48 at h
  split at h
  · cases h
    exact run_pure (n := 20) (by kernel_rfl)
  · cases h
theorem pok48 (m : Int) : PureOk Go.Proofs.Tryd.prog (glb m) 29 G48 := pure_ok (fn48 m) (callOk_cons (pok64 m) (callOk_nil _ _)) w48
def envD (sz : Nat) (l : List Op3) (f : Nat → Int) : List D := .list sz (l.map opD) :: rowsD f
theorem envD_inj {sz sz' : Nat} {l l' : List Op3} {f f' : Nat → Int} (h : envD sz l f = envD sz' l' f') : l = l' ∧ ∀ x, x < 10 → f x = f' x := by
  unfold envD at h
  injection h with h1 h2
  injection h1 with _ h1
  exact ⟨ops_inj h1, rowsD_inj h2⟩
theorem envR_eq {sz : Nat} {l : List Op3} {f f' : Nat → Int} (h : ∀ x, x < 10 → f x = f' x) : envD sz l f = envD sz l f' := by unfold envD; rw [rowsD_eq h]
structure EnvOk (sz : Nat) (l : List Op3) (r : Nat → Nat) : Prop where
  sz : sz = 3 ∨ l = []
  len : l.length ≤ 1000
  lt : ∀ x, r x < 1024
  hi : ∀ x, 10 ≤ x → r x = 0
theorem take_snoc {α : Type} {l : List α} {i : Nat} {x : α} (h : l[i]? = some x) : l.take (i + 1) = l.take i ++ [x] := by
  rw [List.take_add_one, h]
  rfl
theorem ops_at (l : List Op3) {i : Nat} {x : Op3} (h : l[i]? = some x) : (l.map opD)[(i : Int).toNat]? = some (opD x) := by simp [h]
end Go.Am
