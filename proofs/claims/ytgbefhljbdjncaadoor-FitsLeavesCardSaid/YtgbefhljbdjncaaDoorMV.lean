/-
  The reference's changes of an env: Edge, Drop, Add.
-/
import Derived.Test.YtgbefhljbdjncaaDoorMJ
import Derived.Test.YtgbefhljbdjncaaDoorMU
import Derived.Test.YtgbefhljbdjncaaDoorME
namespace Go.Am
open Go
def G64 : List DV → Option DV
  | [] => some (.agg (rowsD fun x => (startF x : Int)))
  | _ => none
theorem w64 (ds : List DV) (r : DV) (h : G64 ds = some r) : awp (tbl []) c64 (PureQ [.cell 0 10 true] r) ⟨argE 0 (dvArgs ds), ⟨0, []⟩⟩ := by
  unfold G64 at h
  split at h
  · cases h
    exact run_pure (n := 100) (by kernel_rfl)
  · cases h
theorem pok64 (m : Int) : PureOk Go.Proofs.Tryd.prog (glb m) 64 G64 := pure_ok (fn64 m) (callOk_nil _ _) w64
def startP (g h x : Nat) : Int := if x < g then (startF x : Int) else if x = g then ((2 ^ h - 2 : Nat) : Int) else 0
def startN (g h x : Nat) : Nat := if x < g then startF x else if x = g then 2 ^ h - 2 else 0
theorem startP_n : ∀ g < 7, ∀ h < 7, ∀ x < 10, startP g h x = (startN g h x : Int) := by decide +kernel
theorem startN_lt : ∀ g < 7, ∀ h < 7, ∀ x < 10, startN g h x < 1024 := by decide +kernel
theorem start_step : ∀ g < 6, ∀ h < 6, 1 ≤ h → ∀ x < 10, setI (startP g h) g ((startN g h g ||| 2 ^ h : Nat) : Int) x = startP g (h + 1) x := by decide +kernel
theorem start_next : ∀ g < 6, 1 ≤ g → ∀ x < 10, startP g g x = startP (g + 1) 1 x := by decide +kernel
theorem start_end : ∀ x < 10, startP 6 1 x = (startF x : Int) := by decide +kernel
theorem start_beg : ∀ x < 10, startP 1 1 x = 0 := by decide +kernel
set_option maxRecDepth 8000 in
theorem w65 (ds : List DV) (r : DV) (h : G64 ds = some r) : awp (tbl []) c65 (PureQ [.cell 0 10 true] r) ⟨argE 0 (dvArgs ds), ⟨0, []⟩⟩ := by
  unfold G64 at h
  split at h
  · cases h
    unfold c65
    repeat' first | (with_reducible first|refine Za ?_|refine Zb ?_|refine Zc ?_|refine Zd ?_|refine Ze ?_|refine Zf ?_|refine Zg ?_|refine Zh ?_|refine Zi ?_|refine Zj ?_|refine Zk ?_|refine Zl ?_|refine Zm ?_|refine Zn ?_|refine Zo ?_|refine Zp ?_|refine Zq ?_|refine Zr ?_|refine Zs ?_|refine Zt ?_|refine Zu ?_)|(with_reducible refine Zv (by decide) ?_)|((with_reducible apply Zw);rfl)|((with_reducible apply Zx);rfl;decide)|((with_reducible apply Zy);rfl)|((with_reducible apply Zz);rfl)|((with_reducible apply ZA);rfl)|refine ZB rfl ?_|refine ZC rfl ?_
    refine awp_loop (fun m st => ∃ g : Nat, 1 ≤ g ∧ g ≤ 6 ∧ 6 - g < m ∧
      st = ⟨[(0, .c (.ptr 0 0)), (1, .c (.ptr 1 0)), (2, .c (.d (.int .i64 (g : Nat))))], ⟨2, [(1, .cells (rowsC (startP g 1))), (0, .cells (rowsC fun _ => 0))]⟩⟩) 7 ?_ (by rintro st ⟨g, h1, h2, h3, _⟩; omega) ?_
    · exact weak_keep [0, 1, 2] rfl ⟨1, by omega, by omega, by omega, by rw [rowsC_eq start_beg]; rfl⟩
    · rintro m K hK st ⟨g, h1, h2, h3, rfl⟩
      by_cases hend : g = 6
      · subst hend
        rw [rowsC_eq start_end]
        repeat' first | ((with_reducible first|apply ZD|apply ZE|apply ZF|apply ZG|apply ZH|apply ZI);rfl;rfl;all_goals (intro hc;first|(exfalso;omega)|skip))|((with_reducible first|apply ZJ|apply ZK);rfl;rfl;all_goals (intro hc;first|contradiction|skip))|((with_reducible first|apply ZL|apply ZM);rfl;rfl;omega;omega)|((with_reducible first|apply ZN|apply ZO);rfl;rfl;omega;omega;intro c hget hc)|((with_reducible apply ZP);rfl;(first|exact .inl rfl|assumption);rfl;rfl;omega;omega;omega;intro s' hs' hl')|((with_reducible apply ZQ);rfl;rfl;rfl;omega;omega;omega;intro s' hs' hl')|((with_reducible apply ZR);rfl) | (with_reducible first|refine Za ?_|refine Zb ?_|refine Zc ?_|refine Zd ?_|refine Ze ?_|refine Zf ?_|refine Zg ?_|refine Zh ?_|refine Zi ?_|refine Zj ?_|refine Zk ?_|refine Zl ?_|refine Zm ?_|refine Zn ?_|refine Zo ?_|refine Zp ?_|refine Zq ?_|refine Zr ?_|refine Zs ?_|refine Zt ?_|refine Zu ?_)|(with_reducible refine Zv (by decide) ?_)|((with_reducible apply Zw);rfl)|((with_reducible apply Zx);rfl;decide)|((with_reducible apply Zy);rfl)|((with_reducible apply Zz);rfl)|((with_reducible apply ZA);rfl)|refine ZB rfl ?_|refine ZC rfl ?_
        exact ⟨_, rfl, rfl⟩
      · repeat' first | ((with_reducible first|apply ZD|apply ZE|apply ZF|apply ZG|apply ZH|apply ZI);rfl;rfl;all_goals (intro hc;first|(exfalso;omega)|skip))|((with_reducible first|apply ZJ|apply ZK);rfl;rfl;all_goals (intro hc;first|contradiction|skip))|((with_reducible first|apply ZL|apply ZM);rfl;rfl;omega;omega)|((with_reducible first|apply ZN|apply ZO);rfl;rfl;omega;omega;intro c hget hc)|((with_reducible apply ZP);rfl;(first|exact .inl rfl|assumption);rfl;rfl;omega;omega;omega;intro s' hs' hl')|((with_reducible apply ZQ);rfl;rfl;rfl;omega;omega;omega;intro s' hs' hl')|((with_reducible apply ZR);rfl) | (with_reducible first|refine Za ?_|refine Zb ?_|refine Zc ?_|refine Zd ?_|refine Ze ?_|refine Zf ?_|refine Zg ?_|refine Zh ?_|refine Zi ?_|refine Zj ?_|refine Zk ?_|refine Zl ?_|refine Zm ?_|refine Zn ?_|refine Zo ?_|refine Zp ?_|refine Zq ?_|refine Zr ?_|refine Zs ?_|refine Zt ?_|refine Zu ?_)|(with_reducible refine Zv (by decide) ?_)|((with_reducible apply Zw);rfl)|((with_reducible apply Zx);rfl;decide)|((with_reducible apply Zy);rfl)|((with_reducible apply Zz);rfl)|((with_reducible apply ZA);rfl)|refine ZB rfl ?_|refine ZC rfl ?_
        refine awp_loop (fun m st => ∃ h : Nat, 1 ≤ h ∧ h ≤ g ∧ g - h < m ∧
          st = ⟨[(0, .c (.ptr 0 0)), (1, .c (.ptr 1 0)), (2, .c (.d (.int .i64 (g : Nat)))), (3, .c (.d (.int .i64 (h : Nat))))], ⟨2, [(1, .cells (rowsC (startP g h))), (0, .cells (rowsC fun _ => 0))]⟩⟩) 7 ?_ (by rintro st ⟨h, h1, h2, h3, _⟩; omega) ?_
        · exact weak_keep [0, 1, 2, 3] rfl ⟨1, by omega, by omega, by omega, rfl⟩
        · rintro m2 K2 hK2 st ⟨h, a1, a2, a3, rfl⟩
          by_cases he : h = g
          · subst he
            repeat' first | ((with_reducible first|apply ZD|apply ZE|apply ZF|apply ZG|apply ZH|apply ZI);rfl;rfl;all_goals (intro hc;first|(exfalso;omega)|skip))|((with_reducible first|apply ZJ|apply ZK);rfl;rfl;all_goals (intro hc;first|contradiction|skip))|((with_reducible first|apply ZL|apply ZM);rfl;rfl;omega;omega)|((with_reducible first|apply ZN|apply ZO);rfl;rfl;omega;omega;intro c hget hc)|((with_reducible apply ZP);rfl;(first|exact .inl rfl|assumption);rfl;rfl;omega;omega;omega;intro s' hs' hl')|((with_reducible apply ZQ);rfl;rfl;rfl;omega;omega;omega;intro s' hs' hl')|((with_reducible apply ZR);rfl) | (with_reducible first|refine Za ?_|refine Zb ?_|refine Zc ?_|refine Zd ?_|refine Ze ?_|refine Zf ?_|refine Zg ?_|refine Zh ?_|refine Zi ?_|refine Zj ?_|refine Zk ?_|refine Zl ?_|refine Zm ?_|refine Zn ?_|refine Zo ?_|refine Zp ?_|refine Zq ?_|refine Zr ?_|refine Zs ?_|refine Zt ?_|refine Zu ?_)|(with_reducible refine Zv (by decide) ?_)|((with_reducible apply Zw);rfl)|((with_reducible apply Zx);rfl;decide)|((with_reducible apply Zy);rfl)|((with_reducible apply Zz);rfl)|((with_reducible apply ZA);rfl)|refine ZB rfl ?_|refine ZC rfl ?_
            exact hK _ (weak_keep [0, 1, 2] rfl ⟨h + 1, by omega, by omega, by omega, by rw [rowsC_eq (start_next h (by omega) h1)]; rfl⟩)
          · have hn := startP_n g (by omega) h (by omega) g (by omega)
            have hlt := startN_lt g (by omega) h (by omega) g (by omega)
            have hld := rows_ld (startP g h) (i := g) (by omega)
            rw [hn] at hld
            repeat' first
              | ((with_reducible first|apply ZD|apply ZE|apply ZF|apply ZG|apply ZH|apply ZI);rfl;rfl;all_goals (intro hc;first|(exfalso;omega)|skip))|((with_reducible first|apply ZJ|apply ZK);rfl;rfl;all_goals (intro hc;first|contradiction|skip))|((with_reducible first|apply ZL|apply ZM);rfl;rfl;omega;omega)|((with_reducible first|apply ZN|apply ZO);rfl;rfl;omega;omega;intro c hget hc)|((with_reducible apply ZP);rfl;(first|exact .inl rfl|assumption);rfl;rfl;omega;omega;omega;intro s' hs' hl')|((with_reducible apply ZQ);rfl;rfl;rfl;omega;omega;omega;intro s' hs' hl')|((with_reducible apply ZR);rfl)
              | (with_reducible first|refine Za ?_|refine Zb ?_|refine Zc ?_|refine Zd ?_|refine Ze ?_|refine Zf ?_|refine Zg ?_|refine Zh ?_|refine Zi ?_|refine Zj ?_|refine Zk ?_|refine Zl ?_|refine Zm ?_|refine Zn ?_|refine Zo ?_|refine Zp ?_|refine Zq ?_|refine Zr ?_|refine Zs ?_|refine Zt ?_|refine Zu ?_)|(with_reducible refine Zv (by decide) ?_)|((with_reducible apply Zw);rfl)|((with_reducible apply Zx);rfl;decide)|((with_reducible apply Zy);rfl)|((with_reducible apply Zz);rfl)|((with_reducible apply ZA);rfl)|refine ZB rfl ?_|refine ZC rfl ?_
              | with_reducible refine ZS ?_
              | refine ZX rfl (ev_arrn (i := g) rfl rfl (by omega)) ?_
              | refine ZY (ev_load rfl look_hd hld) (by (repeat' first|exact True.intro|refine ⟨?_, ?_⟩|exact .inl rfl|exact .inr (.inl rfl)|exact .inr (.inr rfl)|rfl)) ?_
              | refine ZX rfl (ev_shl1 (b := h) rfl rfl (by omega)) ?_
              | refine ZX rfl (ev_or rfl rfl hlt (Nat.pow_lt_pow_right (n := 10) (by omega) (by omega))) ?_
              | refine ZZ (Z0 (ev_store rfl rfl rfl look_hd (rows_set _ _ (by omega)) put_hd) ⟨rfl, rfl⟩) (by (repeat' first|exact True.intro|refine ⟨?_, ?_⟩|exact .inl rfl|exact .inr (.inl rfl)|exact .inr (.inr rfl)|rfl)) ?_
              | (with_reducible first|refine ZS ?_|refine ZT ?_)|((with_reducible apply ZU);rfl)|((with_reducible apply ZV);rfl;decide)|((with_reducible apply ZW);rfl)|refine ZX rfl rfl ?_|refine ZY rfl (by (repeat' first|exact True.intro|refine ⟨?_, ?_⟩|exact .inl rfl|exact .inr (.inl rfl)|exact .inr (.inr rfl)|rfl)) ?_
            exact hK2 _ (weak_keep [0, 1, 2, 3] rfl ⟨h + 1, by omega, by omega, by omega, by rw [rowsC_eq (start_step g (by omega) h (by omega) a1)]; rfl⟩)
  · cases h
theorem pok65 (m : Int) : PureOk Go.Proofs.Tryd.prog (glb m) 65 G64 := pure_ok (fn65 m) (callOk_nil _ _) w65

def tightI (f : Nat → Int) (g h : Int) : Bool := decide (0 ≤ g ∧ g < 10 ∧ 0 ≤ h ∧ h < 10) && bitI (f g.toNat) h.toNat
noncomputable def T51 : List DV → Option DV := fam (fun x : (Nat → Int) × Int × Int => [.agg (rowsD x.1), .c (.int .i64 x.2.1), .c (.int .i64 x.2.2)]) (fun _ => True) (fun x => .c (.bool (tightI x.1 x.2.1 x.2.2)))
theorem T51_eq (f : Nat → Int) (g h : Int) : T51 [.agg (rowsD f), .c (.int .i64 g), .c (.int .i64 h)] = some (.c (.bool (tightI f g h))) := by
  refine fam_eq (ι := (Nat → Int) × Int × Int) (f, g, h) trivial ?_
  rintro ⟨f', g', h'⟩ _ he
  simp only [List.cons.injEq, DV.agg.injEq, DV.c.injEq, D.int.injEq, true_and, and_true] at he
  obtain ⟨h1, rfl, rfl⟩ := he
  have h2 := rowsD_inj h1
  simp only [tightI]
  by_cases hg : 0 ≤ g' ∧ g' < 10 ∧ 0 ≤ h' ∧ h' < 10
  · rw [h2 g'.toNat (by omega)]
  · rw [decide_eq_false hg]; rfl
theorem tightI_no {f : Nat → Int} {g h : Int} (hn : ¬ (0 ≤ g ∧ g < 10 ∧ 0 ≤ h ∧ h < 10)) : tightI f g h = false := by unfold tightI; rw [decide_eq_false hn]; rfl
theorem tightI_at {f : Nat → Int} {g h : Nat} (hg : g < 10) (hh : h < 10) : tightI f g h = bitI (f g) h := by
  unfold tightI
  rw [decide_eq_true (by omega)]
  simp
theorem tightI_t {f : Nat → Int} {g h : Nat} (hg : g < 10) (hh : h < 10) (hb : (f g).fdiv (2 ^ h) % 2 = 1) : tightI f g h = true := by rw [tightI_at hg hh]; unfold bitI; exact decide_eq_true hb
theorem tightI_f {f : Nat → Int} {g h : Nat} (hg : g < 10) (hh : h < 10) (hb : (f g).fdiv (2 ^ h) % 2 ≠ 1) : tightI f g h = false := by rw [tightI_at hg hh]; unfold bitI; exact decide_eq_false hb
theorem w52 (x : (Nat → Int) × Int × Int) (_ : True) : awp (tbl []) c52 (PureQ [.t 6] (.c (.bool (tightI x.1 x.2.1 x.2.2)))) ⟨argE 0 (dvArgs [.agg (rowsD x.1), .c (.int .i64 x.2.1), .c (.int .i64 x.2.2)]), ⟨0, []⟩⟩ := by
  obtain ⟨f, g, h⟩ := x
  simp only
  by_cases hin : 0 ≤ g ∧ g < 10 ∧ 0 ≤ h ∧ h < 10
  · obtain ⟨g, rfl⟩ : ∃ k : Nat, g = k := ⟨g.toNat, by omega⟩
    obtain ⟨h, rfl⟩ : ∃ k : Nat, h = k := ⟨h.toNat, by omega⟩
    have hld := rows_ld f (i := g) (by omega)
    unfold c52
    repeat' first
      | refine ZB (ev_arrn (i := g) rfl rfl (by omega)) ?_
      | refine ZB (ev_load rfl look_hd hld) ?_
      | refine ZB (ev_shr (b := h) rfl rfl (by omega)) ?_
      | refine ZB (ev_and1 rfl rfl) ?_
      | ((with_reducible first|apply ZD|apply ZE|apply ZF|apply ZG|apply ZH|apply ZI);rfl;rfl;all_goals (intro hc;first|(exfalso;omega)|skip))|((with_reducible first|apply ZJ|apply ZK);rfl;rfl;all_goals (intro hc;first|contradiction|skip))|((with_reducible first|apply ZL|apply ZM);rfl;rfl;omega;omega)|((with_reducible first|apply ZN|apply ZO);rfl;rfl;omega;omega;intro c hget hc)|((with_reducible apply ZP);rfl;(first|exact .inl rfl|assumption);rfl;rfl;omega;omega;omega;intro s' hs' hl')|((with_reducible apply ZQ);rfl;rfl;rfl;omega;omega;omega;intro s' hs' hl')|((with_reducible apply ZR);rfl)
      | (with_reducible first|refine Za ?_|refine Zb ?_|refine Zc ?_|refine Zd ?_|refine Ze ?_|refine Zf ?_|refine Zg ?_|refine Zh ?_|refine Zi ?_|refine Zj ?_|refine Zk ?_|refine Zl ?_|refine Zm ?_|refine Zn ?_|refine Zo ?_|refine Zp ?_|refine Zq ?_|refine Zr ?_|refine Zs ?_|refine Zt ?_|refine Zu ?_)|(with_reducible refine Zv (by decide) ?_)|((with_reducible apply Zw);rfl)|((with_reducible apply Zx);rfl;decide)|((with_reducible apply Zy);rfl)|((with_reducible apply Zz);rfl)|((with_reducible apply ZA);rfl)|refine ZB rfl ?_|refine ZC rfl ?_
      | (rw [tightI_t (by omega) (by omega) (by assumption)]; exact ⟨_, rfl, rfl⟩)
      | (rw [tightI_f (by omega) (by omega) (by assumption)]; exact ⟨_, rfl, rfl⟩)
  · rw [tightI_no hin]
    unfold c52
    repeat' first | ((with_reducible first|apply ZD|apply ZE|apply ZF|apply ZG|apply ZH|apply ZI);rfl;rfl;all_goals (intro hc;first|(exfalso;omega)|skip))|((with_reducible first|apply ZJ|apply ZK);rfl;rfl;all_goals (intro hc;first|contradiction|skip))|((with_reducible first|apply ZL|apply ZM);rfl;rfl;omega;omega)|((with_reducible first|apply ZN|apply ZO);rfl;rfl;omega;omega;intro c hget hc)|((with_reducible apply ZP);rfl;(first|exact .inl rfl|assumption);rfl;rfl;omega;omega;omega;intro s' hs' hl')|((with_reducible apply ZQ);rfl;rfl;rfl;omega;omega;omega;intro s' hs' hl')|((with_reducible apply ZR);rfl) | (with_reducible first|refine Za ?_|refine Zb ?_|refine Zc ?_|refine Zd ?_|refine Ze ?_|refine Zf ?_|refine Zg ?_|refine Zh ?_|refine Zi ?_|refine Zj ?_|refine Zk ?_|refine Zl ?_|refine Zm ?_|refine Zn ?_|refine Zo ?_|refine Zp ?_|refine Zq ?_|refine Zr ?_|refine Zs ?_|refine Zt ?_|refine Zu ?_)|(with_reducible refine Zv (by decide) ?_)|((with_reducible apply Zw);rfl)|((with_reducible apply Zx);rfl;decide)|((with_reducible apply Zy);rfl)|((with_reducible apply Zz);rfl)|((with_reducible apply ZA);rfl)|refine ZB rfl ?_|refine ZC rfl ?_
    all_goals exact ⟨_, rfl, rfl⟩
theorem pok52 (m : Int) : PureOk Go.Proofs.Tryd.prog (glb m) 52 T51 := .inl (fam_ok (fn52 m) (callOk_nil _ _) w52)
def G69 : List DV → Option DV
  | [.c (.int .i64 g)] => some (.c (.bool (decide (0 < g ∧ g < 10))))
  | _ => none
theorem w69 (ds : List DV) (r : DV) (h : G69 ds = some r) : awp (tbl []) c69 (PureQ [.t 2] r) ⟨argE 0 (dvArgs ds), ⟨0, []⟩⟩ := by
  unfold G69 at h
  split at h
  · cases h
    unfold c69
    repeat' first
      | ((with_reducible first|apply ZD|apply ZE|apply ZF|apply ZG|apply ZH|apply ZI);rfl;rfl;all_goals (intro hc;first|(exfalso;omega)|skip))|((with_reducible first|apply ZJ|apply ZK);rfl;rfl;all_goals (intro hc;first|contradiction|skip))|((with_reducible first|apply ZL|apply ZM);rfl;rfl;omega;omega)|((with_reducible first|apply ZN|apply ZO);rfl;rfl;omega;omega;intro c hget hc)|((with_reducible apply ZP);rfl;(first|exact .inl rfl|assumption);rfl;rfl;omega;omega;omega;intro s' hs' hl')|((with_reducible apply ZQ);rfl;rfl;rfl;omega;omega;omega;intro s' hs' hl')|((with_reducible apply ZR);rfl)
      | (with_reducible first|refine Za ?_|refine Zb ?_|refine Zc ?_|refine Zd ?_|refine Ze ?_|refine Zf ?_|refine Zg ?_|refine Zh ?_|refine Zi ?_|refine Zj ?_|refine Zk ?_|refine Zl ?_|refine Zm ?_|refine Zn ?_|refine Zo ?_|refine Zp ?_|refine Zq ?_|refine Zr ?_|refine Zs ?_|refine Zt ?_|refine Zu ?_)|(with_reducible refine Zv (by decide) ?_)|((with_reducible apply Zw);rfl)|((with_reducible apply Zx);rfl;decide)|((with_reducible apply Zy);rfl)|((with_reducible apply Zz);rfl)|((with_reducible apply ZA);rfl)|refine ZB rfl ?_|refine ZC rfl ?_
      | (rw [decide_eq_true (by omega)]; exact ⟨_, rfl, rfl⟩)
      | (rw [decide_eq_false (by omega)]; exact ⟨_, rfl, rfl⟩)
  · cases h
theorem pok69 (m : Int) : PureOk Go.Proofs.Tryd.prog (glb m) 69 G69 := pure_ok (fn69 m) (callOk_nil _ _) w69
set_option maxHeartbeats 4000000 in
theorem w51 (x : (Nat → Int) × Int × Int) (_ : True) : awp (tbl [(69, G69)]) c51 (PureQ [.t 6] (.c (.bool (tightI x.1 x.2.1 x.2.2)))) ⟨argE 0 (dvArgs [.agg (rowsD x.1), .c (.int .i64 x.2.1), .c (.int .i64 x.2.2)]), ⟨0, []⟩⟩ := by
  obtain ⟨f, g, h⟩ := x
  simp only
  have e69 : ∀ g, G69 [.c (.int .i64 g)] = some (.c (.bool (decide (0 < g ∧ g < 10)))) := fun _ => rfl
  by_cases hin : 0 ≤ g ∧ g < 10 ∧ 0 ≤ h ∧ h < 10
  · obtain ⟨g, rfl⟩ : ∃ k : Nat, g = k := ⟨g.toNat, by omega⟩
    obtain ⟨h, rfl⟩ : ∃ k : Nat, h = k := ⟨h.toNat, by omega⟩
    have hld := rows_ld f (i := g) (by omega)
    unfold c51
    repeat' first
      | refine ZB (ev_arrn (i := g) rfl rfl (by omega)) ?_
      | refine ZB (ev_load rfl look_hd hld) ?_
      | refine ZB (ev_shr (b := h) rfl rfl (by omega)) ?_
      | refine ZB (ev_and1 rfl rfl) ?_
      | ((with_reducible first|apply ZD|apply ZE|apply ZF|apply ZG|apply ZH|apply ZI);rfl;rfl;all_goals (intro hc;first|(exfalso;omega)|skip))|((with_reducible first|apply ZJ|apply ZK);rfl;rfl;all_goals (intro hc;first|contradiction|skip))|((with_reducible first|apply ZL|apply ZM);rfl;rfl;omega;omega)|((with_reducible first|apply ZN|apply ZO);rfl;rfl;omega;omega;intro c hget hc)|((with_reducible apply ZP);rfl;(first|exact .inl rfl|assumption);rfl;rfl;omega;omega;omega;intro s' hs' hl')|((with_reducible apply ZQ);rfl;rfl;rfl;omega;omega;omega;intro s' hs' hl')|((with_reducible apply ZR);rfl)
      | (((with_reducible apply Z1 (f := 69));rfl;rfl;rfl;exact (e69 _);rfl); refine step_bool (fun hb => ?_) (fun hb => ?_) <;> (simp only [decide_eq_true_eq, decide_eq_false_iff_not] at hb; first | (exfalso; omega) | skip))
      | (with_reducible first|refine Za ?_|refine Zb ?_|refine Zc ?_|refine Zd ?_|refine Ze ?_|refine Zf ?_|refine Zg ?_|refine Zh ?_|refine Zi ?_|refine Zj ?_|refine Zk ?_|refine Zl ?_|refine Zm ?_|refine Zn ?_|refine Zo ?_|refine Zp ?_|refine Zq ?_|refine Zr ?_|refine Zs ?_|refine Zt ?_|refine Zu ?_)|(with_reducible refine Zv (by decide) ?_)|((with_reducible apply Zw);rfl)|((with_reducible apply Zx);rfl;decide)|((with_reducible apply Zy);rfl)|((with_reducible apply Zz);rfl)|((with_reducible apply ZA);rfl)|refine ZB rfl ?_|refine ZC rfl ?_
      | (rw [tightI_t (by omega) (by omega) (by assumption)]; exact ⟨_, rfl, rfl⟩)
      | (rw [tightI_f (by omega) (by omega) (by assumption)]; exact ⟨_, rfl, rfl⟩)
  · rw [tightI_no hin]
    unfold c51
    repeat' first
      | ((with_reducible first|apply ZD|apply ZE|apply ZF|apply ZG|apply ZH|apply ZI);rfl;rfl;all_goals (intro hc;first|(exfalso;omega)|skip))|((with_reducible first|apply ZJ|apply ZK);rfl;rfl;all_goals (intro hc;first|contradiction|skip))|((with_reducible first|apply ZL|apply ZM);rfl;rfl;omega;omega)|((with_reducible first|apply ZN|apply ZO);rfl;rfl;omega;omega;intro c hget hc)|((with_reducible apply ZP);rfl;(first|exact .inl rfl|assumption);rfl;rfl;omega;omega;omega;intro s' hs' hl')|((with_reducible apply ZQ);rfl;rfl;rfl;omega;omega;omega;intro s' hs' hl')|((with_reducible apply ZR);rfl)
      | (((with_reducible apply Z1 (f := 69));rfl;rfl;rfl;exact (e69 _);rfl); refine step_bool (fun hb => ?_) (fun hb => ?_) <;> (simp only [decide_eq_true_eq, decide_eq_false_iff_not] at hb; first | (exfalso; omega) | skip))
      | (with_reducible first|refine Za ?_|refine Zb ?_|refine Zc ?_|refine Zd ?_|refine Ze ?_|refine Zf ?_|refine Zg ?_|refine Zh ?_|refine Zi ?_|refine Zj ?_|refine Zk ?_|refine Zl ?_|refine Zm ?_|refine Zn ?_|refine Zo ?_|refine Zp ?_|refine Zq ?_|refine Zr ?_|refine Zs ?_|refine Zt ?_|refine Zu ?_)|(with_reducible refine Zv (by decide) ?_)|((with_reducible apply Zw);rfl)|((with_reducible apply Zx);rfl;decide)|((with_reducible apply Zy);rfl)|((with_reducible apply Zz);rfl)|((with_reducible apply ZA);rfl)|refine ZB rfl ?_|refine ZC rfl ?_
    all_goals exact ⟨_, rfl, rfl⟩
theorem pok51 (m : Int) : PureOk Go.Proofs.Tryd.prog (glb m) 51 T51 := .inl (fam_ok (fn51 m) (callOk_cons (pok69 m) (callOk_nil _ _)) w51)

/-! ### the reference's Edge -/
def liftF (r : Nat → Nat) (x : Nat) : Int := (r x : Int)
def zeroR : List D := [.int .i64 0, .int .i64 0, .int .i64 0, .int .i64 0, .int .i64 0, .int .i64 0, .int .i64 0, .int .i64 0, .int .i64 0, .int .i64 0]
def edgeE (r : Nat → Nat) (g h : Int) : Option Nat := if g < 1 ∨ 9 < g ∨ h < 1 ∨ 9 < h then some 21 else if g = h ∨ (r h.toNat).testBit g.toNat = true then some 25 else none
def edgeDV (r : Nat → Nat) (g h : Int) : DV := match edgeE r g h with
  | some e => .tup [.agg zeroR, .c (.int .i64 (e : Nat))]
  | none => .tup [.agg (rowsD (liftF (edgeF r g.toNat h.toNat))), .c (.int .i64 0)]
noncomputable def T85 : List DV → Option DV := fam (fun x : (Nat → Nat) × Int × Int => [.agg (rowsD (liftF x.1)), .c (.int .i64 x.2.1), .c (.int .i64 x.2.2)]) (fun x => ∀ y, x.1 y < 1024) (fun x => edgeDV x.1 x.2.1 x.2.2)
theorem liftF_inj {r r' : Nat → Nat} (h : rowsD (liftF r) = rowsD (liftF r')) : ∀ x, x < 10 → r x = r' x := fun x hx => by
  have := rowsD_inj h x hx
  unfold liftF at this
  omega
theorem edgeE_eq {r r' : Nat → Nat} {g h : Int} (h2 : ∀ x, x < 10 → r' x = r x) : edgeE r' g h = edgeE r g h := by
  unfold edgeE
  by_cases hb : g < 1 ∨ 9 < g ∨ h < 1 ∨ 9 < h
  · rw [if_pos hb, if_pos hb]
  · have e : r' h.toNat = r h.toNat := h2 _ (by omega)
    rw [if_neg hb, if_neg hb]
    simp only [e]
theorem edgeE_in {r : Nat → Nat} {g h : Int} (h1 : edgeE r g h = none) : 1 ≤ g ∧ g ≤ 9 ∧ 1 ≤ h ∧ h ≤ 9 ∧ g ≠ h ∧ (r h.toNat).testBit g.toNat = false := by
  unfold edgeE at h1
  split at h1
  · cases h1
  · split at h1
    · cases h1
    · rename_i h2 h3
      refine ⟨by omega, by omega, by omega, by omega, fun h => h3 (.inl h), ?_⟩
      rw [Bool.eq_false_iff]
      exact fun h => h3 (.inr h)
theorem T85_eq {r : Nat → Nat} (hr : ∀ y, r y < 1024) (g h : Int) : T85 [.agg (rowsD (liftF r)), .c (.int .i64 g), .c (.int .i64 h)] = some (edgeDV r g h) := by
  refine fam_eq (ι := (Nat → Nat) × Int × Int) (r, g, h) hr ?_
  rintro ⟨r', g', h'⟩ _ he
  simp only [List.cons.injEq, DV.agg.injEq, DV.c.injEq, D.int.injEq, true_and, and_true] at he
  obtain ⟨h1, rfl, rfl⟩ := he
  have h2 := liftF_inj h1
  simp only [edgeDV, edgeE_eq h2]
  cases hE : edgeE r g' h' with
  | some e => rfl
  | none =>
    have hi := edgeE_in hE
    have : rowsD (liftF (edgeF r' g'.toNat h'.toNat)) = rowsD (liftF (edgeF r g'.toNat h'.toNat)) := rowsD_eq fun x hx => by
      unfold liftF edgeF
      rw [h2 x hx, h2 h'.toNat (by omega)]
    simp only [this]
theorem tightI_lift {r : Nat → Nat} {g h : Nat} (hg : g < 10) (hh : h < 10) : tightI (liftF r) g h = (r g).testBit h := by rw [tightI_at hg hh]; exact bitI_nat _ _
def edgeP (r : Nat → Nat) (g h k x : Nat) : Int := if x < k then (edgeF r g h x : Int) else (r x : Int)
set_option maxRecDepth 8000 in
set_option maxHeartbeats 2000000 in
theorem w85 (x : (Nat → Nat) × Int × Int) (hx : ∀ y, x.1 y < 1024) : awp (tbl [(52, T51)]) c85 (PureQ [.cell 6 10 true, .t 7] (edgeDV x.1 x.2.1 x.2.2)) ⟨argE 0 (dvArgs [.agg (rowsD (liftF x.1)), .c (.int .i64 x.2.1), .c (.int .i64 x.2.2)]), ⟨0, []⟩⟩ := by
  obtain ⟨r, g, h⟩ := x
  simp only at hx ⊢
  by_cases hb : g < 1 ∨ 9 < g ∨ h < 1 ∨ 9 < h
  · have e : edgeDV r g h = .tup [.agg zeroR, .c (.int .i64 21)] := by unfold edgeDV edgeE; rw [if_pos hb]; rfl
    rw [e]
    unfold c85
    repeat' first | ((with_reducible first|apply ZD|apply ZE|apply ZF|apply ZG|apply ZH|apply ZI);rfl;rfl;all_goals (intro hc;first|(exfalso;omega)|skip))|((with_reducible first|apply ZJ|apply ZK);rfl;rfl;all_goals (intro hc;first|contradiction|skip))|((with_reducible first|apply ZL|apply ZM);rfl;rfl;omega;omega)|((with_reducible first|apply ZN|apply ZO);rfl;rfl;omega;omega;intro c hget hc)|((with_reducible apply ZP);rfl;(first|exact .inl rfl|assumption);rfl;rfl;omega;omega;omega;intro s' hs' hl')|((with_reducible apply ZQ);rfl;rfl;rfl;omega;omega;omega;intro s' hs' hl')|((with_reducible apply ZR);rfl) | (with_reducible first|refine Za ?_|refine Zb ?_|refine Zc ?_|refine Zd ?_|refine Ze ?_|refine Zf ?_|refine Zg ?_|refine Zh ?_|refine Zi ?_|refine Zj ?_|refine Zk ?_|refine Zl ?_|refine Zm ?_|refine Zn ?_|refine Zo ?_|refine Zp ?_|refine Zq ?_|refine Zr ?_|refine Zs ?_|refine Zt ?_|refine Zu ?_)|(with_reducible refine Zv (by decide) ?_)|((with_reducible apply Zw);rfl)|((with_reducible apply Zx);rfl;decide)|((with_reducible apply Zy);rfl)|((with_reducible apply Zz);rfl)|((with_reducible apply ZA);rfl)|refine ZB rfl ?_|refine ZC rfl ?_
    all_goals exact ⟨_, rfl, rfl⟩
  · obtain ⟨g, rfl⟩ : ∃ k : Nat, g = k := ⟨g.toNat, by omega⟩
    obtain ⟨h, rfl⟩ : ∃ k : Nat, h = k := ⟨h.toNat, by omega⟩
    have ht : ∀ a b : Nat, a < 10 → b < 10 → T51 [.agg (rowsD (liftF r)), .c (.int .i64 (a : Nat)), .c (.int .i64 (b : Nat))] = some (.c (.bool ((r a).testBit b))) := fun a b ha hb => by rw [T51_eq, tightI_lift ha hb]
    by_cases hc : (g : Int) = h ∨ (r h).testBit g = true
    · have e : edgeDV r g h = .tup [.agg zeroR, .c (.int .i64 25)] := by unfold edgeDV edgeE; rw [if_neg hb, if_pos (by simpa using hc)]; rfl
      rw [e]
      have h1 := ht h g (by omega) (by omega)
      have hbit : ¬ (g : Int) = h → (r h).testBit g = true := fun hn => hc.resolve_left hn
      unfold c85
      repeat' first
        | ((with_reducible first|apply ZD|apply ZE|apply ZF|apply ZG|apply ZH|apply ZI);rfl;rfl;all_goals (intro hc;first|(exfalso;omega)|skip))|((with_reducible first|apply ZJ|apply ZK);rfl;rfl;all_goals (intro hc;first|contradiction|skip))|((with_reducible first|apply ZL|apply ZM);rfl;rfl;omega;omega)|((with_reducible first|apply ZN|apply ZO);rfl;rfl;omega;omega;intro c hget hc)|((with_reducible apply ZP);rfl;(first|exact .inl rfl|assumption);rfl;rfl;omega;omega;omega;intro s' hs' hl')|((with_reducible apply ZQ);rfl;rfl;rfl;omega;omega;omega;intro s' hs' hl')|((with_reducible apply ZR);rfl)
        | (rw [hbit (by assumption)] at h1; ((with_reducible apply Z1 (f := 52));rfl;rfl;rfl;exact h1;rfl))
        | (with_reducible first|refine Za ?_|refine Zb ?_|refine Zc ?_|refine Zd ?_|refine Ze ?_|refine Zf ?_|refine Zg ?_|refine Zh ?_|refine Zi ?_|refine Zj ?_|refine Zk ?_|refine Zl ?_|refine Zm ?_|refine Zn ?_|refine Zo ?_|refine Zp ?_|refine Zq ?_|refine Zr ?_|refine Zs ?_|refine Zt ?_|refine Zu ?_)|(with_reducible refine Zv (by decide) ?_)|((with_reducible apply Zw);rfl)|((with_reducible apply Zx);rfl;decide)|((with_reducible apply Zy);rfl)|((with_reducible apply Zz);rfl)|((with_reducible apply ZA);rfl)|refine ZB rfl ?_|refine ZC rfl ?_
      all_goals exact ⟨_, rfl, rfl⟩
    · have e : edgeDV r g h = .tup [.agg (rowsD (liftF (edgeF r g h))), .c (.int .i64 0)] := by unfold edgeDV edgeE; rw [if_neg hb, if_neg (by simpa using hc)]; rfl
      rw [e]
      have h1 := ht h g (by omega) (by omega)
      have hne : ¬ (g : Int) = h := fun h => hc (.inl h)
      rw [show (r h).testBit g = false by simpa using fun h => hc (.inr h)] at h1
      have hh := hx h
      unfold c85
      repeat' first
        | ((with_reducible first|apply ZD|apply ZE|apply ZF|apply ZG|apply ZH|apply ZI);rfl;rfl;all_goals (intro hc;first|(exfalso;omega)|skip))|((with_reducible first|apply ZJ|apply ZK);rfl;rfl;all_goals (intro hc;first|contradiction|skip))|((with_reducible first|apply ZL|apply ZM);rfl;rfl;omega;omega)|((with_reducible first|apply ZN|apply ZO);rfl;rfl;omega;omega;intro c hget hc)|((with_reducible apply ZP);rfl;(first|exact .inl rfl|assumption);rfl;rfl;omega;omega;omega;intro s' hs' hl')|((with_reducible apply ZQ);rfl;rfl;rfl;omega;omega;omega;intro s' hs' hl')|((with_reducible apply ZR);rfl)
        | ((with_reducible apply Z1 (f := 52));rfl;rfl;rfl;exact h1;rfl)
        | (with_reducible first|refine Za ?_|refine Zb ?_|refine Zc ?_|refine Zd ?_|refine Ze ?_|refine Zf ?_|refine Zg ?_|refine Zh ?_|refine Zi ?_|refine Zj ?_|refine Zk ?_|refine Zl ?_|refine Zm ?_|refine Zn ?_|refine Zo ?_|refine Zp ?_|refine Zq ?_|refine Zr ?_|refine Zs ?_|refine Zt ?_|refine Zu ?_)|(with_reducible refine Zv (by decide) ?_)|((with_reducible apply Zw);rfl)|((with_reducible apply Zx);rfl;decide)|((with_reducible apply Zy);rfl)|((with_reducible apply Zz);rfl)|((with_reducible apply ZA);rfl)|refine ZB rfl ?_|refine ZC rfl ?_
      refine awp_loop (fun m st => ∃ k : Nat, k ≤ 10 ∧ 10 - k < m ∧
        st = ⟨[(1, .c (.d (.int .i64 (g : Nat)))), (2, .c (.d (.int .i64 (h : Nat)))), (3, .c (.ptr 0 0)), (6, .c (.ptr 1 0)), (8, .c (.ptr 2 0)), (9, .c (.d (.int .i64 (k : Nat))))], ⟨3, [(2, .cells (rowsC (edgeP r g h k))), (1, .cells (rowsC fun _ => 0)), (0, .cells (rowsC (liftF r)))]⟩⟩) 11 ?_ (by rintro st ⟨k, h1, h2, _⟩; omega) ?_
      · exact weak_keep [1, 2, 3, 6, 8, 9] rfl ⟨0, by omega, by omega, by rw [rowsC_eq (f := edgeP r g h 0) (f' := liftF r) (fun x _ => by unfold edgeP; rw [if_neg (by omega)]; rfl)]; rfl⟩
      · rintro m K hK st ⟨k, hk1, hk2, rfl⟩
        by_cases hend : k = 10
        · subst hend
          rw [rowsC_eq (f := edgeP r g h 10) (f' := liftF (edgeF r g h)) (fun x hx => by unfold edgeP; rw [if_pos hx]; rfl)]
          repeat' first | ((with_reducible first|apply ZD|apply ZE|apply ZF|apply ZG|apply ZH|apply ZI);rfl;rfl;all_goals (intro hc;first|(exfalso;omega)|skip))|((with_reducible first|apply ZJ|apply ZK);rfl;rfl;all_goals (intro hc;first|contradiction|skip))|((with_reducible first|apply ZL|apply ZM);rfl;rfl;omega;omega)|((with_reducible first|apply ZN|apply ZO);rfl;rfl;omega;omega;intro c hget hc)|((with_reducible apply ZP);rfl;(first|exact .inl rfl|assumption);rfl;rfl;omega;omega;omega;intro s' hs' hl')|((with_reducible apply ZQ);rfl;rfl;rfl;omega;omega;omega;intro s' hs' hl')|((with_reducible apply ZR);rfl) | (with_reducible first|refine Za ?_|refine Zb ?_|refine Zc ?_|refine Zd ?_|refine Ze ?_|refine Zf ?_|refine Zg ?_|refine Zh ?_|refine Zi ?_|refine Zj ?_|refine Zk ?_|refine Zl ?_|refine Zm ?_|refine Zn ?_|refine Zo ?_|refine Zp ?_|refine Zq ?_|refine Zr ?_|refine Zs ?_|refine Zt ?_|refine Zu ?_)|(with_reducible refine Zv (by decide) ?_)|((with_reducible apply Zw);rfl)|((with_reducible apply Zx);rfl;decide)|((with_reducible apply Zy);rfl)|((with_reducible apply Zz);rfl)|((with_reducible apply ZA);rfl)|refine ZB rfl ?_|refine ZC rfl ?_
          exact ⟨_, rfl, rfl⟩
        · have h2 := ht k g (by omega) (by omega)
          have hk := hx k
          have hl1 := rows_ld (liftF r) (i := k) (by omega)
          have hl2 := rows_ld (liftF r) (i := h) (by omega)
          have hor : r k ||| r h < 1024 := Nat.or_lt_two_pow (n := 10) hk hh
          have hset : ∀ v : Nat, (edgeF r g h k = v) → rowsC (setI (edgeP r g h k) k (v : Int)) = rowsC (edgeP r g h (k + 1)) := fun v hv => rowsC_eq fun x hx => by
            unfold setI edgeP
            by_cases hxk : x = k
            · subst hxk; rw [if_pos rfl, if_pos (by omega), hv]
            · rw [if_neg hxk]
              by_cases hlt : x < k
              · rw [if_pos hlt, if_pos (by omega)]
              · rw [if_neg hlt, if_neg (by omega)]
          have hskip : edgeF r g h k = r k → rowsC (edgeP r g h k) = rowsC (edgeP r g h (k + 1)) := fun hv => rowsC_eq fun x hx => by
            unfold edgeP
            by_cases hxk : x = k
            · subst hxk; rw [if_neg (by omega), if_pos (by omega), hv]
            · by_cases hlt : x < k
              · rw [if_pos hlt, if_pos (by omega)]
              · rw [if_neg hlt, if_neg (by omega)]
          repeat' first
            | ((with_reducible first|apply ZD|apply ZE|apply ZF|apply ZG|apply ZH|apply ZI);rfl;rfl;all_goals (intro hc;first|(exfalso;omega)|skip))|((with_reducible first|apply ZJ|apply ZK);rfl;rfl;all_goals (intro hc;first|contradiction|skip))|((with_reducible first|apply ZL|apply ZM);rfl;rfl;omega;omega)|((with_reducible first|apply ZN|apply ZO);rfl;rfl;omega;omega;intro c hget hc)|((with_reducible apply ZP);rfl;(first|exact .inl rfl|assumption);rfl;rfl;omega;omega;omega;intro s' hs' hl')|((with_reducible apply ZQ);rfl;rfl;rfl;omega;omega;omega;intro s' hs' hl')|((with_reducible apply ZR);rfl)
            | (((with_reducible apply Z1 (f := 52));rfl;rfl;rfl;exact h2;rfl); refine step_bool (fun hb => ?_) (fun hb => ?_))
            | (with_reducible first|refine Za ?_|refine Zb ?_|refine Zc ?_|refine Zd ?_|refine Ze ?_|refine Zf ?_|refine Zg ?_|refine Zh ?_|refine Zi ?_|refine Zj ?_|refine Zk ?_|refine Zl ?_|refine Zm ?_|refine Zn ?_|refine Zo ?_|refine Zp ?_|refine Zq ?_|refine Zr ?_|refine Zs ?_|refine Zt ?_|refine Zu ?_)|(with_reducible refine Zv (by decide) ?_)|((with_reducible apply Zw);rfl)|((with_reducible apply Zx);rfl;decide)|((with_reducible apply Zy);rfl)|((with_reducible apply Zz);rfl)|((with_reducible apply ZA);rfl)|refine ZB rfl ?_|refine ZC rfl ?_
            | with_reducible refine ZS ?_
            | refine ZX rfl (ev_arrn (i := k) rfl rfl (by omega)) ?_
            | refine ZX rfl (ev_arrn (i := h) rfl rfl (by omega)) ?_
            | refine ZY (ev_load rfl (by rfl) hl1) (by (repeat' first|exact True.intro|refine ⟨?_, ?_⟩|exact .inl rfl|exact .inr (.inl rfl)|exact .inr (.inr rfl)|rfl)) ?_
            | refine ZY (ev_load rfl (by rfl) hl2) (by (repeat' first|exact True.intro|refine ⟨?_, ?_⟩|exact .inl rfl|exact .inr (.inl rfl)|exact .inr (.inr rfl)|rfl)) ?_
            | refine ZX rfl (ev_or (a := r k) (b := r h) rfl rfl hk hh) ?_
            | refine ZX rfl (ev_shl1 (b := h) rfl rfl (by omega)) ?_
            | refine ZX rfl (ev_or (a := r k ||| r h) (b := 2 ^ h) rfl rfl hor (Nat.pow_lt_pow_right (n := 10) (by omega) (by omega))) ?_
            | refine ZZ (Z0 (ev_store rfl rfl rfl look_hd (rows_set _ _ (by omega)) put_hd) ⟨rfl, rfl⟩) (by (repeat' first|exact True.intro|refine ⟨?_, ?_⟩|exact .inl rfl|exact .inr (.inl rfl)|exact .inr (.inr rfl)|rfl)) ?_
            | (with_reducible first|refine ZS ?_|refine ZT ?_)|((with_reducible apply ZU);rfl)|((with_reducible apply ZV);rfl;decide)|((with_reducible apply ZW);rfl)|refine ZX rfl rfl ?_|refine ZY rfl (by (repeat' first|exact True.intro|refine ⟨?_, ?_⟩|exact .inl rfl|exact .inr (.inl rfl)|exact .inr (.inr rfl)|rfl)) ?_
          all_goals first
            | (rw [hset _ (by unfold edgeF; rw [if_pos (by first | exact .inl (by omega) | exact .inr (by assumption))])]; exact hK _ (weak_keep [1, 2, 3, 6, 8, 9] rfl ⟨k + 1, by omega, by omega, rfl⟩))
            | (rw [hskip (by unfold edgeF; rw [if_neg (by rintro (h3 | h3); omega; rw [hb] at h3; cases h3)])]; exact hK _ (weak_keep [1, 2, 3, 6, 8, 9] rfl ⟨k + 1, by omega, by omega, rfl⟩))
theorem pok85 (m : Int) : PureOk Go.Proofs.Tryd.prog (glb m) 85 T85 := .inl (fam_ok (fn85 m) (callOk_cons (pok52 m) (callOk_nil _ _)) w85)

def G48 : List DV → Option DV
  | [] => some (.agg (.list 0 [] :: rowsD fun x => (startF x : Int)))
  | _ => none
theorem w48 (ds : List DV) (r : DV) (h : G48 ds = some r) : awp (tbl [(64, G64)]) c48 (PureQ [.cell 0 11 true] r) ⟨argE 0 (dvArgs ds), ⟨0, []⟩⟩ := by
  unfold G48 at h
  split at h
  · cases h
    exact run_pure (n := 20) (by kernel_rfl)
  · cases h
theorem pok48 (m : Int) : PureOk Go.Proofs.Tryd.prog (glb m) 48 G48 := pure_ok (fn48 m) (callOk_cons (pok64 m) (callOk_nil _ _)) w48
theorem w49 (ds : List DV) (r : DV) (h : G48 ds = some r) : awp (tbl [(65, G64)]) c49 (PureQ [.cell 0 11 true] r) ⟨argE 0 (dvArgs ds), ⟨0, []⟩⟩ := by
  unfold G48 at h
  split at h
  · cases h
    exact run_pure (n := 20) (by kernel_rfl)
  · cases h
theorem pok49 (m : Int) : PureOk Go.Proofs.Tryd.prog (glb m) 49 G48 := pure_ok (fn49 m) (callOk_cons (pok65 m) (callOk_nil _ _)) w49
end Go.Am
namespace Go.Am
open Go
/-! ### envs as data -/
def envD (sz : Nat) (l : List Op3) (f : Nat → Int) : List D := .list sz (l.map opD) :: rowsD f
def zeroEnv : List D := .list 0 [] :: zeroR
theorem envD_inj {sz sz' : Nat} {l l' : List Op3} {f f' : Nat → Int} (h : envD sz l f = envD sz' l' f') : l = l' ∧ ∀ x, x < 10 → f x = f' x := by
  unfold envD at h
  injection h with h1 h2
  injection h1 with _ h1
  exact ⟨ops_inj h1, rowsD_inj h2⟩
theorem lift_eq {r r' : Nat → Nat} (h : ∀ x, x < 10 → liftF r x = liftF r' x) : ∀ x, x < 10 → r x = r' x := fun x hx => by
  have := h x hx
  unfold liftF at this
  omega
theorem envR_eq {sz : Nat} {l : List Op3} {f f' : Nat → Int} (h : ∀ x, x < 10 → f x = f' x) : envD sz l f = envD sz l f' := by unfold envD; rw [rowsD_eq h]
/-- What is asked of an env. -/
structure EnvOk (sz : Nat) (l : List Op3) (r : Nat → Nat) : Prop where
  sz : sz = 3 ∨ l = []
  len : l.length ≤ 1000
  lt : ∀ x, r x < 1024
  hi : ∀ x, 10 ≤ x → r x = 0
theorem EnvOk.szd {sz : Nat} {l : List Op3} {r : Nat → Nat} (h : EnvOk sz l r) : sz = 3 ∨ l.map opD = [] := h.sz.imp id fun h => by rw [h]; rfl
theorem envT {h : Hp} {x n : Nat} {l : List (List D)} (f : Nat → Int) {d : D} (hl : look h.obs x = some (.row 3 l)) (hn : n = l.length) : V.toDVt h (.tup [.agg (.own x n :: rowsC f), .c (.d d)]) = some (.tup [.agg (.list 3 l :: rowsD f), .c d]) := by
  simp [V.toDVt, toDVs, V.toDV, toDs, rowsC, rowsD, C.toD, hl, hn]
/-! ### Edge -/
def edgeR (l : List Op3) (r : Nat → Nat) (g h : Int) : DV := match edgeE r g h with
  | some e => .tup [.agg zeroEnv, .c (.int .i64 (e : Nat))]
  | none => .tup [.agg (envD 3 l (liftF (edgeF r g.toNat h.toNat))), .c (.int .i64 0)]
noncomputable def T66 : List DV → Option DV := fam (fun x : (Nat × List Op3 × (Nat → Nat)) × Int × Int => [.agg (envD x.1.1 x.1.2.1 (liftF x.1.2.2)), .c (.int .i64 x.2.1), .c (.int .i64 x.2.2)]) (fun x => EnvOk x.1.1 x.1.2.1 x.1.2.2) (fun x => edgeR x.1.2.1 x.1.2.2 x.2.1 x.2.2)
theorem T66_eq {sz : Nat} {l : List Op3} {r : Nat → Nat} (he : EnvOk sz l r) (g h : Int) : T66 [.agg (envD sz l (liftF r)), .c (.int .i64 g), .c (.int .i64 h)] = some (edgeR l r g h) := by
  refine fam_eq (ι := (Nat × List Op3 × (Nat → Nat)) × Int × Int) ((sz, l, r), g, h) he ?_
  rintro ⟨⟨sz', l', r'⟩, g', h'⟩ _ e
  simp only [List.cons.injEq, DV.agg.injEq, DV.c.injEq, D.int.injEq, true_and, and_true] at e
  obtain ⟨h1, rfl, rfl⟩ := e
  obtain ⟨rfl, h2⟩ := envD_inj h1
  have h3 := lift_eq h2
  simp only [edgeR, edgeE_eq h3]
  cases hE : edgeE r g' h' with
  | some e => rfl
  | none =>
    have hi := edgeE_in hE
    simp only []
    rw [envR_eq (f := liftF (edgeF r' g'.toNat h'.toNat)) (f' := liftF (edgeF r g'.toNat h'.toNat)) (fun x hx => by unfold liftF edgeF; rw [h3 x hx, h3 h'.toNat (by omega)])]
set_option maxRecDepth 8000 in
set_option maxHeartbeats 4000000 in
theorem w66 (x : (Nat × List Op3 × (Nat → Nat)) × Int × Int) (he : EnvOk x.1.1 x.1.2.1 x.1.2.2) : awp (tbl [(85, T85)]) c66 (PureQ [.cell 6 11 true, .t 7] (edgeR x.1.2.1 x.1.2.2 x.2.1 x.2.2)) ⟨argE 0 (dvArgs [.agg (envD x.1.1 x.1.2.1 (liftF x.1.2.2)), .c (.int .i64 x.2.1), .c (.int .i64 x.2.2)]), ⟨0, []⟩⟩ := by
  obtain ⟨⟨sz, l, r⟩, g, h⟩ := x
  simp only at he ⊢
  have h85 := T85_eq he.lt g h
  have hlen := he.len
  unfold edgeR
  unfold edgeDV at h85
  cases hE : edgeE r g h with
  | some e =>
    have he0 : (e : Int) ≠ 0 := by
      unfold edgeE at hE
      split at hE
      · cases hE; decide
      · split at hE
        · cases hE; decide
        · cases hE
    rw [hE] at h85
    simp only at h85 ⊢
    unfold c66
    repeat' first | ((with_reducible apply Z1 (f := 85));rfl;rfl;rfl;exact h85;rfl) | ((with_reducible first|apply ZD|apply ZE|apply ZF|apply ZG|apply ZH|apply ZI);rfl;rfl;all_goals (intro hc;first|(exfalso;omega)|skip))|((with_reducible first|apply ZJ|apply ZK);rfl;rfl;all_goals (intro hc;first|contradiction|skip))|((with_reducible first|apply ZL|apply ZM);rfl;rfl;omega;omega)|((with_reducible first|apply ZN|apply ZO);rfl;rfl;omega;omega;intro c hget hc)|((with_reducible apply ZP);rfl;(first|exact .inl rfl|assumption);rfl;rfl;omega;omega;omega;intro s' hs' hl')|((with_reducible apply ZQ);rfl;rfl;rfl;omega;omega;omega;intro s' hs' hl')|((with_reducible apply ZR);rfl) | (with_reducible first|refine Za ?_|refine Zb ?_|refine Zc ?_|refine Zd ?_|refine Ze ?_|refine Zf ?_|refine Zg ?_|refine Zh ?_|refine Zi ?_|refine Zj ?_|refine Zk ?_|refine Zl ?_|refine Zm ?_|refine Zn ?_|refine Zo ?_|refine Zp ?_|refine Zq ?_|refine Zr ?_|refine Zs ?_|refine Zt ?_|refine Zu ?_)|(with_reducible refine Zv (by decide) ?_)|((with_reducible apply Zw);rfl)|((with_reducible apply Zx);rfl;decide)|((with_reducible apply Zy);rfl)|((with_reducible apply Zz);rfl)|((with_reducible apply ZA);rfl)|refine ZB rfl ?_|refine ZC rfl ?_
    exact ⟨_, rfl, rfl⟩
  | none =>
    rw [hE] at h85
    simp only at h85 ⊢
    unfold c66
    repeat' first
      | ((with_reducible apply Z1 (f := 85));rfl;rfl;rfl;exact h85;rfl)
      | ((with_reducible first|apply ZD|apply ZE|apply ZF|apply ZG|apply ZH|apply ZI);rfl;rfl;all_goals (intro hc;first|(exfalso;omega)|skip))|((with_reducible first|apply ZJ|apply ZK);rfl;rfl;all_goals (intro hc;first|contradiction|skip))|((with_reducible first|apply ZL|apply ZM);rfl;rfl;omega;omega)|((with_reducible first|apply ZN|apply ZO);rfl;rfl;omega;omega;intro c hget hc)|((with_reducible apply ZP);rfl;(first|exact .inl rfl|assumption);rfl;rfl;omega;omega;omega;intro s' hs' hl')|((with_reducible apply ZQ);rfl;rfl;rfl;omega;omega;omega;intro s' hs' hl')|((with_reducible apply ZR);rfl)
      | (with_reducible first|refine Za ?_|refine Zb ?_|refine Zc ?_|refine Zd ?_|refine Ze ?_|refine Zf ?_|refine Zg ?_|refine Zh ?_|refine Zi ?_|refine Zj ?_|refine Zk ?_|refine Zl ?_|refine Zm ?_|refine Zn ?_|refine Zo ?_|refine Zp ?_|refine Zq ?_|refine Zr ?_|refine Zs ?_|refine Zt ?_|refine Zu ?_)|(with_reducible refine Zv (by decide) ?_)|((with_reducible apply Zw);rfl)|((with_reducible apply Zx);rfl;decide)|((with_reducible apply Zy);rfl)|((with_reducible apply Zz);rfl)|((with_reducible apply ZA);rfl)|refine ZB rfl ?_|refine ZC rfl ?_
      | with_reducible refine ZS ?_
      | refine ZZ (Z0 (ev_app_d (l' := l.map opD) (n' := (l.map opD).length) rfl rfl he.szd look_hd rfl (by show 0 + (l.map opD).length ≤ room; rw [List.length_map]; unfold room; omega) rfl rfl put_hd) ⟨rfl, rfl⟩) (by (repeat' first|exact True.intro|refine ⟨?_, ?_⟩|exact .inl rfl|exact .inr (.inl rfl)|exact .inr (.inr rfl)|rfl)) ?_
      | (with_reducible first|refine ZS ?_|refine ZT ?_)|((with_reducible apply ZU);rfl)|((with_reducible apply ZV);rfl;decide)|((with_reducible apply ZW);rfl)|refine ZX rfl rfl ?_|refine ZY rfl (by (repeat' first|exact True.intro|refine ⟨?_, ?_⟩|exact .inl rfl|exact .inr (.inl rfl)|exact .inr (.inr rfl)|rfl)) ?_|refine ZZ (Z0 rfl ⟨rfl, rfl⟩) (by (repeat' first|exact True.intro|refine ⟨?_, ?_⟩|exact .inl rfl|exact .inr (.inl rfl)|exact .inr (.inr rfl)|rfl)) ?_
    exact ⟨_, rfl, envT _ look_hd rfl⟩
theorem pok66 (m : Int) : PureOk Go.Proofs.Tryd.prog (glb m) 66 T66 := .inl (fam_ok (fn66 m) (callOk_cons (pok85 m) (callOk_nil _ _)) w66)
/-! ### what stands ahead of the first that is not so -/
theorem span_at {α : Type} {q : α → Bool} : ∀ {l : List α} {i : Nat}, (∀ x ∈ l.take i, q x = true) → (∀ y, l[i]? = some y → q y = false) → l.takeWhile q = l.take i ∧ l.dropWhile q = l.drop i
  | [], i, _, _ => by simp
  | x :: r, 0, _, h2 => by
    have := h2 x rfl
    simp [this]
  | x :: r, i + 1, h1, h2 => by
    have hx := h1 x (by simp)
    obtain ⟨e1, e2⟩ := span_at (q := q) (l := r) (i := i) (fun y hy => h1 y (by simp [hy])) (fun y hy => h2 y (by simpa using hy))
    simp [hx, e1, e2]
theorem take_snoc {α : Type} {l : List α} {i : Nat} {x : α} (h : l[i]? = some x) : l.take (i + 1) = l.take i ++ [x] := by
  rw [List.take_add_one, h]
  rfl
theorem take_all {α : Type} {q : α → Bool} {l : List α} {i : Nat} {x : α} (h : l[i]? = some x) (ha : ∀ y ∈ l.take i, q y = true) (hx : q x = true) : ∀ y ∈ l.take (i + 1), q y = true := by
  rw [take_snoc h]
  intro y hy
  rcases List.mem_append.1 hy with hy | hy
  · exact ha y hy
  · simp at hy; subst hy; exact hx
theorem ops_at (l : List Op3) {i : Nat} {x : Op3} (h : l[i]? = some x) : (l.map opD)[(i : Int).toNat]? = some (opD x) := by simp [h]
/-! ### Drop -/
def dropL (p : List UInt8) (l : List Op3) : Option (List Op3) := match l.dropWhile (fun x => !(x.pat == p)) with
  | [] => none
  | _ :: t => some (l.takeWhile (fun x => !(x.pat == p)) ++ t)
def dropR (p : List UInt8) (l : List Op3) (r : Nat → Nat) : DV := match dropL p l with
  | none => .tup [.agg zeroEnv, .c (.int .i64 2)]
  | some l' => .tup [.agg (envD 3 l' (liftF r)), .c (.int .i64 0)]
noncomputable def T67 : List DV → Option DV := fam (fun x : (Nat × List Op3 × (Nat → Nat)) × List UInt8 => [.agg (envD x.1.1 x.1.2.1 (liftF x.1.2.2)), .c (.str x.2)]) (fun x => EnvOk x.1.1 x.1.2.1 x.1.2.2) (fun x => dropR x.2 x.1.2.1 x.1.2.2)
theorem T67_eq {sz : Nat} {l : List Op3} {r : Nat → Nat} (he : EnvOk sz l r) (p : List UInt8) : T67 [.agg (envD sz l (liftF r)), .c (.str p)] = some (dropR p l r) := by
  refine fam_eq (ι := (Nat × List Op3 × (Nat → Nat)) × List UInt8) ((sz, l, r), p) he ?_
  rintro ⟨⟨sz', l', r'⟩, p'⟩ _ e
  simp only [List.cons.injEq, DV.agg.injEq, DV.c.injEq, D.str.injEq, and_true] at e
  obtain ⟨h1, rfl⟩ := e
  obtain ⟨rfl, h2⟩ := envD_inj h1
  simp only [dropR]
  cases dropL p' l' with
  | none => rfl
  | some q => simp only []; rw [envR_eq h2]
set_option maxRecDepth 8000 in
set_option maxHeartbeats 4000000 in
theorem w67 (x : (Nat × List Op3 × (Nat → Nat)) × List UInt8) (he : EnvOk x.1.1 x.1.2.1 x.1.2.2) : awp (tbl []) c67 (PureQ [.cell 4 11 true, .t 5] (dropR x.2 x.1.2.1 x.1.2.2)) ⟨argE 0 (dvArgs [.agg (envD x.1.1 x.1.2.1 (liftF x.1.2.2)), .c (.str x.2)]), ⟨0, []⟩⟩ := by
  obtain ⟨⟨sz, l, r⟩, p⟩ := x
  simp only at he ⊢
  have hlen := he.len
  have hml : (l.map opD).length = l.length := List.length_map _
  unfold c67
  repeat' first | ((with_reducible first|apply ZD|apply ZE|apply ZF|apply ZG|apply ZH|apply ZI);rfl;rfl;all_goals (intro hc;first|(exfalso;omega)|skip))|((with_reducible first|apply ZJ|apply ZK);rfl;rfl;all_goals (intro hc;first|contradiction|skip))|((with_reducible first|apply ZL|apply ZM);rfl;rfl;omega;omega)|((with_reducible first|apply ZN|apply ZO);rfl;rfl;omega;omega;intro c hget hc)|((with_reducible apply ZP);rfl;(first|exact .inl rfl|assumption);rfl;rfl;omega;omega;omega;intro s' hs' hl')|((with_reducible apply ZQ);rfl;rfl;rfl;omega;omega;omega;intro s' hs' hl')|((with_reducible apply ZR);rfl) | (with_reducible first|refine Za ?_|refine Zb ?_|refine Zc ?_|refine Zd ?_|refine Ze ?_|refine Zf ?_|refine Zg ?_|refine Zh ?_|refine Zi ?_|refine Zj ?_|refine Zk ?_|refine Zl ?_|refine Zm ?_|refine Zn ?_|refine Zo ?_|refine Zp ?_|refine Zq ?_|refine Zr ?_|refine Zs ?_|refine Zt ?_|refine Zu ?_)|(with_reducible refine Zv (by decide) ?_)|((with_reducible apply Zw);rfl)|((with_reducible apply Zx);rfl;decide)|((with_reducible apply Zy);rfl)|((with_reducible apply Zz);rfl)|((with_reducible apply ZA);rfl)|refine ZB rfl ?_|refine ZC rfl ?_
  refine awp_loop (fun m st => ∃ i : Nat, i ≤ l.length ∧ l.length - i < m ∧ (∀ y ∈ l.take i, (!(y.pat == p)) = true) ∧
    st = ⟨[(1, .c (.d (.str p))), (2, .c (.ptr 0 0)), (4, .c (.ptr 1 0)), (6, .c (.d (.int .i64 (i : Nat))))], ⟨2, [(1, .cells (.nil :: rowsC fun _ => 0)), (0, .cells (.d (.list sz (l.map opD)) :: rowsC (liftF r)))]⟩⟩) (l.length + 1) ?_ (by rintro st ⟨i, h1, h2, _⟩; omega) ?_
  · exact weak_keep [1, 2, 4, 6] rfl ⟨0, by omega, by omega, fun y hy => by simp at hy, rfl⟩
  · rintro m K hK st ⟨i, hi, hm, hall, rfl⟩
    by_cases hend : i = l.length
    · obtain ⟨e1, e2⟩ := span_at hall (fun y hy => by rw [List.getElem?_eq_none (by omega)] at hy; cases hy)
      have hd : dropR p l r = .tup [.agg zeroEnv, .c (.int .i64 2)] := by
        unfold dropR dropL
        rw [e2, List.drop_eq_nil_of_le (by omega)]
      rw [hd]
      repeat' first | ((with_reducible first|apply ZD|apply ZE|apply ZF|apply ZG|apply ZH|apply ZI);rfl;rfl;all_goals (intro hc;first|(exfalso;omega)|skip))|((with_reducible first|apply ZJ|apply ZK);rfl;rfl;all_goals (intro hc;first|contradiction|skip))|((with_reducible first|apply ZL|apply ZM);rfl;rfl;omega;omega)|((with_reducible first|apply ZN|apply ZO);rfl;rfl;omega;omega;intro c hget hc)|((with_reducible apply ZP);rfl;(first|exact .inl rfl|assumption);rfl;rfl;omega;omega;omega;intro s' hs' hl')|((with_reducible apply ZQ);rfl;rfl;rfl;omega;omega;omega;intro s' hs' hl')|((with_reducible apply ZR);rfl) | (with_reducible first|refine Za ?_|refine Zb ?_|refine Zc ?_|refine Zd ?_|refine Ze ?_|refine Zf ?_|refine Zg ?_|refine Zh ?_|refine Zi ?_|refine Zj ?_|refine Zk ?_|refine Zl ?_|refine Zm ?_|refine Zn ?_|refine Zo ?_|refine Zp ?_|refine Zq ?_|refine Zr ?_|refine Zs ?_|refine Zt ?_|refine Zu ?_)|(with_reducible refine Zv (by decide) ?_)|((with_reducible apply Zw);rfl)|((with_reducible apply Zx);rfl;decide)|((with_reducible apply Zy);rfl)|((with_reducible apply Zz);rfl)|((with_reducible apply ZA);rfl)|refine ZB rfl ?_|refine ZC rfl ?_
      exact ⟨_, rfl, rfl⟩
    · have hx : l[i]? = some l[i] := List.getElem?_eq_getElem (by omega)
      have hx' := ops_at l hx
      have hdr : l.drop i = l[i] :: l.drop (i + 1) := List.drop_eq_getElem_cons (by omega)
      generalize l[i] = x at hx hx' hdr
      have hs1 : ((l.map opD).take ((i : Int)).toNat).drop (0 : Int).toNat = (l.take i).map opD := by simp [List.map_take]
      have hs2 : ((l.map opD).take (((l.map opD).length : Int)).toNat).drop ((i : Int) + 1).toNat = (l.drop (i + 1)).map opD := by
        rw [Int.toNat_natCast, List.take_length, show ((i : Int) + 1).toNat = i + 1 by omega, List.map_drop]
      have hz1 : sz = 3 ∨ (l.map opD) = [] := he.szd
      repeat' first
        | refine ZB (ev_idx rfl rfl (by omega) hx' rfl) ?_
        | ((with_reducible first|apply ZD|apply ZE|apply ZF|apply ZG|apply ZH|apply ZI);rfl;rfl;all_goals (intro hc;first|(exfalso;omega)|skip))|((with_reducible first|apply ZJ|apply ZK);rfl;rfl;all_goals (intro hc;first|contradiction|skip))|((with_reducible first|apply ZL|apply ZM);rfl;rfl;omega;omega)|((with_reducible first|apply ZN|apply ZO);rfl;rfl;omega;omega;intro c hget hc)|((with_reducible apply ZP);rfl;(first|exact .inl rfl|assumption);rfl;rfl;omega;omega;omega;intro s' hs' hl')|((with_reducible apply ZQ);rfl;rfl;rfl;omega;omega;omega;intro s' hs' hl')|((with_reducible apply ZR);rfl)
        | (with_reducible first|refine Za ?_|refine Zb ?_|refine Zc ?_|refine Zd ?_|refine Ze ?_|refine Zf ?_|refine Zg ?_|refine Zh ?_|refine Zi ?_|refine Zj ?_|refine Zk ?_|refine Zl ?_|refine Zm ?_|refine Zn ?_|refine Zo ?_|refine Zp ?_|refine Zq ?_|refine Zr ?_|refine Zs ?_|refine Zt ?_|refine Zu ?_)|(with_reducible refine Zv (by decide) ?_)|((with_reducible apply Zw);rfl)|((with_reducible apply Zx);rfl;decide)|((with_reducible apply Zy);rfl)|((with_reducible apply Zz);rfl)|((with_reducible apply ZA);rfl)|refine ZB rfl ?_|refine ZC rfl ?_
        | with_reducible refine ZS ?_
        | refine dstep_all (fun h => ev_slice_d (a := 0) (b := (i : Int)) rfl hz1 rfl rfl (by omega) (by omega) (by omega) hs1) ?_
        | refine ZX rfl (ev_add (a := (i : Int)) (b := 1) rfl rfl (by omega) (by omega)) ?_
        | refine dstep_all (fun h => ev_slice_d (a := (i : Int) + 1) (b := ((l.map opD).length : Int)) rfl hz1 rfl rfl (by omega) (by omega) (by omega) hs2) ?_
        | refine ZZ (Z0 (ev_app_d (l' := (l.take i).map opD) (n' := ((l.take i).map opD).length) rfl rfl (.inl rfl) look_hd rfl (by show 0 + ((l.take i).map opD).length ≤ room; rw [List.length_map, List.length_take]; unfold room; omega) rfl rfl put_hd) ⟨rfl, rfl⟩) (by (repeat' first|exact True.intro|refine ⟨?_, ?_⟩|exact .inl rfl|exact .inr (.inl rfl)|exact .inr (.inr rfl)|rfl)) ?_
        | refine ZZ (Z0 (ev_app_d (l' := (l.take i).map opD ++ (l.drop (i + 1)).map opD) (n' := ((l.take i).map opD ++ (l.drop (i + 1)).map opD).length) rfl rfl (.inl rfl) look_hd rfl (by rw [List.length_map, List.length_map, List.length_take, List.length_drop]; unfold room; omega) rfl rfl put_hd) ⟨rfl, rfl⟩) (by (repeat' first|exact True.intro|refine ⟨?_, ?_⟩|exact .inl rfl|exact .inr (.inl rfl)|exact .inr (.inr rfl)|rfl)) ?_
        | (with_reducible first|refine ZS ?_|refine ZT ?_)|((with_reducible apply ZU);rfl)|((with_reducible apply ZV);rfl;decide)|((with_reducible apply ZW);rfl)|refine ZX rfl rfl ?_|refine ZY rfl (by (repeat' first|exact True.intro|refine ⟨?_, ?_⟩|exact .inl rfl|exact .inr (.inl rfl)|exact .inr (.inr rfl)|rfl)) ?_|refine ZZ (Z0 rfl ⟨rfl, rfl⟩) (by (repeat' first|exact True.intro|refine ⟨?_, ?_⟩|exact .inl rfl|exact .inr (.inl rfl)|exact .inr (.inr rfl)|rfl)) ?_
      · obtain ⟨e1, e2⟩ := span_at hall (fun y hy => by obtain rfl := Option.some.inj (hx.symm.trans hy); simp_all)
        have hd : dropR p l r = .tup [.agg (envD 3 (l.take i ++ l.drop (i + 1)) (liftF r)), .c (.int .i64 0)] := by
          unfold dropR dropL
          rw [e2, hdr, e1]
        rw [hd]
        refine ⟨_, rfl, (envT (liftF r) look_hd rfl).trans ?_⟩
        rw [← List.map_append]
        rfl
      · exact hK _ (weak_keep [1, 2, 4, 6] rfl ⟨i + 1, by omega, by omega, take_all hx hall (by simp_all), rfl⟩)
theorem pok67 (m : Int) : PureOk Go.Proofs.Tryd.prog (glb m) 67 T67 := .inl (fam_ok (fn67 m) (callOk_nil _ _) w67)
end Go.Am
