/-
  Few operators, of few bytes.
-/
import Derived.Test.YtnhalnblbfgbkaaDoorAF6
namespace Go.Am
open Go
def fewO (o : Op3) : Op3 := ⟨o.pat.take 60, o.g, o.a⟩
noncomputable def T25 : List DV → Option DV := fam (fun o : Op3 => [.agg (opD o)]) (fun _ => True) (fun o => .agg (opD (fewO o)))
theorem T25_eq (o : Op3) : T25 [.agg (opD o)] = some (.agg (opD (fewO o))) := by
  refine fam_eq (ι := Op3) o True.intro ?_
  intro o' _ e
  simp only [List.cons.injEq, DV.agg.injEq, and_true] at e
  rw [opD_inj e]
set_option maxRecDepth 8000 in
theorem w25 (o : Op3) (_ : True) : awp (tbl []) c25 (PureQ [.cell 2 3 true] (.agg (opD (fewO o)))) ⟨argE 0 (dvArgs [.agg (opD o)]), ⟨0, []⟩⟩ := by
  obtain ⟨p, g, a⟩ := o
  unfold c25
  repeat' first
    | refine GoH ?_
    | refine ZB (ev_min rfl rfl) ?_
    | refine ZB (ev_take60 rfl rfl) ?_
    | refine GoH ?_|refine ZB rfl ?_|refine ZC rfl ?_
  exact ⟨_, rfl, rfl⟩
theorem pok25 (m : Int) : PureOk Go.Proofs.Tryd.prog (glb m) 11 T25 := .inl (fam_ok (fn25 m) (callOk_nil _ _) w25)
def cut20 (l : List Op3) : List Op3 := (l.take 20).map fewO
def z3 (t : List Op3) : Nat := if t = [] then 0 else 3
theorem cut20_at {l : List Op3} {i : Nat} {x : Op3} (h : l[i]? = some x) : (l.take (i + 1)).map fewO = (l.take i).map fewO ++ [fewO x] := by
  rw [take_snoc h, List.map_append]
  rfl
theorem cut20_ok (l : List Op3) : patsOk (cut20 l) := by
  unfold patsOk cut20
  refine ⟨by rw [List.length_map, List.length_take]; omega, fun o ho => ?_⟩
  obtain ⟨q, _, rfl⟩ := List.mem_map.1 ho
  show (q.pat.take 60).length ≤ 60
  rw [List.length_take]
  omega
noncomputable def T24 : List DV → Option DV := fam (fun x : Nat × List Op3 × (Nat → Int) => [.agg (envD x.1 x.2.1 x.2.2)]) (fun _ => True) (fun x => .agg (envD (z3 (cut20 x.2.1)) (cut20 x.2.1) x.2.2))
theorem T24_eq (sz : Nat) (l : List Op3) (f : Nat → Int) : T24 [.agg (envD sz l f)] = some (.agg (envD (z3 (cut20 l)) (cut20 l) f)) := by
  refine fam_eq (ι := Nat × List Op3 × (Nat → Int)) (sz, l, f) True.intro ?_
  rintro ⟨sz', l', f'⟩ _ e
  simp only [List.cons.injEq, DV.agg.injEq, and_true] at e
  obtain ⟨rfl, h2⟩ := envD_inj e
  simp only [envR_eq h2]
theorem envA {h : Hp} {x n : Nat} {l : List (List D)} (f : Nat → Int) (hl : look h.obs x = some (.row 3 l)) (hn : n = l.length) : V.toDVt h (.agg (.own x n :: rowsC f)) = some (.agg (.list 3 l :: rowsD f)) := by
  simp [V.toDVt, V.toDV, toDs, rowsC, rowsD, C.toD, hl, hn]
def hp24 (sz : Nat) (l : List Op3) (f : Nat → Int) : List Op3 → Hp
  | [] => ⟨3, [(2, .cells (.nil :: rowsC f)), (1, .cells (.nil :: rowsC fun _ => 0)), (0, .cells (.d (.list sz (l.map opD)) :: rowsC f))]⟩
  | s :: t => ⟨4, [(3, .row 3 ((s :: t).map opD)), (2, .cells (.own 3 ((s :: t).map opD).length :: rowsC f)), (1, .cells (.nil :: rowsC fun _ => 0)), (0, .cells (.d (.list sz (l.map opD)) :: rowsC f))]⟩
theorem hp24_app (sz : Nat) (l : List Op3) (f : Nat → Int) (s0 q : Op3) (t0 : List Op3) : hp24 sz l f (s0 :: t0 ++ [q]) = ⟨4, [(3, .row 3 ((s0 :: t0).map opD ++ [opD q])), (2, .cells (.own 3 ((s0 :: t0).map opD ++ [opD q]).length :: rowsC f)), (1, .cells (.nil :: rowsC fun _ => 0)), (0, .cells (.d (.list sz (l.map opD)) :: rowsC f))]⟩ := by
  have e : (s0 :: (t0 ++ [q])).map opD = (s0 :: t0).map opD ++ [opD q] := by rw [← List.cons_append, List.map_append]; rfl
  show hp24 sz l f (s0 :: (t0 ++ [q])) = _
  rw [← e]
  rfl
set_option maxRecDepth 8000 in
set_option maxHeartbeats 8000000 in
theorem w24 (x : Nat × List Op3 × (Nat → Int)) (_ : True) : awp (tbl [(11, T25)]) c24 (PureQ [.cell 2 11 true] (.agg (envD (z3 (cut20 x.2.1)) (cut20 x.2.1) x.2.2))) ⟨argE 0 (dvArgs [.agg (envD x.1 x.2.1 x.2.2)]), ⟨0, []⟩⟩ := by
  obtain ⟨sz, l, f⟩ := x
  simp only
  have hml : (l.map opD).length = l.length := List.length_map _
  unfold c24
  repeat' first | refine GoH ?_ | ((with_reducible first|apply ZD|apply ZE|apply ZF|apply ZG|apply ZH|apply ZI);rfl;rfl;all_goals (intro hc;first|(exfalso;omega)|skip))|((with_reducible first|apply ZJ|apply ZK);rfl;rfl;all_goals (intro hc;first|contradiction|skip))|((with_reducible first|apply ZL|apply ZM);rfl;rfl;omega;omega)|((with_reducible first|apply ZN|apply ZO);rfl;rfl;omega;omega;intro c hget hc)|((with_reducible apply ZP);rfl;(first|exact .inl rfl|assumption);rfl;rfl;omega;omega;omega;intro s' hs' hl')|((with_reducible apply ZQ);rfl;rfl;rfl;omega;omega;omega;intro s' hs' hl')|((with_reducible apply ZR);rfl) | refine GoH ?_|refine ZB rfl ?_|refine ZC rfl ?_
  refine awp_loop (fun n st => ∃ i : Nat, i ≤ l.length ∧ i ≤ 20 ∧ 20 - i < n ∧
    st = ⟨[(1, .c (.ptr 0 0)), (2, .c (.ptr 1 0)), (3, .c (.ptr 2 0)), (4, .c (.d (.int .i64 (i : Nat))))], hp24 sz l f ((l.take i).map fewO)⟩) 21 ?_ (by rintro st ⟨i, h1, h2, h3, _⟩; omega) ?_
  · exact weak_keep [1, 2, 3, 4] rfl ⟨0, by omega, by omega, by omega, rfl⟩
  · rintro n K hK st ⟨i, hi, h6, hn, rfl⟩
    by_cases hgo : i < l.length ∧ i < 20
    · obtain ⟨hi1, hi2⟩ := hgo
      have hx : l[i]? = some l[i] := List.getElem?_eq_getElem hi1
      have hx' : (l.map opD)[(i : Int).toNat]? = some (opD l[i]) := ops_at l hx
      have hstep := cut20_at hx
      have h25 := T25_eq l[i]
      have hl3 : ((l.take i).map fewO).length ≤ 20 := by rw [List.length_map, List.length_take]; omega
      generalize (l.take i).map fewO = t at hstep hl3
      generalize l[i] = o at hx' hstep h25
      generalize hq : fewO o = q at hstep h25
      obtain ⟨p, g, a⟩ := o
      clear hq
      obtain ⟨p', g', a'⟩ := q
      replace hx' : (l.map opD)[(i : Int).toNat]? = some [.str p, .int .i64 g, .int .i64 a] := hx'
      replace h25 : T25 [.agg [.str p, .int .i64 g, .int .i64 a]] = some (.agg [.str p', .int .i64 g', .int .i64 a']) := h25
      cases t with
      | nil =>
        unfold hp24
        repeat' first
          | refine GoH ?_
          | ((with_reducible first|apply ZD|apply ZE|apply ZF|apply ZG|apply ZH|apply ZI);rfl;rfl;all_goals (intro hc;first|(exfalso;omega)|skip))|((with_reducible first|apply ZJ|apply ZK);rfl;rfl;all_goals (intro hc;first|contradiction|skip))|((with_reducible first|apply ZL|apply ZM);rfl;rfl;omega;omega)|((with_reducible first|apply ZN|apply ZO);rfl;rfl;omega;omega;intro c hget hc)|((with_reducible apply ZP);rfl;(first|exact .inl rfl|assumption);rfl;rfl;omega;omega;omega;intro s' hs' hl')|((with_reducible apply ZQ);rfl;rfl;rfl;omega;omega;omega;intro s' hs' hl')|((with_reducible apply ZR);rfl)
          | refine GoH ?_|refine ZB rfl ?_|refine ZC rfl ?_
          | with_reducible apply ZS
          | refine dstep_all (fun _ => ev_idx rfl rfl (by omega) hx' rfl) ?_
          | refine ZY (ev_pcall rfl rfl h25 rfl rfl) (by (repeat' first|exact True.intro|refine ⟨?_, ?_⟩|exact .inl rfl|exact .inr (.inl rfl)|exact .inr (.inr rfl)|rfl)) ?_
          | (with_reducible first|apply ZS|apply ZT)|((with_reducible apply ZU);rfl)|((with_reducible apply ZV);rfl;decide)|((with_reducible apply ZW);rfl)|refine ZX rfl rfl ?_|refine ZY rfl (by (repeat' first|exact True.intro|refine ⟨?_, ?_⟩|exact .inl rfl|exact .inr (.inl rfl)|exact .inr (.inr rfl)|rfl)) ?_|refine ZZ (Z0 rfl ⟨rfl, rfl⟩) (by (repeat' first|exact True.intro|refine ⟨?_, ?_⟩|exact .inl rfl|exact .inr (.inl rfl)|exact .inr (.inr rfl)|rfl)) ?_
        refine hK _ (weak_keep [1, 2, 3, 4] rfl ⟨i + 1, by omega, by omega, by omega, ?_⟩)
        rw [hstep]
        rfl
      | cons s0 t0 =>
        unfold hp24
        repeat' first
          | refine GoH ?_
          | ((with_reducible first|apply ZD|apply ZE|apply ZF|apply ZG|apply ZH|apply ZI);rfl;rfl;all_goals (intro hc;first|(exfalso;omega)|skip))|((with_reducible first|apply ZJ|apply ZK);rfl;rfl;all_goals (intro hc;first|contradiction|skip))|((with_reducible first|apply ZL|apply ZM);rfl;rfl;omega;omega)|((with_reducible first|apply ZN|apply ZO);rfl;rfl;omega;omega;intro c hget hc)|((with_reducible apply ZP);rfl;(first|exact .inl rfl|assumption);rfl;rfl;omega;omega;omega;intro s' hs' hl')|((with_reducible apply ZQ);rfl;rfl;rfl;omega;omega;omega;intro s' hs' hl')|((with_reducible apply ZR);rfl)
          | refine GoH ?_|refine ZB rfl ?_|refine ZC rfl ?_
          | with_reducible apply ZS
          | refine dstep_all (fun _ => ev_idx rfl rfl (by omega) hx' rfl) ?_
          | refine ZY (ev_pcall rfl rfl h25 rfl rfl) (by (repeat' first|exact True.intro|refine ⟨?_, ?_⟩|exact .inl rfl|exact .inr (.inl rfl)|exact .inr (.inr rfl)|rfl)) ?_
          | refine ZZ (Z0 (ev_app_own rfl rfl look_hd rfl (by show ((s0 :: t0).map opD).length + 1 ≤ room; rw [List.length_map]; unfold room; omega) put_hd) ⟨rfl, rfl⟩) (by (repeat' first|exact True.intro|refine ⟨?_, ?_⟩|exact .inl rfl|exact .inr (.inl rfl)|exact .inr (.inr rfl)|rfl)) ?_
          | (with_reducible first|apply ZS|apply ZT)|((with_reducible apply ZU);rfl)|((with_reducible apply ZV);rfl;decide)|((with_reducible apply ZW);rfl)|refine ZX rfl rfl ?_|refine ZY rfl (by (repeat' first|exact True.intro|refine ⟨?_, ?_⟩|exact .inl rfl|exact .inr (.inl rfl)|exact .inr (.inr rfl)|rfl)) ?_|refine ZZ (Z0 rfl ⟨rfl, rfl⟩) (by (repeat' first|exact True.intro|refine ⟨?_, ?_⟩|exact .inl rfl|exact .inr (.inl rfl)|exact .inr (.inr rfl)|rfl)) ?_
        refine hK _ (weak_keep [1, 2, 3, 4] rfl ⟨i + 1, by omega, by omega, by omega, ?_⟩)
        rw [hstep, hp24_app]
        rfl
    · have hend : ¬ (i < l.length) ∨ ¬ (i < 20) := by omega
      have hc : (l.take i).map fewO = cut20 l := by
        unfold cut20
        rcases Nat.lt_or_ge i 20 with h | h
        · have : i = l.length := by omega
          rw [List.take_of_length_le (by omega), List.take_of_length_le (by omega)]
        · rw [show i = 20 by omega]
      rw [hc]
      generalize cut20 l = t
      cases t with
      | nil =>
        unfold hp24
        repeat' first
          | refine GoH ?_
          | ((with_reducible first|apply ZD|apply ZE|apply ZF|apply ZG|apply ZH|apply ZI);rfl;rfl;all_goals (intro hc;first|(exfalso;omega)|skip))|((with_reducible first|apply ZJ|apply ZK);rfl;rfl;all_goals (intro hc;first|contradiction|skip))|((with_reducible first|apply ZL|apply ZM);rfl;rfl;omega;omega)|((with_reducible first|apply ZN|apply ZO);rfl;rfl;omega;omega;intro c hget hc)|((with_reducible apply ZP);rfl;(first|exact .inl rfl|assumption);rfl;rfl;omega;omega;omega;intro s' hs' hl')|((with_reducible apply ZQ);rfl;rfl;rfl;omega;omega;omega;intro s' hs' hl')|((with_reducible apply ZR);rfl)
          | refine GoH ?_|refine ZB rfl ?_|refine ZC rfl ?_
        all_goals exact ⟨_, rfl, rfl⟩
      | cons s0 t0 =>
        unfold hp24
        repeat' first
          | refine GoH ?_
          | ((with_reducible first|apply ZD|apply ZE|apply ZF|apply ZG|apply ZH|apply ZI);rfl;rfl;all_goals (intro hc;first|(exfalso;omega)|skip))|((with_reducible first|apply ZJ|apply ZK);rfl;rfl;all_goals (intro hc;first|contradiction|skip))|((with_reducible first|apply ZL|apply ZM);rfl;rfl;omega;omega)|((with_reducible first|apply ZN|apply ZO);rfl;rfl;omega;omega;intro c hget hc)|((with_reducible apply ZP);rfl;(first|exact .inl rfl|assumption);rfl;rfl;omega;omega;omega;intro s' hs' hl')|((with_reducible apply ZQ);rfl;rfl;rfl;omega;omega;omega;intro s' hs' hl')|((with_reducible apply ZR);rfl)
          | refine GoH ?_|refine ZB rfl ?_|refine ZC rfl ?_
        all_goals exact ⟨_, rfl, envA f look_hd rfl⟩
theorem pok24 (m : Int) : PureOk Go.Proofs.Tryd.prog (glb m) 10 T24 := .inl (fam_ok (fn24 m) (callOk_cons (pok25 m) (callOk_nil _ _)) w24)
end Go.Am
