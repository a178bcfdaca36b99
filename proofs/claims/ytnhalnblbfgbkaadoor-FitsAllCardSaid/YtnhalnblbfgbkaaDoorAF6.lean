/-
  The reference's Entry, Leaf; few operators.
-/
import Derived.Test.YtnhalnblbfgbkaaDoorAF4
import Derived.Test.YtnhalnblbfgbkaaDoorAQD
namespace Go.Am
open Go
def patsOk (l : List Op3) : Prop := l.length ≤ 1000 ∧ ∀ o ∈ l, o.pat.length ≤ 60
noncomputable def T54 : List DV → Option DV := fam (fun x : (Nat × List Op3 × (Nat → Int)) × List UInt8 => [.agg (envD x.1.1 x.1.2.1 x.1.2.2), .c (.str x.2)]) (fun x => patsOk x.1.2.1) (fun x => .c (.list 4 (entsOf partE x.1.2.2 x.2 x.1.2.1)))
theorem T54_eq {sz : Nat} {l : List Op3} {f : Nat → Int} (he : patsOk l) (n : List UInt8) : T54 [.agg (envD sz l f), .c (.str n)] = some (.c (.list 4 (entsOf partE f n l))) := by
  refine fam_eq (ι := (Nat × List Op3 × (Nat → Int)) × List UInt8) ((sz, l, f), n) he ?_
  rintro ⟨⟨sz', l', f'⟩, n'⟩ _ e
  simp only [List.cons.injEq, DV.agg.injEq, DV.c.injEq, D.str.injEq, and_true] at e
  obtain ⟨h1, rfl⟩ := e
  obtain ⟨rfl, h2⟩ := envD_inj h1
  simp only [entsOf]
  rw [List.map_congr_left (fun o _ => entD_eq h2 o)]
set_option maxRecDepth 8000 in
set_option maxHeartbeats 4000000 in
theorem w54 (x : (Nat × List Op3 × (Nat → Int)) × List UInt8) (he : patsOk x.1.2.1) : awp (tbl [(63, T71), (64, T72)]) c54 (PureQ [.t 4] (.c (.list 4 (entsOf partE x.1.2.2 x.2 x.1.2.1)))) ⟨argE 0 (dvArgs [.agg (envD x.1.1 x.1.2.1 x.1.2.2), .c (.str x.2)]), ⟨0, []⟩⟩ := by
  obtain ⟨⟨sz, l, f⟩, n⟩ := x
  obtain ⟨hlen, hpat⟩ := he
  simp only at hlen hpat ⊢
  have hml : (l.map opD).length = l.length := List.length_map _
  have h72 := fun g => T72_eq sz l f g
  unfold c54
  repeat' first | refine GoH ?_ | ((with_reducible first|apply ZD|apply ZE|apply ZF|apply ZG|apply ZH|apply ZI);rfl;rfl;all_goals (intro hc;first|(exfalso;omega)|skip))|((with_reducible first|apply ZJ|apply ZK);rfl;rfl;all_goals (intro hc;first|contradiction|skip))|((with_reducible first|apply ZL|apply ZM);rfl;rfl;omega;omega)|((with_reducible first|apply ZN|apply ZO);rfl;rfl;omega;omega;intro c hget hc)|((with_reducible apply ZP);rfl;(first|exact .inl rfl|assumption);rfl;rfl;omega;omega;omega;intro s' hs' hl')|((with_reducible apply ZQ);rfl;rfl;rfl;omega;omega;omega;intro s' hs' hl')|((with_reducible apply ZR);rfl) | refine GoH ?_|refine ZB rfl ?_|refine ZC rfl ?_
  refine awp_loop (fun m st => ∃ i : Nat, i ≤ l.length ∧ l.length - i < m ∧
    st = ⟨[(1, .c (.d (.str n))), (2, .c (.ptr 0 0)), (5, .c (.own 1 (entsOf partE f n (l.take i)).length)), (6, .c (.d (.int .i64 (i : Nat))))], ⟨2, [(1, .row 4 (entsOf partE f n (l.take i))), (0, .cells (.d (.list sz (l.map opD)) :: rowsC f))]⟩⟩) (l.length + 1) ?_ (by rintro st ⟨i, h1, h2, _⟩; omega) ?_
  · exact weak_keep [1, 2, 5, 6] rfl ⟨0, by omega, by omega, rfl⟩
  · rintro m K hK st ⟨i, hi, hm, rfl⟩
    by_cases hend : i = l.length
    · subst hend
      rw [List.take_length]
      repeat' first | refine GoH ?_ | ((with_reducible first|apply ZD|apply ZE|apply ZF|apply ZG|apply ZH|apply ZI);rfl;rfl;all_goals (intro hc;first|(exfalso;omega)|skip))|((with_reducible first|apply ZJ|apply ZK);rfl;rfl;all_goals (intro hc;first|contradiction|skip))|((with_reducible first|apply ZL|apply ZM);rfl;rfl;omega;omega)|((with_reducible first|apply ZN|apply ZO);rfl;rfl;omega;omega;intro c hget hc)|((with_reducible apply ZP);rfl;(first|exact .inl rfl|assumption);rfl;rfl;omega;omega;omega;intro s' hs' hl')|((with_reducible apply ZQ);rfl;rfl;rfl;omega;omega;omega;intro s' hs' hl')|((with_reducible apply ZR);rfl) | refine GoH ?_|refine ZB rfl ?_|refine ZC rfl ?_
      exact ⟨_, rfl, ownT look_hd rfl⟩
    · have hx : l[i]? = some l[i] := List.getElem?_eq_getElem (by omega)
      have hx' : (l.map opD)[(i : Int).toNat]? = some (opD l[i]) := ops_at l hx
      have hsn := ents_snoc (part := partE) (f := f) (n := n) hx
      have hel := ents_len partE f n (l.take i)
      rw [List.length_take] at hel
      have h71 := T71_eq (n := n) (hpat l[i] (List.getElem_mem _))
      generalize entsOf partE f n (l.take i) = es at hsn hel
      generalize l[i] = o at hx hx' hsn h71
      obtain ⟨p, g, a⟩ := o
      replace hx' : (l.map opD)[(i : Int).toNat]? = some [.str p, .int .i64 g, .int .i64 a] := hx'
      replace h71 : T71 [.agg [.str p, .int .i64 g, .int .i64 a], .c (.str n)] = some (.c (.bool (hasOp partE n ⟨p, g, a⟩))) := h71
      have h72 := h72 g
      cases hh : hasOp partE n ⟨p, g, a⟩ with
      | false =>
        rw [hh] at h71 hsn
        simp only [Bool.false_eq_true, if_false, List.append_nil] at hsn
        repeat' first
          | refine GoH ?_
          | ((with_reducible apply Z1 (f := 63));rfl;rfl;rfl;exact h71;rfl)
          | refine ZB (ev_idx rfl rfl (by omega) hx' rfl) ?_
          | ((with_reducible first|apply ZD|apply ZE|apply ZF|apply ZG|apply ZH|apply ZI);rfl;rfl;all_goals (intro hc;first|(exfalso;omega)|skip))|((with_reducible first|apply ZJ|apply ZK);rfl;rfl;all_goals (intro hc;first|contradiction|skip))|((with_reducible first|apply ZL|apply ZM);rfl;rfl;omega;omega)|((with_reducible first|apply ZN|apply ZO);rfl;rfl;omega;omega;intro c hget hc)|((with_reducible apply ZP);rfl;(first|exact .inl rfl|assumption);rfl;rfl;omega;omega;omega;intro s' hs' hl')|((with_reducible apply ZQ);rfl;rfl;rfl;omega;omega;omega;intro s' hs' hl')|((with_reducible apply ZR);rfl)
          | refine GoH ?_|refine ZB rfl ?_|refine ZC rfl ?_
        refine hK _ (weak_keep [1, 2, 5, 6] rfl ⟨i + 1, by omega, by omega, ?_⟩)
        rw [hsn]
        rfl
      | true =>
        rw [hh] at h71 hsn
        simp only [if_true] at hsn
        repeat' first
          | refine GoH ?_
          | ((with_reducible apply Z1 (f := 63));rfl;rfl;rfl;exact h71;rfl)
          | refine ZB (ev_idx rfl rfl (by omega) hx' rfl) ?_
          | ((with_reducible first|apply ZD|apply ZE|apply ZF|apply ZG|apply ZH|apply ZI);rfl;rfl;all_goals (intro hc;first|(exfalso;omega)|skip))|((with_reducible first|apply ZJ|apply ZK);rfl;rfl;all_goals (intro hc;first|contradiction|skip))|((with_reducible first|apply ZL|apply ZM);rfl;rfl;omega;omega)|((with_reducible first|apply ZN|apply ZO);rfl;rfl;omega;omega;intro c hget hc)|((with_reducible apply ZP);rfl;(first|exact .inl rfl|assumption);rfl;rfl;omega;omega;omega;intro s' hs' hl')|((with_reducible apply ZQ);rfl;rfl;rfl;omega;omega;omega;intro s' hs' hl')|((with_reducible apply ZR);rfl)
          | refine GoH ?_|refine ZB rfl ?_|refine ZC rfl ?_
          | with_reducible apply ZS
          | refine dstep_all (fun _ => ev_idx rfl rfl (by omega) hx' rfl) ?_
          | refine ZY (ev_pcall rfl rfl h72 rfl rfl) (by (repeat' first|exact True.intro|refine ⟨?_, ?_⟩|exact .inl rfl|exact .inr (.inl rfl)|exact .inr (.inr rfl)|rfl)) ?_
          | refine ZZ (Z0 (ev_app_own rfl rfl look_hd rfl (by show es.length + 1 ≤ room; unfold room; omega) put_hd) ⟨rfl, rfl⟩) (by (repeat' first|exact True.intro|refine ⟨?_, ?_⟩|exact .inl rfl|exact .inr (.inl rfl)|exact .inr (.inr rfl)|rfl)) ?_
          | (with_reducible first|apply ZS|apply ZT)|((with_reducible apply ZU);rfl)|((with_reducible apply ZV);rfl;decide)|((with_reducible apply ZW);rfl)|refine ZX rfl rfl ?_|refine ZY rfl (by (repeat' first|exact True.intro|refine ⟨?_, ?_⟩|exact .inl rfl|exact .inr (.inl rfl)|exact .inr (.inr rfl)|rfl)) ?_|refine ZZ (Z0 rfl ⟨rfl, rfl⟩) (by (repeat' first|exact True.intro|refine ⟨?_, ?_⟩|exact .inl rfl|exact .inr (.inl rfl)|exact .inr (.inr rfl)|rfl)) ?_
        refine hK _ (weak_keep [1, 2, 5, 6] rfl ⟨i + 1, by omega, by omega, ?_⟩)
        rw [hsn]
        rfl
theorem pok54 (m : Int) : PureOk Go.Proofs.Tryd.prog (glb m) 36 T54 := .inl (fam_ok (fn54 m) (callOk_cons (pok71 m) (callOk_cons (pok72 m) (callOk_nil _ _))) w54)
theorem mem345 (k : Int) : memI [3, 4, 5] k = true ↔ k = 3 ∨ k = 4 ∨ k = 5 := by
  unfold memI idxI idxI idxI idxI
  split
  · simp_all
  · split
    · simp_all
    · split
      · simp_all
      · simp_all
theorem mem12 (k : Int) : memI [1, 2] k = true ↔ k = 1 ∨ k = 2 := by
  unfold memI idxI idxI idxI
  split
  · simp_all
  · split
    · simp_all
    · simp_all
noncomputable def T30 : List DV → Option DV := fam (fun x : (Nat × List Op3 × (Nat → Int)) × Tk5 => [.agg (envD x.1.1 x.1.2.1 x.1.2.2), .agg (tkD x.2)]) (fun x => patsOk x.1.2.1) (fun x => .c (.bool (leafB x.2.k (entsOf partE x.1.2.2 x.2.s x.1.2.1).isEmpty)))
theorem T30_eq {sz : Nat} {l : List Op3} {f : Nat → Int} (he : patsOk l) (t : Tk5) : T30 [.agg (envD sz l f), .agg (tkD t)] = some (.c (.bool (leafB t.k (entsOf partE f t.s l).isEmpty))) := by
  refine fam_eq (ι := (Nat × List Op3 × (Nat → Int)) × Tk5) ((sz, l, f), t) he ?_
  rintro ⟨⟨sz', l', f'⟩, t'⟩ _ e
  simp only [List.cons.injEq, DV.agg.injEq, and_true] at e
  obtain ⟨h1, h3⟩ := e
  obtain rfl := tkD_inj h3
  obtain ⟨rfl, h2⟩ := envD_inj h1
  simp only [entsOf]
  rw [List.map_congr_left (fun o _ => entD_eq h2 o)]
set_option maxRecDepth 8000 in
set_option maxHeartbeats 4000000 in
theorem w30 (x : (Nat × List Op3 × (Nat → Int)) × Tk5) (he : patsOk x.1.2.1) : awp (tbl [(36, T54)]) c30 (PureQ [.t 4] (.c (.bool (leafB x.2.k (entsOf partE x.1.2.2 x.2.s x.1.2.1).isEmpty)))) ⟨argE 0 (dvArgs [.agg (envD x.1.1 x.1.2.1 x.1.2.2), .agg (tkD x.2)]), ⟨0, []⟩⟩ := by
  obtain ⟨⟨sz, l, f⟩, ⟨k, a, b, s, e⟩⟩ := x
  simp only [leafB, tkD] at he ⊢
  have h54 := T54_eq (sz := sz) (f := f) he s
  generalize entsOf partE f s l = es at h54
  by_cases h3 : k = 3 ∨ k = 4 ∨ k = 5
  · rw [(mem345 k).2 h3, Bool.true_or]
    unfold c30
    rcases h3 with rfl | rfl | rfl <;> (repeat' first | refine GoH ?_ | ((with_reducible first|apply ZD|apply ZE|apply ZF|apply ZG|apply ZH|apply ZI);rfl;rfl;all_goals (intro hc;first|(exfalso;omega)|skip))|((with_reducible first|apply ZJ|apply ZK);rfl;rfl;all_goals (intro hc;first|contradiction|skip))|((with_reducible first|apply ZL|apply ZM);rfl;rfl;omega;omega)|((with_reducible first|apply ZN|apply ZO);rfl;rfl;omega;omega;intro c hget hc)|((with_reducible apply ZP);rfl;(first|exact .inl rfl|assumption);rfl;rfl;omega;omega;omega;intro s' hs' hl')|((with_reducible apply ZQ);rfl;rfl;rfl;omega;omega;omega;intro s' hs' hl')|((with_reducible apply ZR);rfl) | refine GoH ?_|refine ZB rfl ?_|refine ZC rfl ?_) <;> exact ⟨_, rfl, rfl⟩
  · rw [Bool.eq_false_iff.2 (fun h => h3 ((mem345 k).1 h)), Bool.false_or]
    by_cases h1 : k = 1 ∨ k = 2
    · rw [(mem12 k).2 h1, Bool.true_and]
      cases es with
      | nil =>
        unfold c30
        rcases h1 with rfl | rfl <;> (repeat' first | refine GoH ?_ | ((with_reducible apply Z1 (f := 36));rfl;rfl;rfl;exact h54;rfl) | refine GoH ?_|refine ZB rfl ?_|refine ZC rfl ?_) <;> exact ⟨_, rfl, rfl⟩
      | cons y q =>
        have hl : (((y :: q).length : Nat) : Int) ≠ 0 := by simp only [List.length_cons]; omega
        unfold c30
        rcases h1 with rfl | rfl <;> (repeat' first | refine GoH ?_ | ((with_reducible apply Z1 (f := 36));rfl;rfl;rfl;exact h54;rfl) | ((with_reducible first|apply ZD|apply ZE|apply ZF|apply ZG|apply ZH|apply ZI);rfl;rfl;all_goals (intro hc;first|(exfalso;omega)|skip))|((with_reducible first|apply ZJ|apply ZK);rfl;rfl;all_goals (intro hc;first|contradiction|skip))|((with_reducible first|apply ZL|apply ZM);rfl;rfl;omega;omega)|((with_reducible first|apply ZN|apply ZO);rfl;rfl;omega;omega;intro c hget hc)|((with_reducible apply ZP);rfl;(first|exact .inl rfl|assumption);rfl;rfl;omega;omega;omega;intro s' hs' hl')|((with_reducible apply ZQ);rfl;rfl;rfl;omega;omega;omega;intro s' hs' hl')|((with_reducible apply ZR);rfl) | refine GoH ?_|refine ZB rfl ?_|refine ZC rfl ?_) <;> exact ⟨_, rfl, rfl⟩
    · rw [Bool.eq_false_iff.2 (fun h => h1 ((mem12 k).1 h)), Bool.false_and]
      unfold c30
      repeat' first | refine GoH ?_ | ((with_reducible first|apply ZD|apply ZE|apply ZF|apply ZG|apply ZH|apply ZI);rfl;rfl;all_goals (intro hc;first|(exfalso;omega)|skip))|((with_reducible first|apply ZJ|apply ZK);rfl;rfl;all_goals (intro hc;first|contradiction|skip))|((with_reducible first|apply ZL|apply ZM);rfl;rfl;omega;omega)|((with_reducible first|apply ZN|apply ZO);rfl;rfl;omega;omega;intro c hget hc)|((with_reducible apply ZP);rfl;(first|exact .inl rfl|assumption);rfl;rfl;omega;omega;omega;intro s' hs' hl')|((with_reducible apply ZQ);rfl;rfl;rfl;omega;omega;omega;intro s' hs' hl')|((with_reducible apply ZR);rfl) | refine GoH ?_|refine ZB rfl ?_|refine ZC rfl ?_
      all_goals first | exact ⟨_, rfl, rfl⟩ | (exfalso; omega)
theorem pok30 (m : Int) : PureOk Go.Proofs.Tryd.prog (glb m) 17 T30 := .inl (fam_ok (fn30 m) (callOk_cons (pok54 m) (callOk_nil _ _)) w30)
end Go.Am
