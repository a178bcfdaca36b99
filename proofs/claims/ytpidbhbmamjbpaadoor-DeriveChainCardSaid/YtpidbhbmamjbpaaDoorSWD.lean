/-
  with: an env of some operators (the laws' of chapter 19).
-/
import Derived.Test.YtpidbhbmamjbpaaDoorSWC
import Derived.Test.YtpidbhbmamjbpaaDoorSMV
namespace Go.Am
open Go
def addTo (o : Op3) (l : List Op3) : List Op3 := if mayOf partE o.pat o.g o.a = 0 then (match addL o l with | some l' => l' | none => l) else l
def withL : List Op3 → List Op3 → List Op3
  | [], l => l
  | o :: r, l => withL r (addTo o l)
def zs (l : List Op3) : Nat := match l with | [] => 0 | _ => 3
theorem addL_len {o : Op3} {l l' : List Op3} (h : addL o l = some l') : l'.length ≤ l.length + 1 ∧ l' ≠ [] := by
  have hs : ∀ p : Op3 → Bool, (l.takeWhile p).length + (l.dropWhile p).length = l.length := fun p => by rw [← List.length_append, List.takeWhile_append_dropWhile]
  unfold addL at h
  have := hs (fun x => strLess x.pat o.pat)
  split at h
  · split at h
    · cases h
    · cases h
      refine ⟨?_, by simp⟩
      simp only [List.length_append, List.length_cons, List.length_nil]
      omega
  · rename_i x t hd
    rw [hd] at this
    simp only [List.length_cons] at this
    split at h
    · cases h
      refine ⟨?_, by simp⟩
      simp only [List.length_append, List.length_cons, List.length_nil]
      omega
    · split at h
      · cases h
      · cases h
        refine ⟨?_, by simp⟩
        simp only [List.length_append, List.length_cons, List.length_nil]
        omega
theorem addTo_len (o : Op3) (l : List Op3) : (addTo o l).length ≤ l.length + 1 := by
  unfold addTo
  split
  · cases h : addL o l with
    | none => simp
    | some l' => exact (addL_len h).1
  · omega
theorem startN_ok {l : List Op3} (h : l.length ≤ 1000) : EnvOk (zs l) l startF := by
  refine ⟨?_, h, ?_, ?_⟩
  · cases l with
    | nil => exact .inr rfl
    | cons _ _ => exact .inl rfl
  · exact fun x => start_ok.lt x
  · exact fun x hx => by show startF x = 0; unfold startF; rw [if_neg (by omega)]
theorem resV_one {env : Env} {nx y off n a : Nat} {ob : List (Nat × Ob)} {cs cs' : List C} (h1 : getV env a = .c (.ptr y off)) (h2 : look ob y = some (.cells cs)) (h3 : mkV true (sub cs off n) = some (.agg cs')) :
    resV ⟨env, ⟨nx, ob⟩⟩ [.cell a n true] = some (.agg cs') := by
  have e : eval noCall env ⟨nx, ob⟩ (.load (.t a) n true) = some (.agg cs', ⟨nx, ob⟩) := ev_load h1 h2 h3
  simp only [resV, resAll, resOne, e]
noncomputable def T311 : List DV → Option DV := fam (fun x : Nat × List Op3 => [.c (.list x.1 (x.2.map opD))]) (fun x => x.2.length ≤ 500) (fun x => .agg (envD (zs (withL x.2 [])) (withL x.2 []) (liftF startF)))
theorem T311_eq {sz : Nat} {L : List Op3} (h : L.length ≤ 500) : T311 [.c (.list sz (L.map opD))] = some (.agg (envD (zs (withL L [])) (withL L []) (liftF startF))) := by
  refine fam_eq (ι := Nat × List Op3) (sz, L) h ?_
  rintro ⟨sz', L'⟩ _ e
  simp only [List.cons.injEq, DV.c.injEq, D.list.injEq, and_true] at e
  rw [ops_inj e.2]
noncomputable def cl311 : Call := tbl [(12, G48), (13, T319)]
theorem addR_res (o : Op3) (l : List Op3) : ∃ (d0 : D) (rs : Nat → Int) (code : Int), addR o l startF = .tup [.agg (d0 :: rowsD rs), .c (.int .i64 code)] ∧ (code = 0 → d0 :: rowsD rs = envD (zs (addTo o l)) (addTo o l) (liftF startF)) ∧ (code ≠ 0 → addTo o l = l) := by
  unfold addR addTo
  by_cases hm : mayOf partE o.pat o.g o.a = 0
  · rw [if_neg (by simp [hm]), if_pos hm]
    cases h : addL o l with
    | none => exact ⟨.list 0 [], fun _ => 0, 5, rfl, fun h => absurd h (by decide), fun _ => rfl⟩
    | some l' =>
      have hne := (addL_len h).2
      refine ⟨.list 3 (l'.map opD), liftF startF, 0, rfl, fun _ => ?_, fun h => absurd rfl h⟩
      have : zs l' = 3 := by
        cases l' with
        | nil => exact absurd rfl hne
        | cons _ _ => rfl
      show _ = envD (zs l') l' (liftF startF)
      rw [this]
      rfl
  · rw [if_pos hm, if_neg hm]
    exact ⟨.list 0 [], fun _ => 0, _, rfl, fun h => absurd h hm, fun _ => rfl⟩
set_option maxRecDepth 8000 in
set_option maxHeartbeats 8000000 in
theorem w311 (x : Nat × List Op3) (hlen : x.2.length ≤ 500) : awp cl311 c311r (PureQ [.cell 2 11 true] (.agg (envD (zs (withL x.2 [])) (withL x.2 []) (liftF startF)))) ⟨argE 0 (dvArgs [.c (.list x.1 (x.2.map opD))]), ⟨0, []⟩⟩ := by
  obtain ⟨sz, L⟩ := x
  simp only at hlen ⊢
  have hml : (L.map opD).length = L.length := List.length_map ..
  have h48 : G48 [] = some (.agg (envD 0 [] (liftF startF))) := rfl
  unfold cl311 c311r
  unfold envD at h48
  repeat' first | refine GoH ?_ | ((with_reducible apply Z1 (f := 12));rfl;rfl;rfl;exact h48;rfl) | refine ZB rfl ?_|refine ZC rfl ?_
  refine awp_loop (fun q st => ∃ (i nx : Nat) (ob : List (Nat × Ob)) (l : List Op3), i ≤ L.length ∧ L.length - i < q ∧ 2 ≤ nx ∧ l.length ≤ i ∧ withL (L.drop i) l = withL L [] ∧ look ob 0 = some (.cells (.nil :: rowsC fun _ => 0)) ∧ look ob 1 = some (.cells (.d (.list (zs l) (l.map opD)) :: rowsC (liftF startF))) ∧
    st = ⟨[(0, .c (.d (.list sz (L.map opD)))), (2, .c (.ptr 0 0)), (3, .c (.ptr 1 0)), (4, .c (.d (.int .i64 (i : Nat))))], ⟨nx, ob⟩⟩) (L.length + 1) ?_ (by rintro st ⟨i, _, _, _, _, h, _⟩; omega) ?_
  · exact weak_keep [0, 2, 3, 4] rfl ⟨0, 2, _, [], by omega, by omega, by omega, Nat.le_refl _, rfl, rfl, rfl, rfl⟩
  · rintro q K hK st ⟨i, nx, ob, l, hi, hq, hnx, hll, hw, g0, g1, rfl⟩
    by_cases hend : i = L.length
    · subst hend
      rw [List.drop_length] at hw
      have hw : l = withL L [] := hw
      rw [hw] at g1
      repeat' first
        | refine GoH ?_
        | refine ZB (ev_lss_f rfl rfl (by omega)) ?_
        | refine ZB (ev_load rfl g1 rfl) ?_
        | ((with_reducible apply step_storeA); rfl; rfl; rfl; exact g0; rfl; intro ob2 hb2 hk2)
        | refine ZB rfl ?_|refine ZC rfl ?_
      exact ⟨_, resV_one rfl hb2 rfl, rfl⟩
    · have hlt : i < L.length := by omega
      have hop : L[i]? = some L[i] := List.getElem?_eq_getElem hlt
      have hop' : (L.map opD)[((i : Nat) : Int).toNat]? = some (opD L[i]) := ops_at L hop
      have hdr : L.drop i = L[i] :: L.drop (i + 1) := List.drop_eq_getElem_cons hlt
      rw [hdr] at hw
      have h319 := T319_eq (startN_ok (l := l) (by omega)) (o := L[i])
      have hal := addTo_len L[i] l
      have hw2 : withL (L.drop (i + 1)) (addTo L[i] l) = withL L [] := hw
      obtain ⟨d0, rs, code, hr, hz, hnz⟩ := addR_res L[i] l
      rw [hr] at h319
      clear hw
      generalize L[i] = o at *
      obtain ⟨pat, g, a⟩ := o
      unfold envD at h319
      have k1 : ∀ {x : Ob}, look ((nx, x) :: ob) 1 = look ob 1 := look_tl (by omega) rfl
      by_cases hc : code = 0
      · have hz := hz hc
        have hz' : d0 = .list (zs (addTo ⟨pat, g, a⟩ l)) ((addTo ⟨pat, g, a⟩ l).map opD) := by
          unfold envD at hz
          injection hz
        have hz2 : rowsD rs = rowsD (liftF startF) := by
          unfold envD at hz
          injection hz
        have hrs : rowsC rs = rowsC (liftF startF) := by unfold rowsC; rw [hz2]
        repeat' first
          | refine GoH ?_
          | refine ZB (ev_lss_t rfl rfl (by omega)) ?_
          | (with_reducible first | apply ZS | apply ZT)
          | refine ZY (ev_load rfl g1 rfl) (by (repeat' first|exact True.intro|refine ⟨?_, ?_⟩|exact .inl rfl|exact .inr (.inl rfl)|exact .inr (.inr rfl)|rfl)) ?_
          | refine ZY (ev_idx rfl rfl (by omega) hop' rfl) (by (repeat' first|exact True.intro|refine ⟨?_, ?_⟩|exact .inl rfl|exact .inr (.inl rfl)|exact .inr (.inr rfl)|rfl)) ?_
          | refine ZY (ev_pcall rfl rfl h319 rfl (by split <;> rfl)) (by (repeat' first|exact True.intro|refine ⟨?_, ?_⟩|exact .inl rfl|exact .inr (.inl rfl)|exact .inr (.inr rfl)|rfl)) ?_
          | (with_reducible first|apply ZS|apply ZT)|((with_reducible apply ZU);rfl)|((with_reducible apply ZV);rfl;decide)|((with_reducible apply ZW);rfl)|refine ZX rfl rfl ?_|refine ZY rfl (by (repeat' first|exact True.intro|refine ⟨?_, ?_⟩|exact .inl rfl|exact .inr (.inl rfl)|exact .inr (.inr rfl)|rfl)) ?_
          | refine ZZ (Z0 rfl ⟨rfl, rfl⟩) (by
              repeat' first
                | exact True.intro
                | refine ⟨?_, ?_⟩
                | exact .inl rfl
                | exact .inr (.inl rfl)
                | exact .inr (.inr (ev_load rfl (k1.trans g1) rfl))
                | exact .inr (.inr (ev_idx rfl rfl (by omega) hop' rfl))
                | exact .inr (.inr (ev_pcall rfl rfl h319 rfl (by split <;> rfl)))
                | exact .inr (.inr rfl)) ?_
          | refine ZZ (Z0 (ev_store rfl rfl rfl look_hd rfl put_hd) ⟨rfl, rfl⟩) (by (repeat' first|exact True.intro|refine ⟨?_, ?_⟩|exact .inl rfl|exact .inr (.inl rfl)|exact .inr (.inr rfl)|rfl)) ?_
          | refine ZB (ev_eql_t rfl rfl hc) ?_
          | refine ZB (ev_load rfl look_hd rfl) ?_
          | ((with_reducible apply step_storeA); rfl; rfl; rfl; exact k1.trans g1; rfl; intro ob2 hb2 hk2)
          | refine ZB (ev_add rfl rfl (by omega) (by omega)) ?_
          | refine ZB rfl ?_|refine ZC rfl ?_
        exact hK _ (weak_keep [0, 2, 3, 4] rfl ⟨i + 1, nx + 1, ob2, addTo ⟨pat, g, a⟩ l, by omega, by omega, by omega, by omega, hw2, (hk2 0 (by omega)).trans ((look_tl (by omega) rfl).trans g0), by rw [hb2, ← hz', ← hrs]; rfl, rfl⟩)
      · have hnz := hnz hc
        rw [hnz] at hw2
        repeat' first
          | refine GoH ?_
          | refine ZB (ev_lss_t rfl rfl (by omega)) ?_
          | (with_reducible first | apply ZS | apply ZT)
          | refine ZY (ev_load rfl g1 rfl) (by (repeat' first|exact True.intro|refine ⟨?_, ?_⟩|exact .inl rfl|exact .inr (.inl rfl)|exact .inr (.inr rfl)|rfl)) ?_
          | refine ZY (ev_idx rfl rfl (by omega) hop' rfl) (by (repeat' first|exact True.intro|refine ⟨?_, ?_⟩|exact .inl rfl|exact .inr (.inl rfl)|exact .inr (.inr rfl)|rfl)) ?_
          | refine ZY (ev_pcall rfl rfl h319 rfl (by split <;> rfl)) (by (repeat' first|exact True.intro|refine ⟨?_, ?_⟩|exact .inl rfl|exact .inr (.inl rfl)|exact .inr (.inr rfl)|rfl)) ?_
          | (with_reducible first|apply ZS|apply ZT)|((with_reducible apply ZU);rfl)|((with_reducible apply ZV);rfl;decide)|((with_reducible apply ZW);rfl)|refine ZX rfl rfl ?_|refine ZY rfl (by (repeat' first|exact True.intro|refine ⟨?_, ?_⟩|exact .inl rfl|exact .inr (.inl rfl)|exact .inr (.inr rfl)|rfl)) ?_
          | refine ZZ (Z0 rfl ⟨rfl, rfl⟩) (by
              repeat' first
                | exact True.intro
                | refine ⟨?_, ?_⟩
                | exact .inl rfl
                | exact .inr (.inl rfl)
                | exact .inr (.inr (ev_load rfl (k1.trans g1) rfl))
                | exact .inr (.inr (ev_idx rfl rfl (by omega) hop' rfl))
                | exact .inr (.inr (ev_pcall rfl rfl h319 rfl (by split <;> rfl)))
                | exact .inr (.inr rfl)) ?_
          | refine ZZ (Z0 (ev_store rfl rfl rfl look_hd rfl put_hd) ⟨rfl, rfl⟩) (by (repeat' first|exact True.intro|refine ⟨?_, ?_⟩|exact .inl rfl|exact .inr (.inl rfl)|exact .inr (.inr rfl)|rfl)) ?_
          | refine ZB (ev_eql_f rfl rfl hc) ?_
          | refine ZB (ev_add rfl rfl (by omega) (by omega)) ?_
          | refine ZB rfl ?_|refine ZC rfl ?_
        exact hK _ (weak_keep [0, 2, 3, 4] rfl ⟨i + 1, nx + 1, _, l, by omega, by omega, by omega, by omega, hw2, (look_tl (by omega) rfl).trans g0, k1.trans g1, rfl⟩)
theorem pok311 {m : Int} (h42 : PureOk Go.Proofs.Tryd.prog (glb m) 27 (G42 partE)) : PureOk Go.Proofs.Tryd.prog (glb m) 7 T311 := .inl (fam_ok (fn311r m) (callOk_cons (pok48 m) (callOk_cons (pok319 h42) (callOk_nil _ _))) w311)
end Go.Am
