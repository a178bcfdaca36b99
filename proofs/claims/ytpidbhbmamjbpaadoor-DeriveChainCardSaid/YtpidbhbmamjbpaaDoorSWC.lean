/-
  env.Add of the program.
-/
import Derived.Test.YtpidbhbmamjbpaaDoorSWB
import Derived.Test.YtpidbhbmamjbpaaDoorSV2
import Derived.Test.YtpidbhbmamjbpaaDoorSCF
import Derived.Test.YtpidbhbmamjbpaaDoorSNC
namespace Go.Am
open Go
section
variable {cl : Call} {d : Nat} {r : List AOper} {K : St → Prop} {env : Env} {nx : Nat} {ob : List (Nat × Ob)}
theorem step_vR {f : Opd} {g : Nat} {caps : List C} {args : List Opd} {T : List V → Hp → (V → Hp → Prop) → Prop} {R : V → Hp → Prop} (hx : ev env f = .c (.clo g caps)) (hT : cl.heap g = some T)
    (one : ∀ xs h K, T xs h K → ∃ v h', K v h' ∧ ∀ K' : V → Hp → Prop, K' v h' → T xs h K') (hR : T (evs env args ++ caps.map V.c) ⟨nx, ob⟩ R) (hk : ∀ v nx' ob', R v ⟨nx', ob'⟩ → opsWp cl r K ⟨(d, v) :: env, ⟨nx', ob'⟩⟩) :
    opsWp cl (⟨some d, .vcall f args, none⟩ :: r) K ⟨env, ⟨nx, ob⟩⟩ := by
  obtain ⟨v, ⟨nx', ob'⟩, k1, k2⟩ := one _ _ _ hR
  exact step_vclo hx hT (k2 _ (hk v nx' ob' k1))
end
def RV (nx : Nat) (ob : List (Nat × Ob)) (v0 : V) (v : V) (h : Hp) : Prop := v = v0 ∧ nx ≤ h.next ∧ ∀ y, y < nx → look h.obs y = look ob y
def lessP (o x : Op3) : Bool := strLess x.pat o.pat
set_option maxRecDepth 8000 in
theorem w331 {cl : Call} {x o : Op3} {y nx : Nat} {ob : List (Nat × Ob)} (hy : look ob y = some (.cells ((opD o).map .d))) (hn : y < nx) :
    wpOf cl c331r [.t 3] [.agg ((opD x).map .d), .c (.ptr y 0)] ⟨nx, ob⟩ (RV nx ob (.c (.d (.bool (!lessP o x))))) := by
  obtain ⟨p, g, a⟩ := x
  obtain ⟨p', g', a'⟩ := o
  unfold wpOf c331r lessP
  repeat' first
    | refine GoH ?_
    | ((with_reducible apply step_boxA); rfl; intro ob' hb hk; have hy' := (hk y hn).trans hy)
    | refine ZB (ev_load rfl hb rfl) ?_
    | refine ZB (ev_load rfl hy' rfl) ?_
    | refine ZB rfl ?_|refine ZC rfl ?_
  exact ⟨_, rfl, rfl, Nat.le_succ _, hk⟩
noncomputable def cl330 : Call := tblh [] [(29, wpOf (tblh [] []) c331r [.t 3])]
theorem fine0 : Fine (tblh [] []) := fine_nil _
theorem fine330 : Fine cl330 := fine_cons (fun _ _ _ hk => wpOf_one fine0 hk) (fine_nil _)
def R330 (o : Op3) (l : List Op3) (nx : Nat) (ob : List (Nat × Ob)) (v : V) (h : Hp) : Prop :=
  ((v = .c (.d (.int .i64 (-1))) ∧ ∀ x ∈ l, lessP o x = true) ∨ (∃ k x, v = .c (.d (.int .i64 (k : Nat))) ∧ l[k]? = some x ∧ (∀ y ∈ l.take k, lessP o y = true) ∧ lessP o x = false)) ∧ nx ≤ h.next ∧ ∀ y, y < nx → look h.obs y = look ob y
theorem R330_int {o : Op3} {l : List Op3} {nx : Nat} {ob : List (Nat × Ob)} {v : V} {h : Hp} (hR : R330 o l nx ob v h) : ∃ q : Int, v = .c (.d (.int .i64 q)) := by
  rcases hR.1 with ⟨h, _⟩ | ⟨k, _, h, _⟩
  · exact ⟨_, h⟩
  · exact ⟨_, h⟩
set_option maxRecDepth 8000 in
set_option maxHeartbeats 2000000 in
theorem w330 {sz : Nat} {l : List Op3} {o : Op3} {y nx : Nat} {ob : List (Nat × Ob)} (hl : l.length ≤ 1000) (hy : look ob y = some (.cells ((opD o).map .d))) (hn : y < nx) :
    wpOf cl330 c330r [.t 4] [.c (.d (.list sz (l.map opD))), .c (.clo 29 [.ptr y 0])] ⟨nx, ob⟩ (R330 o l nx ob) := by
  have hml : (l.map opD).length = l.length := List.length_map ..
  unfold wpOf c330r
  repeat' first | refine GoH ?_ | refine ZB rfl ?_|refine ZC rfl ?_
  refine awp_loop (fun q st => ∃ (i nx1 : Nat) (ob1 : List (Nat × Ob)), i ≤ l.length ∧ l.length - i < q ∧ nx ≤ nx1 ∧ (∀ z, z < nx → look ob1 z = look ob z) ∧ (∀ x ∈ l.take i, lessP o x = true) ∧
    st = ⟨[(0, .c (.d (.list sz (l.map opD)))), (1, .c (.clo 29 [.ptr y 0])), (7, .c (.d (.int .i64 ((l.map opD).length : Nat)))), (8, .c (.d (.int .i64 (i : Nat))))], ⟨nx1, ob1⟩⟩) (l.length + 1) ?_ (by rintro st ⟨i, _, _, _, h, _⟩; omega) ?_
  · exact weak_keep [0, 1, 7, 8] rfl ⟨0, nx, ob, by omega, by omega, Nat.le_refl _, fun _ _ => rfl, fun x hx => by simp at hx, rfl⟩
  · rintro q K hK st ⟨i, nx1, ob1, hi, hq, hnx, hkeep, hless, rfl⟩
    by_cases hend : i = l.length
    · subst hend
      rw [List.take_length] at hless
      repeat' first | refine GoH ?_ | refine ZB (ev_lss_f rfl rfl (by omega)) ?_ | refine ZB rfl ?_|refine ZC rfl ?_
      exact ⟨_, rfl, .inl ⟨rfl, hless⟩, hnx, hkeep⟩
    · have hlt : i < l.length := by omega
      have hx : l[i]? = some l[i] := List.getElem?_eq_getElem hlt
      have hx' : (l.map opD)[((i : Nat) : Int).toNat]? = some (opD l[i]) := ops_at l hx
      have hc := w331 (cl := tblh [] []) (x := l[i]) (o := o) ((hkeep y hn).trans hy) (show y < nx1 by omega)
      have htake : ∀ b, lessP o l[i] = b → b = true → ∀ x ∈ l.take (i + 1), lessP o x = true := fun b hb hb2 x hx2 => by
        rw [List.take_add_one, hx] at hx2
        rcases List.mem_append.1 hx2 with h | h
        · exact hless x h
        · have : x = l[i] := by simpa using h
          rw [this, hb, hb2]
      generalize hb : lessP o l[i] = b at hc htake
      generalize l[i] = x at hc hx hx' hb
      obtain ⟨p, g, a⟩ := x
      cases b
      · repeat' first
          | refine GoH ?_
          | refine ZB (ev_lss_t rfl rfl (by omega)) ?_
          | refine ZB (ev_idx rfl rfl (by omega) hx' rfl) ?_
          | ((with_reducible apply step_vR); rfl; rfl; exact fun _ _ _ hk => wpOf_one fine0 hk; exact hc; rintro v nx2 ob2 ⟨rfl, e2, e3⟩; simp only at e2 e3)
          | refine ZB rfl ?_|refine ZC rfl ?_
        exact ⟨_, rfl, .inr ⟨i, _, rfl, hx, hless, hb⟩, (by show nx ≤ nx2; omega), fun z hz => (e3 z (by omega)).trans (hkeep z hz)⟩
      · repeat' first
          | refine GoH ?_
          | refine ZB (ev_lss_t rfl rfl (by omega)) ?_
          | refine ZB (ev_idx rfl rfl (by omega) hx' rfl) ?_
          | ((with_reducible apply step_vR); rfl; rfl; exact fun _ _ _ hk => wpOf_one fine0 hk; exact hc; rintro v nx2 ob2 ⟨rfl, e2, e3⟩; simp only at e2 e3)
          | refine ZB (ev_add rfl rfl (by omega) (by omega)) ?_
          | refine ZB rfl ?_|refine ZC rfl ?_
        exact hK _ (weak_keep [0, 1, 7, 8] rfl ⟨i + 1, nx2, ob2, by omega, by omega, by omega, fun z hz => (e3 z (by omega)).trans (hkeep z hz), htake _ rfl rfl, rfl⟩)
noncomputable def cl319 : Call := tblh [(27, G42 partE)] [(28, wpOf cl330 c330r [.t 4]), (30, T332), (31, T333)]
theorem T332_one : ∀ xs h K, T332 xs h K → ∃ v h', K v h' ∧ ∀ K' : V → Hp → Prop, K' v h' → T332 xs h K' := by
  intro xs h K hT
  unfold T332 at hT ⊢
  split at hT
  · exact ⟨_, _, hT.2.2, fun K' hk => ⟨hT.1, hT.2.1, hk⟩⟩
  · exact hT.elim
theorem T333_one : ∀ xs h K, T333 xs h K → ∃ v h', K v h' ∧ ∀ K' : V → Hp → Prop, K' v h' → T333 xs h K' := by
  intro xs h K hT
  unfold T333 at hT ⊢
  split at hT
  · obtain ⟨l, o, ob', k, h1, h2, h3, h4, h5, h6, h7, h8, h9, h10⟩ := hT
    exact ⟨_, _, h10, fun K' hk => ⟨l, o, ob', k, h1, h2, h3, h4, h5, h6, h7, h8, h9, hk⟩⟩
  · exact hT.elim
theorem fine319 : Fine cl319 := fine_cons (fun _ _ _ hk => wpOf_one fine330 hk) (fine_cons T332_one (fine_cons T333_one (fine_nil _)))
def envC (sz : Nat) (l : List Op3) (r : Nat → Nat) : List C := .d (.list sz (l.map opD)) :: rowsC (liftF r)
theorem addR_0 {o : Op3} {l : List Op3} {r : Nat → Nat} (hm : mayOf partE o.pat o.g o.a = 0) : addR o l r = match addL o l with
    | none => .tup [.agg zeroEnv, .c (.int .i64 5)]
    | some l' => .tup [.agg (envD 3 l' (liftF r)), .c (.int .i64 0)] := by
  unfold addR
  rw [if_neg (by rw [hm]; simp)]
  cases addL o l <;> rfl
theorem resV_cell {env : Env} {nx y off n t a : Nat} {ob : List (Nat × Ob)} {cs cs' : List C} {v : V} (h1 : getV env a = .c (.ptr y off)) (h2 : look ob y = some (.cells cs)) (h3 : mkV true (sub cs off n) = some (.agg cs')) (h4 : getV env t = v) :
    resV ⟨env, ⟨nx, ob⟩⟩ [.cell a n true, .t t] = some (.tup [.agg cs', v]) := by
  have e : eval noCall env ⟨nx, ob⟩ (.load (.t a) n true) = some (.agg cs', ⟨nx, ob⟩) := ev_load h1 h2 h3
  simp only [resV, resAll, resOne, e, h4]
theorem set_take {α : Type} {l : List α} {k : Nat} {x y : α} (h : l[k]? = some x) : l.set k y = l.take k ++ y :: l.drop (k + 1) := by
  obtain ⟨hlt, _⟩ := List.getElem?_eq_some_iff.1 h
  apply List.ext_getElem?
  intro j
  rw [List.getElem?_set]
  by_cases hj : k = j
  · subst hj
    rw [if_pos rfl, if_pos hlt, List.getElem?_append_right (by rw [List.length_take]; omega), List.length_take, show k - min k l.length = 0 by omega]
    rfl
  · rw [if_neg hj]
    by_cases hjk : j < k
    · rw [List.getElem?_append_left (by rw [List.length_take]; omega), List.getElem?_take, if_pos hjk]
    · rw [List.getElem?_append_right (by rw [List.length_take]; omega), List.length_take, show j - min k l.length = (j - k - 1) + 1 by omega, List.getElem?_cons_succ, List.getElem?_drop]
      congr 1
      omega
set_option maxRecDepth 8000 in
set_option maxHeartbeats 8000000 in
theorem w319t {sz : Nat} {l : List Op3} {r : Nat → Nat} {o : Op3} (he : EnvOk sz l r) (hm : mayOf partE o.pat o.g o.a = 0) {k nx z : Nat} {ob : List (Nat × Ob)} (hk : k ≤ l.length) (ht : l.takeWhile (lessP o) = l.take k) (hd : l.dropWhile (lessP o) = l.drop k)
    (hz : 3 ≤ z) (hzn : z < nx) (h0 : look ob 0 = some (.cells (envC sz l r))) (h1 : look ob 1 = some (.cells ((opD o).map .d))) (h2 : look ob 2 = some (.cells (.nil :: rowsC fun _ => 0))) (h3 : look ob z = some (.row 3 (l.map opD))) :
    awp cl319 (c319r.tail 5) (PureQ [.cell 4 11 true, .t 5] (addR o l r)) ⟨[(2, .c (.ptr 0 0)), (3, .c (.ptr 1 0)), (4, .c (.ptr 2 0)), (7, .c (.d (.int .i64 (k : Nat)))), (8, .c (.own z (l.map opD).length))], ⟨nx, ob⟩⟩ := by
  have hlen := he.len
  have hml : (l.map opD).length = l.length := List.length_map ..
  rw [addR_0 hm]
  have e1 : addL o l = match l.drop k with
    | [] => if 16 ≤ l.length then none else some (l.take k ++ [o] ++ [])
    | x :: t => if x.pat = o.pat then some (l.take k ++ [o] ++ t) else if 16 ≤ l.length then none else some (l.take k ++ [o] ++ x :: t) := by
    have ht' : l.takeWhile (fun x => strLess x.pat o.pat) = l.take k := ht
    have hd' : l.dropWhile (fun x => strLess x.pat o.pat) = l.drop k := hd
    unfold addL
    rw [ht', hd']
    cases l.drop k <;> rfl
  by_cases hsame : ∃ x, l[k]? = some x ∧ x.pat = o.pat
  · obtain ⟨x, hx, hp⟩ := hsame
    have hlt : k < l.length := (List.getElem?_eq_some_iff.1 hx).1
    have hdr : l.drop k = x :: l.drop (k + 1) := by
      have e : l[k] = x := Option.some.inj ((List.getElem?_eq_getElem hlt).symm.trans hx)
      rw [← e]
      exact List.drop_eq_getElem_cons hlt
    have hx' : (l.map opD)[k]? = some (opD x) := by rw [List.getElem?_map, hx]; rfl
    have hset := set_take (y := o) hx
    rw [hdr] at e1
    obtain ⟨p', g', a'⟩ := x
    obtain ⟨pat, g, a⟩ := o
    simp only at e1 hm hp
    rw [if_pos hp] at e1
    rw [e1]
    obtain ⟨ob1, hp1⟩ := put_of_look (.row 3 ((l.map opD).set k (opD ⟨pat, g, a⟩))) h3
    have g0 : look ob1 0 = some (.cells (envC sz l r)) := (look_put_other hp1 (by omega)).trans h0
    have g2 : look ob1 2 = some (.cells (.nil :: rowsC fun _ => 0)) := (look_put_other hp1 (by omega)).trans h2
    have g3 : look ob1 z = some (.row 3 ((l.map opD).set k (opD ⟨pat, g, a⟩))) := look_put_same hp1
    have hres : (l.take k ++ [(⟨pat, g, a⟩ : Op3)] ++ l.drop (k + 1)).map opD = (l.map opD).set k (opD ⟨pat, g, a⟩) := by rw [← List.map_set, hset]; simp
    have hsl : ((l.map opD).set k (opD ⟨pat, g, a⟩)).length = (l.map opD).length := List.length_set
    simp only [opD] at h1
    unfold cl319 c319r
    dsimp only [ACode.tail]
    repeat' first
      | refine GoH ?_
      | ((with_reducible apply step_storeA); rfl; rfl; rfl; exact g2; rfl; intro ob2 hb2 hk2)
      | refine ZB (ev_load rfl h1 rfl) ?_
      | refine ZB (ev_load rfl g0 rfl) ?_
      | refine ZB (ev_idx_own k rfl rfl rfl h3 rfl (by omega)) ?_
      | refine ZC (ev_store_own rfl rfl rfl rfl rfl h3 rfl hx' rfl hp1) ?_
      | (with_reducible first | apply ZS | apply ZT)
      | refine ZY (ev_len_own rfl h3 rfl) (by (repeat' first|exact True.intro|refine ⟨?_, ?_⟩|exact .inl rfl|exact .inr (.inl rfl)|exact .inr (.inr rfl)|rfl)) ?_
      | refine ZX rfl (ev_lss_t rfl rfl (by omega)) ?_
      | refine ZY (ev_idx_own k rfl rfl rfl h3 rfl (by omega)) (by (repeat' first|exact True.intro|refine ⟨?_, ?_⟩|exact .inl rfl|exact .inr (.inl rfl)|exact .inr (.inr rfl)|rfl)) ?_
      | refine ZY (ev_load_own rfl h3 rfl hx' rfl) (by (repeat' first|exact True.intro|refine ⟨?_, ?_⟩|exact .inl rfl|exact .inr (.inl rfl)|exact .inr (.inr rfl)|rfl)) ?_
      | refine ZY (ev_load rfl h1 rfl) (by (repeat' first|exact True.intro|refine ⟨?_, ?_⟩|exact .inl rfl|exact .inr (.inl rfl)|exact .inr (.inr rfl)|rfl)) ?_
      | refine ZX rfl (ev_eqs_t rfl rfl hp) ?_
      | (with_reducible first|apply ZS|apply ZT)|((with_reducible apply ZU);rfl)|((with_reducible apply ZV);rfl;decide)|((with_reducible apply ZW);rfl)|refine ZX rfl rfl ?_|refine ZY rfl (by (repeat' first|exact True.intro|refine ⟨?_, ?_⟩|exact .inl rfl|exact .inr (.inl rfl)|exact .inr (.inr rfl)|rfl)) ?_
      | refine ZB rfl ?_|refine ZC rfl ?_
    refine ⟨_, resV_cell rfl hb2 rfl rfl, ?_⟩
    have e2 := envT (h := ⟨nx, ob2⟩) (n := (l.map opD).length) (liftF r) (d := .int .i64 0) ((hk2 z (by omega)).trans g3) hsl.symm
    refine e2.trans ?_
    unfold envD
    rw [hres]
  · have hor : k = l.length ∨ ∃ x, k < l.length ∧ (l.map opD)[k]? = some (opD x) ∧ x.pat ≠ o.pat := by
      by_cases hkl : k = l.length
      · exact .inl hkl
      · have hlt : k < l.length := by omega
        exact .inr ⟨l[k], hlt, by rw [List.getElem?_map, List.getElem?_eq_getElem hlt]; rfl, fun h => hsame ⟨l[k], List.getElem?_eq_getElem hlt, h⟩⟩
    have e2 : addL o l = if 16 ≤ l.length then none else some (l.take k ++ o :: l.drop k) := by
      rw [e1]
      cases hdr : l.drop k with
      | nil => simp
      | cons x t =>
        have hx : l[k]? = some x := by rw [← List.head?_drop, hdr]; rfl
        simp only
        rw [if_neg fun h => hsame ⟨x, hx, h⟩]
        simp
    clear e1 hsame
    by_cases h16 : 16 ≤ l.length
    · rw [if_pos h16] at e2
      rw [e2]
      obtain ⟨pat, g, a⟩ := o
      simp only [opD] at h1
      unfold cl319 c319r
      dsimp only [ACode.tail]
      rcases hor with hkl | ⟨⟨p', g', a'⟩, hlt, hx', hp⟩
      all_goals repeat' first
        | refine GoH ?_
        | ((with_reducible apply step_storeA); rfl; rfl; rfl; exact h2; rfl; intro ob2 hb2 hk2)
        | refine ZB (ev_len_own rfl h3 rfl) ?_
        | refine ZB (ev_geq_t rfl rfl (by omega)) ?_
        | (with_reducible first | apply ZS | apply ZT)
        | refine ZY (ev_len_own rfl h3 rfl) (by (repeat' first|exact True.intro|refine ⟨?_, ?_⟩|exact .inl rfl|exact .inr (.inl rfl)|exact .inr (.inr rfl)|rfl)) ?_
        | refine ZX rfl (ev_lss_f rfl rfl (by omega)) ?_
        | refine ZX rfl (ev_lss_t rfl rfl (by omega)) ?_
        | refine ZY (ev_idx_own k rfl rfl rfl h3 rfl (by omega)) (by (repeat' first|exact True.intro|refine ⟨?_, ?_⟩|exact .inl rfl|exact .inr (.inl rfl)|exact .inr (.inr rfl)|rfl)) ?_
        | refine ZY (ev_load_own rfl h3 rfl hx' rfl) (by (repeat' first|exact True.intro|refine ⟨?_, ?_⟩|exact .inl rfl|exact .inr (.inl rfl)|exact .inr (.inr rfl)|rfl)) ?_
        | refine ZY (ev_load rfl h1 rfl) (by (repeat' first|exact True.intro|refine ⟨?_, ?_⟩|exact .inl rfl|exact .inr (.inl rfl)|exact .inr (.inr rfl)|rfl)) ?_
        | refine ZX rfl (ev_eqs_f rfl rfl hp) ?_
        | (with_reducible first|apply ZS|apply ZT)|((with_reducible apply ZU);rfl)|((with_reducible apply ZV);rfl;decide)|((with_reducible apply ZW);rfl)|refine ZX rfl rfl ?_|refine ZY rfl (by (repeat' first|exact True.intro|refine ⟨?_, ?_⟩|exact .inl rfl|exact .inr (.inl rfl)|exact .inr (.inr rfl)|rfl)) ?_
        | refine ZB rfl ?_|refine ZC rfl ?_
      all_goals exact ⟨_, resV_cell rfl hb2 rfl rfl, rfl⟩
    · rw [if_neg h16] at e2
      rw [e2]
      have h3' : look ((nx, Ob.row 3 [opD o]) :: ob) z = some (.row 3 (l.map opD)) := (look_tl (by omega) rfl).trans h3
      obtain ⟨ob1, hp1⟩ := put_of_look (.row 3 ((l.map opD).take k ++ opD o :: (l.map opD).drop k)) h3'
      have g0 : look ob1 0 = some (.cells (envC sz l r)) := (look_put_other hp1 (by omega)).trans ((look_tl (by omega) rfl).trans h0)
      have g1 : look ob1 1 = some (.cells ((opD o).map .d)) := (look_put_other hp1 (by omega)).trans ((look_tl (by omega) rfl).trans h1)
      have g2 : look ob1 2 = some (.cells (.nil :: rowsC fun _ => 0)) := (look_put_other hp1 (by omega)).trans ((look_tl (by omega) rfl).trans h2)
      have g3 : look ob1 z = some (.row 3 ((l.map opD).take k ++ opD o :: (l.map opD).drop k)) := look_put_same hp1
      have hT : ∀ K : V → Hp → Prop, K (.c (.own z ((l.map opD).length + 1))) ⟨nx + 1, ob1⟩ → T333 [.c (.own z (l.map opD).length), .c (.d (.int .i64 (k : Nat))), .c (.own nx 1)] ⟨nx + 1, (nx, .row 3 [opD o]) :: ob⟩ K := fun K hK => ⟨l.map opD, opD o, ob1, k, h3', look_hd, by omega, rfl, rfl, rfl, by rw [hml]; exact hk, by rw [hml]; unfold room; omega, hp1, hK⟩
      have hres : (l.take k ++ o :: l.drop k).map opD = (l.map opD).take k ++ opD o :: (l.map opD).drop k := by rw [List.map_append, List.map_cons, List.map_take, List.map_drop]
      have hnl : (l.map opD).length + 1 = ((l.map opD).take k ++ opD o :: (l.map opD).drop k).length := by
        simp only [List.length_append, List.length_take, List.length_cons, List.length_drop]; omega
      obtain ⟨pat, g, a⟩ := o
      simp only [opD] at h1 g1 hT g3
      unfold cl319 c319r
      dsimp only [ACode.tail]
      rcases hor with hkl | ⟨⟨p', g', a'⟩, hlt, hx', hp⟩
      all_goals repeat' first
        | refine GoH ?_
        | ((with_reducible apply step_storeA); rfl; rfl; rfl; exact g2; rfl; intro ob2 hb2 hk2)
        | ((with_reducible apply step_hcall); rfl; refine hT _ ?_)
        | refine ZB (ev_load rfl h1 rfl) ?_
        | refine ZB (ev_load rfl g0 rfl) ?_
        | refine ZB (ev_len_own rfl h3 rfl) ?_
        | refine ZB (ev_geq_f rfl rfl (by omega)) ?_
        | (with_reducible first | apply ZS | apply ZT)
        | refine ZY (ev_len_own rfl h3 rfl) (by (repeat' first|exact True.intro|refine ⟨?_, ?_⟩|exact .inl rfl|exact .inr (.inl rfl)|exact .inr (.inr rfl)|rfl)) ?_
        | refine ZX rfl (ev_lss_f rfl rfl (by omega)) ?_
        | refine ZX rfl (ev_lss_t rfl rfl (by omega)) ?_
        | refine ZY (ev_idx_own k rfl rfl rfl h3 rfl (by omega)) (by (repeat' first|exact True.intro|refine ⟨?_, ?_⟩|exact .inl rfl|exact .inr (.inl rfl)|exact .inr (.inr rfl)|rfl)) ?_
        | refine ZY (ev_load_own rfl h3 rfl hx' rfl) (by (repeat' first|exact True.intro|refine ⟨?_, ?_⟩|exact .inl rfl|exact .inr (.inl rfl)|exact .inr (.inr rfl)|rfl)) ?_
        | refine ZY (ev_load rfl h1 rfl) (by (repeat' first|exact True.intro|refine ⟨?_, ?_⟩|exact .inl rfl|exact .inr (.inl rfl)|exact .inr (.inr rfl)|rfl)) ?_
        | refine ZX rfl (ev_eqs_f rfl rfl hp) ?_
        | (with_reducible first|apply ZS|apply ZT)|((with_reducible apply ZU);rfl)|((with_reducible apply ZV);rfl;decide)|((with_reducible apply ZW);rfl)|refine ZX rfl rfl ?_|refine ZY rfl (by (repeat' first|exact True.intro|refine ⟨?_, ?_⟩|exact .inl rfl|exact .inr (.inl rfl)|exact .inr (.inr rfl)|rfl)) ?_
        | refine ZB rfl ?_|refine ZC rfl ?_
      all_goals
        refine ⟨_, resV_cell rfl hb2 rfl rfl, ?_⟩
        have e3 := envT (h := ⟨nx + 1, ob2⟩) (liftF r) (d := .int .i64 0) ((hk2 z (by omega)).trans g3) hnl
        refine e3.trans ?_
        unfold envD
        rw [hres]
        rfl
noncomputable def T319 : List DV → Option DV := fam (fun x : (Nat × List Op3 × (Nat → Nat)) × Op3 => [.agg (envD x.1.1 x.1.2.1 (liftF x.1.2.2)), .agg (opD x.2)]) (fun x => EnvOk x.1.1 x.1.2.1 x.1.2.2) (fun x => addR x.2 x.1.2.1 x.1.2.2)
theorem T319_eq {sz : Nat} {l : List Op3} {r : Nat → Nat} {o : Op3} (he : EnvOk sz l r) : T319 [.agg (envD sz l (liftF r)), .agg (opD o)] = some (addR o l r) := by
  refine fam_eq (ι := (Nat × List Op3 × (Nat → Nat)) × Op3) ((sz, l, r), o) he ?_
  rintro ⟨⟨sz', l', r'⟩, o'⟩ _ e
  simp only [List.cons.injEq, DV.agg.injEq, and_true] at e
  obtain ⟨h1, h2⟩ := e
  obtain rfl := opD_inj h2
  obtain ⟨rfl, h2⟩ := envD_inj h1
  simp only [addR]
  split
  · rfl
  · cases addL o' l' with
    | none => rfl
    | some q => simp only []; rw [envR_eq h2]
set_option maxRecDepth 8000 in
set_option maxHeartbeats 8000000 in
theorem w319 (x : (Nat × List Op3 × (Nat → Nat)) × Op3) (he : EnvOk x.1.1 x.1.2.1 x.1.2.2) : awp cl319 c319r (PureQ [.cell 4 11 true, .t 5] (addR x.2 x.1.2.1 x.1.2.2)) ⟨argE 0 (dvArgs [.agg (envD x.1.1 x.1.2.1 (liftF x.1.2.2)), .agg (opD x.2)]), ⟨0, []⟩⟩ := by
  obtain ⟨⟨sz, l, r⟩, o⟩ := x
  simp only at he ⊢
  have hlen := he.len
  have hml : (l.map opD).length = l.length := List.length_map ..
  have h42 : G42 partE [.agg (opD o)] = some (.c (.int .i64 (mayOf partE o.pat o.g o.a))) := rfl
  by_cases hm : mayOf partE o.pat o.g o.a = 0
  rotate_left
  · have e : addR o l r = .tup [.agg zeroEnv, .c (.int .i64 (mayOf partE o.pat o.g o.a))] := by unfold addR; rw [if_pos hm]
    rw [e]
    generalize mayOf partE o.pat o.g o.a = q at h42 hm ⊢
    obtain ⟨pat, g, a⟩ := o
    unfold cl319 c319r
    repeat' first | refine GoH ?_ | ((with_reducible apply Z1 (f := 27));rfl;rfl;rfl;exact h42;rfl) | refine ZB (ev_neq_t rfl rfl hm) ?_ | refine ZB rfl ?_|refine ZC rfl ?_
    exact ⟨_, rfl, rfl⟩
  · have fin := fun (k : Nat) (hk : k ≤ l.length) (ht : l.takeWhile (lessP o) = l.take k) (hd : l.dropWhile (lessP o) = l.drop k) (nx z : Nat) (ob : List (Nat × Ob)) => w319t (sz := sz) (r := r) he hm (nx := nx) (z := z) (ob := ob) hk ht hd
    have hc := fun (nx : Nat) (ob : List (Nat × Ob)) (hy : look ob 1 = some (.cells ((opD o).map .d))) (hn : 1 < nx) => w330 (sz := sz) (l := l) (o := o) hlen hy hn
    have hspan : ∀ k, (∀ y ∈ l.take k, lessP o y = true) → (∀ y, l[k]? = some y → lessP o y = false) → l.takeWhile (lessP o) = l.take k ∧ l.dropWhile (lessP o) = l.drop k := fun k h1 h2 => span_at h1 h2
    have hT : ∀ (nx : Nat) (ob : List (Nat × Ob)) (K : V → Hp → Prop), K (.c (.own nx (l.map opD).length)) ⟨nx + 1, (nx, .row 3 (l.map opD)) :: ob⟩ → T332 [.c (.d (.list sz (l.map opD)))] ⟨nx, ob⟩ K := fun nx ob K hK => ⟨he.szd, by rw [hml]; unfold room; omega, hK⟩
    rw [hm] at h42
    have tail : ∀ (k nx : Nat) (ob : List (Nat × Ob)), k ≤ l.length → (∀ y ∈ l.take k, lessP o y = true) → (∀ y, l[k]? = some y → lessP o y = false) → 3 ≤ nx → look ob 0 = some (.cells (envC sz l r)) → look ob 1 = some (.cells ((opD o).map .d)) → look ob 2 = some (.cells (.nil :: rowsC fun _ => 0)) →
        awp cl319 (c319r.tail 4) (PureQ [.cell 4 11 true, .t 5] (addR o l r)) ⟨[(2, .c (.ptr 0 0)), (3, .c (.ptr 1 0)), (4, .c (.ptr 2 0)), (7, .c (.d (.int .i64 (k : Nat))))], ⟨nx, ob⟩⟩ := by
      intro k nx ob hk h1 h2 hn g0 g1 g2
      obtain ⟨s1, s2⟩ := hspan k h1 h2
      have hf := fin k hk s1 s2 (nx + 1) nx ((nx, .row 3 (l.map opD)) :: ob) hn (Nat.lt_succ_self _) ((look_tl (by omega) rfl).trans g0) ((look_tl (by omega) rfl).trans g1) ((look_tl (by omega) rfl).trans g2) look_hd
      clear fin hc hspan
      unfold cl319 c319r at *
      dsimp only [ACode.tail] at *
      unfold envC at g0
      repeat' first
        | ((with_reducible apply weak_keep [2, 3, 4, 7, 8]); rfl; exact hf)
        | refine GoH ?_
        | ((with_reducible apply step_hcall); rfl; refine hT _ _ _ ?_)
        | refine ZB (ev_load rfl g0 rfl) ?_
        | refine ZB rfl ?_|refine ZC rfl ?_
    have i0 : look [(2, Ob.cells (.nil :: rowsC fun _ => 0)), (1, .cells ((opD o).map .d)), (0, .cells (envC sz l r))] 1 = some (.cells ((opD o).map .d)) := rfl
    have hc1 := hc 3 _ i0 (by omega)
    clear hc fin
    have tail2 : ∀ (v : V) (nx : Nat) (ob : List (Nat × Ob)), R330 o l 3 [(2, Ob.cells (.nil :: rowsC fun _ => 0)), (1, .cells ((opD o).map .d)), (0, .cells (envC sz l r))] v ⟨nx, ob⟩ →
        awp cl319 (c319r.tail 3) (PureQ [.cell 4 11 true, .t 5] (addR o l r)) ⟨[(2, .c (.ptr 0 0)), (3, .c (.ptr 1 0)), (4, .c (.ptr 2 0)), (7, v)], ⟨nx, ob⟩⟩ := by
      rintro v nx ob ⟨hv, hn, hkeep⟩
      have hn : 3 ≤ nx := hn
      have g0 : look ob 0 = some (.cells (envC sz l r)) := (hkeep 0 (by omega)).trans rfl
      have g1 : look ob 1 = some (.cells ((opD o).map .d)) := (hkeep 1 (by omega)).trans rfl
      have g2 : look ob 2 = some (.cells (.nil :: rowsC fun _ => 0)) := (hkeep 2 (by omega)).trans rfl
      rcases hv with ⟨rfl, hall⟩ | ⟨k, x, rfl, hx, hless, hno⟩
      · have tl := tail l.length nx ob (Nat.le_refl _) (by rw [List.take_length]; exact hall) (fun y hy => by rw [List.getElem?_eq_none (Nat.le_refl _)] at hy; cases hy) hn g0 g1 g2
        clear tail hT
        rw [← hml] at tl
        unfold cl319 c319r at *
        dsimp only [ACode.tail] at *
        unfold envC at g0
        repeat' first
          | ((with_reducible apply weak_keep [2, 3, 4, 7]); rfl; exact tl)
          | refine GoH ?_
          | refine ZB (ev_load rfl g0 rfl) ?_
          | refine ZB rfl ?_|refine ZC rfl ?_
      · have hk := (List.getElem?_eq_some_iff.1 hx).1
        have tl := tail k nx ob (by omega) hless (fun y hy => by rw [hx] at hy; cases hy; exact hno) hn g0 g1 g2
        clear tail hT
        unfold cl319 c319r at *
        dsimp only [ACode.tail] at *
        repeat' first
          | ((with_reducible apply weak_keep [2, 3, 4, 7]); rfl; exact tl)
          | refine GoH ?_
          | refine ZB (ev_lss_f rfl rfl (by omega)) ?_
          | refine ZB rfl ?_|refine ZC rfl ?_
    clear tail hT
    obtain ⟨pat, g, a⟩ := o
    unfold cl319 c319r at *
    dsimp only [ACode.tail] at *
    unfold envC at *
    repeat' first
      | ((with_reducible apply weak_keep [2, 3, 4, 7]); rfl; exact tail2 _ _ _ hR)
      | refine GoH ?_
      | ((with_reducible apply Z1 (f := 27));rfl;rfl;rfl;exact h42;rfl)
      | refine ZB (ev_neq_f rfl rfl rfl) ?_
      | ((with_reducible apply step_hR); rfl; exact fine319; exact hc1; intro v nx2 ob2 hR; obtain ⟨q, rfl⟩ := R330_int hR)
      | refine ZB rfl ?_|refine ZC rfl ?_
theorem pok331 (m : Int) : HeapOk Go.Proofs.Tryd.prog (glb m) 29 (wpOf (tblh [] []) c331r [.t 3]) := wpOf_ok (fn331r m) (callh_nil (callOk_nil _ _))
theorem pok330 (m : Int) : HeapOk Go.Proofs.Tryd.prog (glb m) 28 (wpOf cl330 c330r [.t 4]) := wpOf_ok (fn330r m) (callh_cons (pok331 m) (callh_nil (callOk_nil _ _)))
theorem pok319 {m : Int} (h42 : PureOk Go.Proofs.Tryd.prog (glb m) 27 (G42 partE)) : PureOk Go.Proofs.Tryd.prog (glb m) 13 T319 := .inl (fam_ok (fn319r m) (callh_cons (pok330 m) (callh_cons (hok332 _) (callh_cons (hok333 _) (callh_nil (callOk_cons h42 (callOk_nil _ _)))))) w319)
end Go.Am
