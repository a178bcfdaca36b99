/-
  The reference's Step and Make.
-/
import Derived.Test.YtgbefhljbdjncaaDoorMV
import Derived.Test.YtgbefhljbdjncaaDoorMT
namespace Go.Am
open Go
/-! ### Add -/
def addL (o : Op3) (l : List Op3) : Option (List Op3) := match l.dropWhile (fun x => strLess x.pat o.pat) with
  | [] => if 16 ≤ l.length then none else some (l.takeWhile (fun x => strLess x.pat o.pat) ++ [o] ++ [])
  | x :: t => if x.pat = o.pat then some (l.takeWhile (fun x => strLess x.pat o.pat) ++ [o] ++ t) else if 16 ≤ l.length then none else some (l.takeWhile (fun x => strLess x.pat o.pat) ++ [o] ++ x :: t)
def addR (o : Op3) (l : List Op3) (r : Nat → Nat) : DV := if mayOf partE o.pat o.g o.a ≠ 0 then .tup [.agg zeroEnv, .c (.int .i64 (mayOf partE o.pat o.g o.a))] else match addL o l with
  | none => .tup [.agg zeroEnv, .c (.int .i64 5)]
  | some l' => .tup [.agg (envD 3 l' (liftF r)), .c (.int .i64 0)]
noncomputable def T68 : List DV → Option DV := fam (fun x : (Nat × List Op3 × (Nat → Nat)) × Op3 => [.agg (envD x.1.1 x.1.2.1 (liftF x.1.2.2)), .agg (opD x.2)]) (fun x => EnvOk x.1.1 x.1.2.1 x.1.2.2 ∧ x.2.pat.length < room) (fun x => addR x.2 x.1.2.1 x.1.2.2)
theorem T68_eq {sz : Nat} {l : List Op3} {r : Nat → Nat} {o : Op3} (he : EnvOk sz l r) (ho : o.pat.length < room) : T68 [.agg (envD sz l (liftF r)), .agg (opD o)] = some (addR o l r) := by
  refine fam_eq (ι := (Nat × List Op3 × (Nat → Nat)) × Op3) ((sz, l, r), o) ⟨he, ho⟩ ?_
  rintro ⟨⟨sz', l', r'⟩, o'⟩ _ e
  simp only [List.cons.injEq, DV.agg.injEq, and_true] at e
  obtain ⟨h1, h2⟩ := e
  obtain rfl := opD_inj h2
  obtain ⟨rfl, h2⟩ := envD_inj h1
  simp only [addR]
  split
  · rfl
  · cases addL o' l' with
    | none => rfl
    | some q => simp only []; rw [envR_eq h2]
theorem G43_eq {o : Op3} (h : o.pat.length < room) : G43 [.agg (opD o)] = some (.c (.int .i64 (mayOf partE o.pat o.g o.a))) := by simp only [opD, G43, if_pos h]
def addSt (sz : Nat) (l : List Op3) (r : Nat → Nat) (o : Op3) : List (Nat × Ob) := [(2, .cells (.nil :: rowsC fun _ => 0)), (1, .cells ((opD o).map .d)), (0, .cells (.d (.list sz (l.map opD)) :: rowsC (liftF r)))]
set_option maxRecDepth 8000 in
set_option maxHeartbeats 4000000 in
theorem w68u {sz : Nat} {l : List Op3} {r : Nat → Nat} (o : Op3) {k : Nat} {q : List Op3} (he : EnvOk sz l r) (hk : k ≤ l.length) (hq : q.length ≤ 1000) :
    awp (tbl [(43, G43)]) (c68.tail 7) (PureQ [.cell 4 11 true, .t 5] (.tup [.agg (envD 3 (l.take k ++ [o] ++ q) (liftF r)), .c (.int .i64 0)]))
      ⟨[(2, .c (.ptr 0 0)), (3, .c (.ptr 1 0)), (4, .c (.ptr 2 0)), (7, .c (.d (.int .i64 (k : Nat)))), (8, .c (.d (.list 3 (q.map opD))))], ⟨3, addSt sz l r o⟩⟩ := by
  have hlen := he.len
  have hml : (l.map opD).length = l.length := List.length_map _
  have hs1 : ((l.map opD).take ((k : Int)).toNat).drop (0 : Int).toNat = (l.take k).map opD := by simp [List.map_take]
  have hz1 : sz = 3 ∨ (l.map opD) = [] := he.szd
  obtain ⟨pat, g, a⟩ := o
  unfold addSt c68
  dsimp only [ACode.tail]
  repeat' first
    | (with_reducible first|refine Za ?_|refine Zb ?_|refine Zc ?_|refine Zd ?_|refine Ze ?_|refine Zf ?_|refine Zg ?_|refine Zh ?_|refine Zi ?_|refine Zj ?_|refine Zk ?_|refine Zl ?_|refine Zm ?_|refine Zn ?_|refine Zo ?_|refine Zp ?_|refine Zq ?_|refine Zr ?_|refine Zs ?_|refine Zt ?_|refine Zu ?_)|(with_reducible refine Zv (by decide) ?_)|((with_reducible apply Zw);rfl)|((with_reducible apply Zx);rfl;decide)|((with_reducible apply Zy);rfl)|((with_reducible apply Zz);rfl)|((with_reducible apply ZA);rfl)|refine ZB rfl ?_|refine ZC rfl ?_
    | with_reducible refine ZS ?_
    | refine dstep_all (fun h => ev_slice_d (a := 0) (b := (k : Int)) rfl hz1 rfl rfl (by omega) (by omega) (by omega) hs1) ?_
    | refine ZZ (Z0 (ev_app_d (l' := (l.take k).map opD) (n' := ((l.take k).map opD).length) rfl rfl (.inl rfl) look_hd rfl (by show 0 + ((l.take k).map opD).length ≤ room; rw [List.length_map, List.length_take]; unfold room; omega) rfl rfl put_hd) ⟨rfl, rfl⟩) (by (repeat' first|exact True.intro|refine ⟨?_, ?_⟩|exact .inl rfl|exact .inr (.inl rfl)|exact .inr (.inr rfl)|rfl)) ?_
    | refine ZZ (Z0 (ev_app_d (ys := [opD ⟨pat, g, a⟩]) (l' := (l.take k).map opD ++ [opD ⟨pat, g, a⟩]) (n' := ((l.take k).map opD ++ [opD ⟨pat, g, a⟩]).length) rfl rfl (.inl rfl) look_hd rfl (by show ((l.take k).map opD).length + 1 ≤ room; rw [List.length_map, List.length_take]; unfold room; omega) rfl rfl put_hd) ⟨rfl, rfl⟩) (by (repeat' first|exact True.intro|refine ⟨?_, ?_⟩|exact .inl rfl|exact .inr (.inl rfl)|exact .inr (.inr rfl)|rfl)) ?_
    | refine ZZ (Z0 (ev_app_d (l' := (l.take k).map opD ++ [opD ⟨pat, g, a⟩] ++ q.map opD) (n' := ((l.take k).map opD ++ [opD ⟨pat, g, a⟩] ++ q.map opD).length) rfl rfl (.inl rfl) look_hd rfl (by simp only [List.length_append, List.length_cons, List.length_nil, List.length_map, List.length_take]; unfold room; omega) rfl rfl put_hd) ⟨rfl, rfl⟩) (by (repeat' first|exact True.intro|refine ⟨?_, ?_⟩|exact .inl rfl|exact .inr (.inl rfl)|exact .inr (.inr rfl)|rfl)) ?_
    | (with_reducible first|refine ZS ?_|refine ZT ?_)|((with_reducible apply ZU);rfl)|((with_reducible apply ZV);rfl;decide)|((with_reducible apply ZW);rfl)|refine ZX rfl rfl ?_|refine ZY rfl (by (repeat' first|exact True.intro|refine ⟨?_, ?_⟩|exact .inl rfl|exact .inr (.inl rfl)|exact .inr (.inr rfl)|rfl)) ?_|refine ZZ (Z0 rfl ⟨rfl, rfl⟩) (by (repeat' first|exact True.intro|refine ⟨?_, ?_⟩|exact .inl rfl|exact .inr (.inl rfl)|exact .inr (.inr rfl)|rfl)) ?_
  refine ⟨_, rfl, (envT (liftF r) look_hd rfl).trans ?_⟩
  unfold envD
  rw [List.map_append, List.map_append]
  rfl
set_option maxRecDepth 8000 in
set_option maxHeartbeats 4000000 in
theorem w68t {sz : Nat} {l : List Op3} {r : Nat → Nat} {o : Op3} {k : Nat} (he : EnvOk sz l r) (hm : mayOf partE o.pat o.g o.a = 0) (hk : k ≤ l.length) (h1 : l.takeWhile (fun x => strLess x.pat o.pat) = l.take k) (h2 : l.dropWhile (fun x => strLess x.pat o.pat) = l.drop k) :
    awp (tbl [(43, G43)]) (c68.tail 5) (PureQ [.cell 4 11 true, .t 5] (addR o l r))
      ⟨[(2, .c (.ptr 0 0)), (3, .c (.ptr 1 0)), (4, .c (.ptr 2 0)), (7, .c (.d (.int .i64 (k : Nat))))], ⟨3, addSt sz l r o⟩⟩ := by
  have hlen := he.len
  have hml : (l.map opD).length = l.length := List.length_map _
  have hs2 : ((l.map opD).take (((l.map opD).length : Int)).toNat).drop ((k : Int)).toNat = (l.drop k).map opD := by
    rw [Int.toNat_natCast, Int.toNat_natCast, List.take_length, List.map_drop]
  have hz1 : sz = 3 ∨ (l.map opD) = [] := he.szd
  have hu := fun (q : List Op3) (hq : q.length ≤ 1000) => w68u (r := r) o (q := q) he hk hq
  have hdl : (l.drop k).length ≤ 1000 := by rw [List.length_drop]; omega
  have hA : addR o l r = match addL o l with
    | none => .tup [.agg zeroEnv, .c (.int .i64 5)]
    | some l' => .tup [.agg (envD 3 l' (liftF r)), .c (.int .i64 0)] := by unfold addR; rw [if_neg (by rw [hm]; simp)]
  obtain ⟨pat, g, a⟩ := o
  simp only at *
  generalize hr : l.drop k = rest at *
  cases rest with
  | nil =>
    by_cases hfull : 16 ≤ l.length
    · have e : addL ⟨pat, g, a⟩ l = none := by unfold addL; simp only; rw [h2]; simp only; rw [if_pos hfull]
      rw [hA, e]
      simp only
      unfold addSt c68
      dsimp only [ACode.tail]
      repeat' first
        | refine ZB (ev_slice_d (a := (k : Int)) (b := ((l.map opD).length : Int)) rfl hz1 rfl rfl (by omega) (by omega) (by omega) hs2) ?_
        | ((with_reducible first|apply ZD|apply ZE|apply ZF|apply ZG|apply ZH|apply ZI);rfl;rfl;all_goals (intro hc;first|(exfalso;omega)|skip))|((with_reducible first|apply ZJ|apply ZK);rfl;rfl;all_goals (intro hc;first|contradiction|skip))|((with_reducible first|apply ZL|apply ZM);rfl;rfl;omega;omega)|((with_reducible first|apply ZN|apply ZO);rfl;rfl;omega;omega;intro c hget hc)|((with_reducible apply ZP);rfl;(first|exact .inl rfl|assumption);rfl;rfl;omega;omega;omega;intro s' hs' hl')|((with_reducible apply ZQ);rfl;rfl;rfl;omega;omega;omega;intro s' hs' hl')|((with_reducible apply ZR);rfl)
        | (with_reducible first|refine Za ?_|refine Zb ?_|refine Zc ?_|refine Zd ?_|refine Ze ?_|refine Zf ?_|refine Zg ?_|refine Zh ?_|refine Zi ?_|refine Zj ?_|refine Zk ?_|refine Zl ?_|refine Zm ?_|refine Zn ?_|refine Zo ?_|refine Zp ?_|refine Zq ?_|refine Zr ?_|refine Zs ?_|refine Zt ?_|refine Zu ?_)|(with_reducible refine Zv (by decide) ?_)|((with_reducible apply Zw);rfl)|((with_reducible apply Zx);rfl;decide)|((with_reducible apply Zy);rfl)|((with_reducible apply Zz);rfl)|((with_reducible apply ZA);rfl)|refine ZB rfl ?_|refine ZC rfl ?_
        | with_reducible refine ZS ?_
        | (with_reducible first|refine ZS ?_|refine ZT ?_)|((with_reducible apply ZU);rfl)|((with_reducible apply ZV);rfl;decide)|((with_reducible apply ZW);rfl)|refine ZX rfl rfl ?_|refine ZY rfl (by (repeat' first|exact True.intro|refine ⟨?_, ?_⟩|exact .inl rfl|exact .inr (.inl rfl)|exact .inr (.inr rfl)|rfl)) ?_|refine ZZ (Z0 rfl ⟨rfl, rfl⟩) (by (repeat' first|exact True.intro|refine ⟨?_, ?_⟩|exact .inl rfl|exact .inr (.inl rfl)|exact .inr (.inr rfl)|rfl)) ?_
      exact ⟨_, rfl, rfl⟩
    · have e : addL ⟨pat, g, a⟩ l = some (l.take k ++ [⟨pat, g, a⟩] ++ []) := by unfold addL; simp only; rw [h2]; simp only; rw [if_neg hfull, h1]
      rw [hA, e]
      simp only
      have hu2 := hu [] (by simp)
      unfold addSt c68 at *
      dsimp only [ACode.tail] at *
      repeat' first
        | ((with_reducible apply weak_keep [2, 3, 4, 7, 8]); rfl; exact hu2)
        | (with_reducible first|refine Za ?_|refine Zb ?_|refine Zc ?_|refine Zd ?_|refine Ze ?_|refine Zf ?_|refine Zg ?_|refine Zh ?_|refine Zi ?_|refine Zj ?_|refine Zk ?_|refine Zl ?_|refine Zm ?_|refine Zn ?_|refine Zo ?_|refine Zp ?_|refine Zq ?_|refine Zr ?_|refine Zs ?_|refine Zt ?_|refine Zu ?_)|(with_reducible refine Zv (by decide) ?_)|((with_reducible apply Zw);rfl)|((with_reducible apply Zx);rfl;decide)|((with_reducible apply Zy);rfl)|((with_reducible apply Zz);rfl)|((with_reducible apply ZA);rfl)
        | refine ZB (ev_slice_d (a := (k : Int)) (b := ((l.map opD).length : Int)) rfl hz1 rfl rfl (by omega) (by omega) (by omega) hs2) ?_
        | ((with_reducible first|apply ZD|apply ZE|apply ZF|apply ZG|apply ZH|apply ZI);rfl;rfl;all_goals (intro hc;first|(exfalso;omega)|skip))|((with_reducible first|apply ZJ|apply ZK);rfl;rfl;all_goals (intro hc;first|contradiction|skip))|((with_reducible first|apply ZL|apply ZM);rfl;rfl;omega;omega)|((with_reducible first|apply ZN|apply ZO);rfl;rfl;omega;omega;intro c hget hc)|((with_reducible apply ZP);rfl;(first|exact .inl rfl|assumption);rfl;rfl;omega;omega;omega;intro s' hs' hl')|((with_reducible apply ZQ);rfl;rfl;rfl;omega;omega;omega;intro s' hs' hl')|((with_reducible apply ZR);rfl)
        | (with_reducible first|refine Za ?_|refine Zb ?_|refine Zc ?_|refine Zd ?_|refine Ze ?_|refine Zf ?_|refine Zg ?_|refine Zh ?_|refine Zi ?_|refine Zj ?_|refine Zk ?_|refine Zl ?_|refine Zm ?_|refine Zn ?_|refine Zo ?_|refine Zp ?_|refine Zq ?_|refine Zr ?_|refine Zs ?_|refine Zt ?_|refine Zu ?_)|(with_reducible refine Zv (by decide) ?_)|((with_reducible apply Zw);rfl)|((with_reducible apply Zx);rfl;decide)|((with_reducible apply Zy);rfl)|((with_reducible apply Zz);rfl)|((with_reducible apply ZA);rfl)|refine ZB rfl ?_|refine ZC rfl ?_
        | with_reducible refine ZS ?_
        | (with_reducible first|refine ZS ?_|refine ZT ?_)|((with_reducible apply ZU);rfl)|((with_reducible apply ZV);rfl;decide)|((with_reducible apply ZW);rfl)|refine ZX rfl rfl ?_|refine ZY rfl (by (repeat' first|exact True.intro|refine ⟨?_, ?_⟩|exact .inl rfl|exact .inr (.inl rfl)|exact .inr (.inr rfl)|rfl)) ?_|refine ZZ (Z0 rfl ⟨rfl, rfl⟩) (by (repeat' first|exact True.intro|refine ⟨?_, ?_⟩|exact .inl rfl|exact .inr (.inl rfl)|exact .inr (.inr rfl)|rfl)) ?_
  | cons x t =>
    obtain ⟨xp, xg, xa⟩ := x
    have hlt : 0 < (List.map opD (⟨xp, xg, xa⟩ :: t)).length := by simp
    have hs3 : ((List.map opD (⟨xp, xg, xa⟩ :: t)).take (((List.map opD (⟨xp, xg, xa⟩ :: t)).length : Int)).toNat).drop (1 : Int).toNat = t.map opD := by
      rw [Int.toNat_natCast, List.take_length]; rfl
    by_cases hp : xp = pat
    · have e : addL ⟨pat, g, a⟩ l = some (l.take k ++ [⟨pat, g, a⟩] ++ t) := by unfold addL; simp only; rw [h2]; simp only; rw [if_pos hp, h1]
      rw [hA, e]
      simp only
      have hu2 := hu t (by simp only [List.length_cons] at hdl; omega)
      unfold addSt c68 at *
      dsimp only [ACode.tail] at *
      have heq : (xp == pat) = true := by simpa using hp
      repeat' first
        | ((with_reducible apply weak_keep [2, 3, 4, 7, 8]); rfl; exact hu2)
        | (with_reducible first|refine Za ?_|refine Zb ?_|refine Zc ?_|refine Zd ?_|refine Ze ?_|refine Zf ?_|refine Zg ?_|refine Zh ?_|refine Zi ?_|refine Zj ?_|refine Zk ?_|refine Zl ?_|refine Zm ?_|refine Zn ?_|refine Zo ?_|refine Zp ?_|refine Zq ?_|refine Zr ?_|refine Zs ?_|refine Zt ?_|refine Zu ?_)|(with_reducible refine Zv (by decide) ?_)|((with_reducible apply Zw);rfl)|((with_reducible apply Zx);rfl;decide)|((with_reducible apply Zy);rfl)|((with_reducible apply Zz);rfl)|((with_reducible apply ZA);rfl)
        | refine ZB (ev_slice_d (a := (k : Int)) (b := ((l.map opD).length : Int)) rfl hz1 rfl rfl (by omega) (by omega) (by omega) hs2) ?_
        | refine ZB (ev_slice_d (a := 1) (b := ((List.map opD (⟨xp, xg, xa⟩ :: t)).length : Int)) rfl (.inl rfl) rfl rfl (by omega) (by omega) (by omega) hs3) ?_
        | ((with_reducible first|apply ZD|apply ZE|apply ZF|apply ZG|apply ZH|apply ZI);rfl;rfl;all_goals (intro hc;first|(exfalso;omega)|skip))|((with_reducible first|apply ZJ|apply ZK);rfl;rfl;all_goals (intro hc;first|contradiction|skip))|((with_reducible first|apply ZL|apply ZM);rfl;rfl;omega;omega)|((with_reducible first|apply ZN|apply ZO);rfl;rfl;omega;omega;intro c hget hc)|((with_reducible apply ZP);rfl;(first|exact .inl rfl|assumption);rfl;rfl;omega;omega;omega;intro s' hs' hl')|((with_reducible apply ZQ);rfl;rfl;rfl;omega;omega;omega;intro s' hs' hl')|((with_reducible apply ZR);rfl)
        | (with_reducible first|refine Za ?_|refine Zb ?_|refine Zc ?_|refine Zd ?_|refine Ze ?_|refine Zf ?_|refine Zg ?_|refine Zh ?_|refine Zi ?_|refine Zj ?_|refine Zk ?_|refine Zl ?_|refine Zm ?_|refine Zn ?_|refine Zo ?_|refine Zp ?_|refine Zq ?_|refine Zr ?_|refine Zs ?_|refine Zt ?_|refine Zu ?_)|(with_reducible refine Zv (by decide) ?_)|((with_reducible apply Zw);rfl)|((with_reducible apply Zx);rfl;decide)|((with_reducible apply Zy);rfl)|((with_reducible apply Zz);rfl)|((with_reducible apply ZA);rfl)|refine ZB rfl ?_|refine ZC rfl ?_
        | (refine awp_cond rfl (fun hb => ?_) (fun hb => ?_) <;> first | (exfalso; rw [heq] at hb; simp at hb; done) | skip)
        | with_reducible refine ZS ?_
        | ((with_reducible apply dstep_c); rfl; rfl; rfl; rfl; all_goals (intro hc; (try simp only [decide_eq_true_eq, decide_eq_false_iff_not] at hc); first | (exfalso; omega) | skip))
        | (with_reducible first|refine ZS ?_|refine ZT ?_)|((with_reducible apply ZU);rfl)|((with_reducible apply ZV);rfl;decide)|((with_reducible apply ZW);rfl)|refine ZX rfl rfl ?_|refine ZY rfl (by (repeat' first|exact True.intro|refine ⟨?_, ?_⟩|exact .inl rfl|exact .inr (.inl rfl)|exact .inr (.inr rfl)|rfl)) ?_|refine ZZ (Z0 rfl ⟨rfl, rfl⟩) (by (repeat' first|exact True.intro|refine ⟨?_, ?_⟩|exact .inl rfl|exact .inr (.inl rfl)|exact .inr (.inr rfl)|rfl)) ?_
    · have heq : (xp == pat) = false := by simpa using hp
      by_cases hfull : 16 ≤ l.length
      · have e : addL ⟨pat, g, a⟩ l = none := by unfold addL; simp only; rw [h2]; simp only; rw [if_neg hp, if_pos hfull]
        rw [hA, e]
        simp only
        unfold addSt c68
        dsimp only [ACode.tail]
        repeat' first
          | refine ZB (ev_slice_d (a := (k : Int)) (b := ((l.map opD).length : Int)) rfl hz1 rfl rfl (by omega) (by omega) (by omega) hs2) ?_
          | ((with_reducible first|apply ZD|apply ZE|apply ZF|apply ZG|apply ZH|apply ZI);rfl;rfl;all_goals (intro hc;first|(exfalso;omega)|skip))|((with_reducible first|apply ZJ|apply ZK);rfl;rfl;all_goals (intro hc;first|contradiction|skip))|((with_reducible first|apply ZL|apply ZM);rfl;rfl;omega;omega)|((with_reducible first|apply ZN|apply ZO);rfl;rfl;omega;omega;intro c hget hc)|((with_reducible apply ZP);rfl;(first|exact .inl rfl|assumption);rfl;rfl;omega;omega;omega;intro s' hs' hl')|((with_reducible apply ZQ);rfl;rfl;rfl;omega;omega;omega;intro s' hs' hl')|((with_reducible apply ZR);rfl)
          | (with_reducible first|refine Za ?_|refine Zb ?_|refine Zc ?_|refine Zd ?_|refine Ze ?_|refine Zf ?_|refine Zg ?_|refine Zh ?_|refine Zi ?_|refine Zj ?_|refine Zk ?_|refine Zl ?_|refine Zm ?_|refine Zn ?_|refine Zo ?_|refine Zp ?_|refine Zq ?_|refine Zr ?_|refine Zs ?_|refine Zt ?_|refine Zu ?_)|(with_reducible refine Zv (by decide) ?_)|((with_reducible apply Zw);rfl)|((with_reducible apply Zx);rfl;decide)|((with_reducible apply Zy);rfl)|((with_reducible apply Zz);rfl)|((with_reducible apply ZA);rfl)|refine ZB rfl ?_|refine ZC rfl ?_
          | (refine awp_cond rfl (fun hb => ?_) (fun hb => ?_) <;> first | (exfalso; rw [heq] at hb; simp at hb; done) | skip)
          | with_reducible refine ZS ?_
          | ((with_reducible apply dstep_c); rfl; rfl; rfl; rfl; all_goals (intro hc; (try simp only [decide_eq_true_eq, decide_eq_false_iff_not] at hc); first | (exfalso; omega) | skip))
          | (with_reducible first|refine ZS ?_|refine ZT ?_)|((with_reducible apply ZU);rfl)|((with_reducible apply ZV);rfl;decide)|((with_reducible apply ZW);rfl)|refine ZX rfl rfl ?_|refine ZY rfl (by (repeat' first|exact True.intro|refine ⟨?_, ?_⟩|exact .inl rfl|exact .inr (.inl rfl)|exact .inr (.inr rfl)|rfl)) ?_|refine ZZ (Z0 rfl ⟨rfl, rfl⟩) (by (repeat' first|exact True.intro|refine ⟨?_, ?_⟩|exact .inl rfl|exact .inr (.inl rfl)|exact .inr (.inr rfl)|rfl)) ?_
        exact ⟨_, rfl, rfl⟩
      · have e : addL ⟨pat, g, a⟩ l = some (l.take k ++ [⟨pat, g, a⟩] ++ ⟨xp, xg, xa⟩ :: t) := by unfold addL; simp only; rw [h2]; simp only; rw [if_neg hp, if_neg hfull, h1]
        rw [hA, e]
        simp only
        have hu2 := hu (⟨xp, xg, xa⟩ :: t) hdl
        unfold addSt c68 at *
        dsimp only [ACode.tail] at *
        repeat' first
          | ((with_reducible apply weak_keep [2, 3, 4, 7, 8]); rfl; exact hu2)
          | (with_reducible first|refine Za ?_|refine Zb ?_|refine Zc ?_|refine Zd ?_|refine Ze ?_|refine Zf ?_|refine Zg ?_|refine Zh ?_|refine Zi ?_|refine Zj ?_|refine Zk ?_|refine Zl ?_|refine Zm ?_|refine Zn ?_|refine Zo ?_|refine Zp ?_|refine Zq ?_|refine Zr ?_|refine Zs ?_|refine Zt ?_|refine Zu ?_)|(with_reducible refine Zv (by decide) ?_)|((with_reducible apply Zw);rfl)|((with_reducible apply Zx);rfl;decide)|((with_reducible apply Zy);rfl)|((with_reducible apply Zz);rfl)|((with_reducible apply ZA);rfl)
          | refine ZB (ev_slice_d (a := (k : Int)) (b := ((l.map opD).length : Int)) rfl hz1 rfl rfl (by omega) (by omega) (by omega) hs2) ?_
          | ((with_reducible first|apply ZD|apply ZE|apply ZF|apply ZG|apply ZH|apply ZI);rfl;rfl;all_goals (intro hc;first|(exfalso;omega)|skip))|((with_reducible first|apply ZJ|apply ZK);rfl;rfl;all_goals (intro hc;first|contradiction|skip))|((with_reducible first|apply ZL|apply ZM);rfl;rfl;omega;omega)|((with_reducible first|apply ZN|apply ZO);rfl;rfl;omega;omega;intro c hget hc)|((with_reducible apply ZP);rfl;(first|exact .inl rfl|assumption);rfl;rfl;omega;omega;omega;intro s' hs' hl')|((with_reducible apply ZQ);rfl;rfl;rfl;omega;omega;omega;intro s' hs' hl')|((with_reducible apply ZR);rfl)
          | (with_reducible first|refine Za ?_|refine Zb ?_|refine Zc ?_|refine Zd ?_|refine Ze ?_|refine Zf ?_|refine Zg ?_|refine Zh ?_|refine Zi ?_|refine Zj ?_|refine Zk ?_|refine Zl ?_|refine Zm ?_|refine Zn ?_|refine Zo ?_|refine Zp ?_|refine Zq ?_|refine Zr ?_|refine Zs ?_|refine Zt ?_|refine Zu ?_)|(with_reducible refine Zv (by decide) ?_)|((with_reducible apply Zw);rfl)|((with_reducible apply Zx);rfl;decide)|((with_reducible apply Zy);rfl)|((with_reducible apply Zz);rfl)|((with_reducible apply ZA);rfl)|refine ZB rfl ?_|refine ZC rfl ?_
          | (refine awp_cond rfl (fun hb => ?_) (fun hb => ?_) <;> first | (exfalso; rw [heq] at hb; simp at hb; done) | skip)
          | with_reducible refine ZS ?_
          | ((with_reducible apply dstep_c); rfl; rfl; rfl; rfl; all_goals (intro hc; (try simp only [decide_eq_true_eq, decide_eq_false_iff_not] at hc); first | (exfalso; omega) | skip))
          | (with_reducible first|refine ZS ?_|refine ZT ?_)|((with_reducible apply ZU);rfl)|((with_reducible apply ZV);rfl;decide)|((with_reducible apply ZW);rfl)|refine ZX rfl rfl ?_|refine ZY rfl (by (repeat' first|exact True.intro|refine ⟨?_, ?_⟩|exact .inl rfl|exact .inr (.inl rfl)|exact .inr (.inr rfl)|rfl)) ?_|refine ZZ (Z0 rfl ⟨rfl, rfl⟩) (by (repeat' first|exact True.intro|refine ⟨?_, ?_⟩|exact .inl rfl|exact .inr (.inl rfl)|exact .inr (.inr rfl)|rfl)) ?_
set_option maxRecDepth 8000 in
set_option maxHeartbeats 4000000 in
theorem w68 (x : (Nat × List Op3 × (Nat → Nat)) × Op3) (hx : EnvOk x.1.1 x.1.2.1 x.1.2.2 ∧ x.2.pat.length < room) : awp (tbl [(43, G43)]) c68 (PureQ [.cell 4 11 true, .t 5] (addR x.2 x.1.2.1 x.1.2.2)) ⟨argE 0 (dvArgs [.agg (envD x.1.1 x.1.2.1 (liftF x.1.2.2)), .agg (opD x.2)]), ⟨0, []⟩⟩ := by
  obtain ⟨⟨sz, l, r⟩, o⟩ := x
  obtain ⟨he, ho⟩ := hx
  simp only at he ho ⊢
  have hlen := he.len
  have hml : (l.map opD).length = l.length := List.length_map _
  have h43 := G43_eq ho
  by_cases hm : mayOf partE o.pat o.g o.a = 0
  · have hfin := fun k hk h1 h2 => w68t (o := o) (k := k) he hm hk h1 h2
    rw [hm] at h43
    obtain ⟨pat, g, a⟩ := o
    unfold addSt at hfin
    unfold c68
    repeat' first | ((with_reducible apply Z1 (f := 43));rfl;rfl;rfl;exact h43;rfl) | ((with_reducible first|apply ZD|apply ZE|apply ZF|apply ZG|apply ZH|apply ZI);rfl;rfl;all_goals (intro hc;first|(exfalso;omega)|skip))|((with_reducible first|apply ZJ|apply ZK);rfl;rfl;all_goals (intro hc;first|contradiction|skip))|((with_reducible first|apply ZL|apply ZM);rfl;rfl;omega;omega)|((with_reducible first|apply ZN|apply ZO);rfl;rfl;omega;omega;intro c hget hc)|((with_reducible apply ZP);rfl;(first|exact .inl rfl|assumption);rfl;rfl;omega;omega;omega;intro s' hs' hl')|((with_reducible apply ZQ);rfl;rfl;rfl;omega;omega;omega;intro s' hs' hl')|((with_reducible apply ZR);rfl) | (with_reducible first|refine Za ?_|refine Zb ?_|refine Zc ?_|refine Zd ?_|refine Ze ?_|refine Zf ?_|refine Zg ?_|refine Zh ?_|refine Zi ?_|refine Zj ?_|refine Zk ?_|refine Zl ?_|refine Zm ?_|refine Zn ?_|refine Zo ?_|refine Zp ?_|refine Zq ?_|refine Zr ?_|refine Zs ?_|refine Zt ?_|refine Zu ?_)|(with_reducible refine Zv (by decide) ?_)|((with_reducible apply Zw);rfl)|((with_reducible apply Zx);rfl;decide)|((with_reducible apply Zy);rfl)|((with_reducible apply Zz);rfl)|((with_reducible apply ZA);rfl)|refine ZB rfl ?_|refine ZC rfl ?_
    refine awp_loop (fun m st => ∃ i : Nat, i ≤ l.length ∧ l.length - i < m ∧ (∀ y ∈ l.take i, strLess y.pat pat = true) ∧
      st = ⟨[(2, .c (.ptr 0 0)), (3, .c (.ptr 1 0)), (4, .c (.ptr 2 0)), (7, .c (.d (.int .i64 (i : Nat))))], ⟨3, addSt sz l r ⟨pat, g, a⟩⟩⟩) (l.length + 1) ?_ (by rintro st ⟨i, h1, h2, _⟩; omega) ?_
    · exact weak_keep [2, 3, 4, 7] rfl ⟨0, by omega, by omega, fun y hy => by simp at hy, rfl⟩
    · rintro m K hK st ⟨i, hi, hm2, hall, rfl⟩
      unfold addSt at *
      by_cases hend : i = l.length
      · obtain ⟨e1, e2⟩ := span_at (q := fun x : Op3 => strLess x.pat pat) hall (fun y hy => by rw [List.getElem?_eq_none (by omega)] at hy; cases hy)
        have hf := hfin i hi e1 e2
        repeat' first
          | ((with_reducible apply weak_keep [2, 3, 4, 7]); rfl; exact hf)
          | (with_reducible first|refine Za ?_|refine Zb ?_|refine Zc ?_|refine Zd ?_|refine Ze ?_|refine Zf ?_|refine Zg ?_|refine Zh ?_|refine Zi ?_|refine Zj ?_|refine Zk ?_|refine Zl ?_|refine Zm ?_|refine Zn ?_|refine Zo ?_|refine Zp ?_|refine Zq ?_|refine Zr ?_|refine Zs ?_|refine Zt ?_|refine Zu ?_)|(with_reducible refine Zv (by decide) ?_)|((with_reducible apply Zw);rfl)|((with_reducible apply Zx);rfl;decide)|((with_reducible apply Zy);rfl)|((with_reducible apply Zz);rfl)|((with_reducible apply ZA);rfl)
          | ((with_reducible first|apply ZD|apply ZE|apply ZF|apply ZG|apply ZH|apply ZI);rfl;rfl;all_goals (intro hc;first|(exfalso;omega)|skip))|((with_reducible first|apply ZJ|apply ZK);rfl;rfl;all_goals (intro hc;first|contradiction|skip))|((with_reducible first|apply ZL|apply ZM);rfl;rfl;omega;omega)|((with_reducible first|apply ZN|apply ZO);rfl;rfl;omega;omega;intro c hget hc)|((with_reducible apply ZP);rfl;(first|exact .inl rfl|assumption);rfl;rfl;omega;omega;omega;intro s' hs' hl')|((with_reducible apply ZQ);rfl;rfl;rfl;omega;omega;omega;intro s' hs' hl')|((with_reducible apply ZR);rfl)
          | (with_reducible first|refine Za ?_|refine Zb ?_|refine Zc ?_|refine Zd ?_|refine Ze ?_|refine Zf ?_|refine Zg ?_|refine Zh ?_|refine Zi ?_|refine Zj ?_|refine Zk ?_|refine Zl ?_|refine Zm ?_|refine Zn ?_|refine Zo ?_|refine Zp ?_|refine Zq ?_|refine Zr ?_|refine Zs ?_|refine Zt ?_|refine Zu ?_)|(with_reducible refine Zv (by decide) ?_)|((with_reducible apply Zw);rfl)|((with_reducible apply Zx);rfl;decide)|((with_reducible apply Zy);rfl)|((with_reducible apply Zz);rfl)|((with_reducible apply ZA);rfl)|refine ZB rfl ?_|refine ZC rfl ?_
          | with_reducible refine ZS ?_
          | ((with_reducible apply dstep_c); rfl; rfl; rfl; rfl; all_goals (intro hc; (try simp only [decide_eq_true_eq, decide_eq_false_iff_not] at hc); first | (exfalso; omega) | skip))
          | (with_reducible first|refine ZS ?_|refine ZT ?_)|((with_reducible apply ZU);rfl)|((with_reducible apply ZV);rfl;decide)|((with_reducible apply ZW);rfl)|refine ZX rfl rfl ?_|refine ZY rfl (by (repeat' first|exact True.intro|refine ⟨?_, ?_⟩|exact .inl rfl|exact .inr (.inl rfl)|exact .inr (.inr rfl)|rfl)) ?_
      · have hx : l[i]? = some l[i] := List.getElem?_eq_getElem (by omega)
        have hx' := ops_at l hx
        generalize l[i] = x at hx hx'
        obtain ⟨xp, xg, xa⟩ := x
        repeat' first
          | ((with_reducible apply weak_keep [2, 3, 4, 7]); rfl; exact hfin i hi (span_at (q := fun x : Op3 => strLess x.pat pat) hall (fun y hy => by obtain rfl := Option.some.inj (hx.symm.trans hy); exact hb)).1 (span_at (q := fun x : Op3 => strLess x.pat pat) hall (fun y hy => by obtain rfl := Option.some.inj (hx.symm.trans hy); exact hb)).2)
          | (with_reducible first|refine Za ?_|refine Zb ?_|refine Zc ?_|refine Zd ?_|refine Ze ?_|refine Zf ?_|refine Zg ?_|refine Zh ?_|refine Zi ?_|refine Zj ?_|refine Zk ?_|refine Zl ?_|refine Zm ?_|refine Zn ?_|refine Zo ?_|refine Zp ?_|refine Zq ?_|refine Zr ?_|refine Zs ?_|refine Zt ?_|refine Zu ?_)|(with_reducible refine Zv (by decide) ?_)|((with_reducible apply Zw);rfl)|((with_reducible apply Zx);rfl;decide)|((with_reducible apply Zy);rfl)|((with_reducible apply Zz);rfl)|((with_reducible apply ZA);rfl)
          | exact hK _ (weak_keep [2, 3, 4, 7] rfl ⟨i + 1, by omega, by omega, take_all (q := fun x : Op3 => strLess x.pat pat) hx hall hb, rfl⟩)
          | ((with_reducible first|apply ZD|apply ZE|apply ZF|apply ZG|apply ZH|apply ZI);rfl;rfl;all_goals (intro hc;first|(exfalso;omega)|skip))|((with_reducible first|apply ZJ|apply ZK);rfl;rfl;all_goals (intro hc;first|contradiction|skip))|((with_reducible first|apply ZL|apply ZM);rfl;rfl;omega;omega)|((with_reducible first|apply ZN|apply ZO);rfl;rfl;omega;omega;intro c hget hc)|((with_reducible apply ZP);rfl;(first|exact .inl rfl|assumption);rfl;rfl;omega;omega;omega;intro s' hs' hl')|((with_reducible apply ZQ);rfl;rfl;rfl;omega;omega;omega;intro s' hs' hl')|((with_reducible apply ZR);rfl)
          | (with_reducible first|refine Za ?_|refine Zb ?_|refine Zc ?_|refine Zd ?_|refine Ze ?_|refine Zf ?_|refine Zg ?_|refine Zh ?_|refine Zi ?_|refine Zj ?_|refine Zk ?_|refine Zl ?_|refine Zm ?_|refine Zn ?_|refine Zo ?_|refine Zp ?_|refine Zq ?_|refine Zr ?_|refine Zs ?_|refine Zt ?_|refine Zu ?_)|(with_reducible refine Zv (by decide) ?_)|((with_reducible apply Zw);rfl)|((with_reducible apply Zx);rfl;decide)|((with_reducible apply Zy);rfl)|((with_reducible apply Zz);rfl)|((with_reducible apply ZA);rfl)|refine ZB rfl ?_|refine ZC rfl ?_
          | (refine awp_cond rfl (fun hb => ?_) (fun hb => ?_))
          | with_reducible refine ZS ?_
          | ((with_reducible apply dstep_c); rfl; rfl; rfl; rfl; all_goals (intro hc; (try simp only [decide_eq_true_eq, decide_eq_false_iff_not] at hc); first | (exfalso; omega) | skip))
          | refine ZY (ev_idx rfl rfl (by omega) hx' rfl) (by (repeat' first|exact True.intro|refine ⟨?_, ?_⟩|exact .inl rfl|exact .inr (.inl rfl)|exact .inr (.inr rfl)|rfl)) ?_
          | (with_reducible first|refine ZS ?_|refine ZT ?_)|((with_reducible apply ZU);rfl)|((with_reducible apply ZV);rfl;decide)|((with_reducible apply ZW);rfl)|refine ZX rfl rfl ?_|refine ZY rfl (by (repeat' first|exact True.intro|refine ⟨?_, ?_⟩|exact .inl rfl|exact .inr (.inl rfl)|exact .inr (.inr rfl)|rfl)) ?_
  · have hA : addR o l r = .tup [.agg zeroEnv, .c (.int .i64 (mayOf partE o.pat o.g o.a))] := by unfold addR; rw [if_pos hm]
    rw [hA]
    obtain ⟨pat, g, a⟩ := o
    simp only at *
    unfold c68
    repeat' first | ((with_reducible apply Z1 (f := 43));rfl;rfl;rfl;exact h43;rfl) | ((with_reducible first|apply ZD|apply ZE|apply ZF|apply ZG|apply ZH|apply ZI);rfl;rfl;all_goals (intro hc;first|(exfalso;omega)|skip))|((with_reducible first|apply ZJ|apply ZK);rfl;rfl;all_goals (intro hc;first|contradiction|skip))|((with_reducible first|apply ZL|apply ZM);rfl;rfl;omega;omega)|((with_reducible first|apply ZN|apply ZO);rfl;rfl;omega;omega;intro c hget hc)|((with_reducible apply ZP);rfl;(first|exact .inl rfl|assumption);rfl;rfl;omega;omega;omega;intro s' hs' hl')|((with_reducible apply ZQ);rfl;rfl;rfl;omega;omega;omega;intro s' hs' hl')|((with_reducible apply ZR);rfl) | (with_reducible first|refine Za ?_|refine Zb ?_|refine Zc ?_|refine Zd ?_|refine Ze ?_|refine Zf ?_|refine Zg ?_|refine Zh ?_|refine Zi ?_|refine Zj ?_|refine Zk ?_|refine Zl ?_|refine Zm ?_|refine Zn ?_|refine Zo ?_|refine Zp ?_|refine Zq ?_|refine Zr ?_|refine Zs ?_|refine Zt ?_|refine Zu ?_)|(with_reducible refine Zv (by decide) ?_)|((with_reducible apply Zw);rfl)|((with_reducible apply Zx);rfl;decide)|((with_reducible apply Zy);rfl)|((with_reducible apply Zz);rfl)|((with_reducible apply ZA);rfl)|refine ZB rfl ?_|refine ZC rfl ?_
    exact ⟨_, rfl, rfl⟩
theorem pok68 (m : Int) : PureOk Go.Proofs.Tryd.prog (glb m) 68 T68 := .inl (fam_ok (fn68 m) (callOk_cons (pok43 m) (callOk_nil _ _)) w68)
end Go.Am
namespace Go.Am
open Go
structure Chg where
  kind : Nat
  g : Nat
  h : Nat
  op : Op3
def chgD (c : Chg) : List D := [.int .u8 (c.kind : Nat), .int .u8 (c.g : Nat), .int .u8 (c.h : Nat), .str c.op.pat, .int .i64 c.op.g, .int .i64 c.op.a]
theorem chgD_inj {a b : Chg} (h : chgD a = chgD b) : a = b := by
  obtain ⟨k, g, h1, ⟨p, x, y⟩⟩ := a
  obtain ⟨k', g', h1', ⟨p', x', y'⟩⟩ := b
  simp only [chgD, List.cons.injEq, D.str.injEq, D.int.injEq, true_and, and_true] at h
  obtain ⟨e1, e2, e3, rfl, rfl, rfl⟩ := h
  obtain rfl : k = k' := by omega
  obtain rfl : g = g' := by omega
  obtain rfl : h1 = h1' := by omega
  rfl
structure ChgOk (c : Chg) : Prop where
  k : c.kind < 256
  g : c.g < 256
  h : c.h < 256
  p : c.op.pat.length ≤ big
structure EnvM where
  sz : Nat
  l : List Op3
  r : Nat → Nat
def EnvM.D (e : EnvM) : List D := envD e.sz e.l (liftF e.r)
theorem fitOf_len (o : Op3) : (fitOf o).pat.length < room := by
  have h := fitPats_len (sumB o.pat % 16) (by omega)
  have e : (fitOf o).pat = fitPats.getD (sumB o.pat % 16) [] := by unfold fitOf; split <;> rfl
  rw [e]
  unfold room
  omega
def stepM (c : Chg) (e : EnvM) : EnvM :=
  if c.kind % 4 = 2 then (match edgeE e.r ((1 + c.g % 9 : Nat) : Int) ((1 + c.h % 9 : Nat) : Int) with | some _ => e | none => ⟨3, e.l, edgeF e.r (1 + c.g % 9) (1 + c.h % 9)⟩)
  else if c.kind % 4 = 3 then (match dropL (fitOf c.op).pat e.l with | none => e | some l' => ⟨3, l', e.r⟩)
  else if mayOf partE (fitOf c.op).pat (fitOf c.op).g (fitOf c.op).a ≠ 0 then e else (match addL (fitOf c.op) e.l with | none => e | some l' => ⟨3, l', e.r⟩)
/-! ### what Step keeps -/
theorem split_len {α : Type} (q : α → Bool) (l : List α) : (l.takeWhile q).length + (l.dropWhile q).length = l.length := by
  have h := congrArg List.length (List.takeWhile_append_dropWhile (p := q) (l := l))
  rw [List.length_append] at h
  exact h
theorem dropL_len {p : List UInt8} {l l' : List Op3} (h : dropL p l = some l') : l'.length ≤ l.length := by
  unfold dropL at h
  have hs := split_len (fun x : Op3 => !(x.pat == p)) l
  split at h
  · cases h
  · rename_i x t e
    cases h
    rw [e, List.length_cons] at hs
    rw [List.length_append]
    omega
theorem addL_len {o : Op3} {l l' : List Op3} (h : addL o l = some l') : l'.length ≤ l.length ∨ l'.length ≤ 16 := by
  unfold addL at h
  have hs := split_len (fun x : Op3 => strLess x.pat o.pat) l
  split at h
  · rename_i e
    split at h
    · cases h
    · cases h
      rw [e, List.length_nil] at hs
      right
      simp only [List.length_append, List.length_cons, List.length_nil]
      omega
  · rename_i x t e
    rw [e, List.length_cons] at hs
    split at h
    · cases h
      left
      simp only [List.length_append, List.length_cons, List.length_nil]
      omega
    · split at h
      · cases h
      · cases h
        right
        simp only [List.length_append, List.length_cons, List.length_nil]
        omega
theorem edgeF_hi {r : Nat → Nat} (hr : ∀ x, 10 ≤ x → r x = 0) {g h : Nat} (hg : g < 10) : ∀ x, 10 ≤ x → edgeF r g h x = 0 := by
  intro x hx
  unfold edgeF
  rw [hr x hx, if_neg]
  rintro (h | h)
  · omega
  · rw [Nat.zero_testBit] at h; cases h
theorem stepM_ok {c : Chg} {e : EnvM} (he : EnvOk e.sz e.l e.r) (hr : RowsOk e.r) : EnvOk (stepM c e).sz (stepM c e).l (stepM c e).r ∧ RowsOk (stepM c e).r := by
  unfold stepM
  split
  · split
    · exact ⟨he, hr⟩
    · rename_i hE
      have hi := edgeE_in hE
      simp only [Int.toNat_natCast] at hi
      have hok : RowsOk (edgeF e.r (1 + c.g % 9) (1 + c.h % 9)) := edge_ok hr (by omega) (by intro e; exact hi.2.2.2.2.1 (by rw [e])) hi.2.2.2.2.2
      exact ⟨⟨.inl rfl, he.len, hok.lt, edgeF_hi he.hi (by omega)⟩, hok⟩
  · split
    · split
      · exact ⟨he, hr⟩
      · rename_i l' hl
        have := dropL_len hl
        have := he.len
        exact ⟨⟨.inl rfl, by simp only []; omega, he.lt, he.hi⟩, hr⟩
    · split
      · exact ⟨he, hr⟩
      · split
        · exact ⟨he, hr⟩
        · rename_i l' hl
          have := addL_len hl
          have := he.len
          exact ⟨⟨.inl rfl, by simp only []; omega, he.lt, he.hi⟩, hr⟩
/-! ### Step -/
theorem ev_remU {cl : Call} {e : Env} {h : Hp} {x y : Opd} {a b : Int} (hx : ev e x = .c (.d (.int .u8 a))) (hy : ev e y = .c (.d (.int .u8 b))) (h0 : 0 ≤ a) (hb : b ≠ 0) : eval cl e h (.bin .rem x y) = some (.c (.d (.int .u8 (a % b))), h) := by
  have : a.tmod b = a % b := Int.tmod_eq_emod_of_nonneg h0
  simp [eval, hx, hy, binV, binD, isShift, binInt, hb, this]
noncomputable def T50 : List DV → Option DV := fam (fun x : EnvM × Chg => [.agg x.1.D, .agg (chgD x.2)]) (fun x => EnvOk x.1.sz x.1.l x.1.r ∧ ChgOk x.2) (fun x => .agg (stepM x.2 x.1).D)
theorem hi_eq {r r' : Nat → Nat} (h : ∀ x, 10 ≤ x → r x = 0) (h' : ∀ x, 10 ≤ x → r' x = 0) (he : ∀ x, x < 10 → r x = r' x) : r = r' := by
  funext x
  by_cases hx : x < 10
  · exact he x hx
  · rw [h x (by omega), h' x (by omega)]
theorem T50_eq {e : EnvM} {c : Chg} (he : EnvOk e.sz e.l e.r) (hc : ChgOk c) : T50 [.agg e.D, .agg (chgD c)] = some (.agg (stepM c e).D) := by
  refine fam_eq (ι := EnvM × Chg) (e, c) ⟨he, hc⟩ ?_
  rintro ⟨⟨sz', l', r'⟩, c'⟩ ⟨he', _⟩ hh
  obtain ⟨sz, l, r⟩ := e
  simp only [List.cons.injEq, DV.agg.injEq, and_true] at hh
  obtain ⟨h1, h2⟩ := hh
  obtain rfl := chgD_inj h2
  have h3 := h1
  unfold EnvM.D envD at h1
  injection h1 with h1 _
  injection h1 with h1 _
  simp only at h1
  subst h1
  obtain ⟨rfl, h4⟩ := envD_inj h3
  obtain rfl := hi_eq he'.hi he.hi (lift_eq h4)
  rfl
set_option maxRecDepth 8000 in
set_option maxHeartbeats 8000000 in
theorem w50 (x : EnvM × Chg) (hx : EnvOk x.1.sz x.1.l x.1.r ∧ ChgOk x.2) : awp (tbl [(22, G22), (66, T66), (67, T67), (68, T68)]) c50 (PureQ [.cell 4 11 true] (.agg (stepM x.2 x.1).D)) ⟨argE 0 (dvArgs [.agg x.1.D, .agg (chgD x.2)]), ⟨0, []⟩⟩ := by
  obtain ⟨⟨sz, l, r⟩, ⟨kind, g, h, o⟩⟩ := x
  obtain ⟨he, hc⟩ := hx
  obtain ⟨ck, cg, ch, cp⟩ := hc
  simp only [chgD] at he ck cg ch cp ⊢
  have h22 := G22_eq cp
  have hfl := fitOf_len o
  have h66 := T66_eq he (1 + (g : Int) % 9) (1 + (h : Int) % 9)
  have eg : 1 + (g : Int) % 9 = ((1 + g % 9 : Nat) : Int) := by omega
  have eh : 1 + (h : Int) % 9 = ((1 + h % 9 : Nat) : Int) := by omega
  have h67 := T67_eq he (fitOf o).pat
  have h68 := T68_eq (o := fitOf o) he hfl
  obtain ⟨opat, og, oa⟩ := o
  unfold stepM
  simp only
  generalize fitOf ⟨opat, og, oa⟩ = f at h22 hfl h67 h68 ⊢
  obtain ⟨fp, fg, fa⟩ := f
  simp only at h67 hfl ⊢
  by_cases h2 : kind % 4 = 2
  · rw [if_pos h2]
    unfold edgeR at h66
    rw [eg, eh] at h66
    simp only [Int.toNat_natCast] at h66
    rw [← eg, ← eh] at h66
    rw [← eg, ← eh]
    cases hE : edgeE r (1 + (g : Int) % 9) (1 + (h : Int) % 9) with
    | some x =>
      have hx0 : (x : Int) ≠ 0 := by
        unfold edgeE at hE
        split at hE
        · cases hE; decide
        · split at hE
          · cases hE; decide
          · cases hE
      rw [hE] at h66
      simp only at h66 ⊢
      unfold c50
      repeat' first
        | (with_reducible first|refine Za ?_|refine Zb ?_|refine Zc ?_|refine Zd ?_|refine Ze ?_|refine Zf ?_|refine Zg ?_|refine Zh ?_|refine Zi ?_|refine Zj ?_|refine Zk ?_|refine Zl ?_|refine Zm ?_|refine Zn ?_|refine Zo ?_|refine Zp ?_|refine Zq ?_|refine Zr ?_|refine Zs ?_|refine Zt ?_|refine Zu ?_)|(with_reducible refine Zv (by decide) ?_)|((with_reducible apply Zw);rfl)|((with_reducible apply Zx);rfl;decide)|((with_reducible apply Zy);rfl)|((with_reducible apply Zz);rfl)|((with_reducible apply ZA);rfl)
        | refine ZB (ev_remU rfl rfl (by omega) (by decide)) ?_
        | ((with_reducible apply step_toI); rfl; omega; omega)
        | refine ZB (ev_remN rfl rfl (by omega) (by decide)) ?_
        | ((with_reducible first|apply ZD|apply ZE|apply ZF|apply ZG|apply ZH|apply ZI);rfl;rfl;all_goals (intro hc;first|(exfalso;omega)|skip))|((with_reducible first|apply ZJ|apply ZK);rfl;rfl;all_goals (intro hc;first|contradiction|skip))|((with_reducible first|apply ZL|apply ZM);rfl;rfl;omega;omega)|((with_reducible first|apply ZN|apply ZO);rfl;rfl;omega;omega;intro c hget hc)|((with_reducible apply ZP);rfl;(first|exact .inl rfl|assumption);rfl;rfl;omega;omega;omega;intro s' hs' hl')|((with_reducible apply ZQ);rfl;rfl;rfl;omega;omega;omega;intro s' hs' hl')|((with_reducible apply ZR);rfl)
        | ((with_reducible apply Z1 (f := 22));rfl;rfl;rfl;exact h22;rfl)
        | ((with_reducible apply Z1 (f := 66));rfl;rfl;rfl;exact h66;rfl)
        | (with_reducible first|refine Za ?_|refine Zb ?_|refine Zc ?_|refine Zd ?_|refine Ze ?_|refine Zf ?_|refine Zg ?_|refine Zh ?_|refine Zi ?_|refine Zj ?_|refine Zk ?_|refine Zl ?_|refine Zm ?_|refine Zn ?_|refine Zo ?_|refine Zp ?_|refine Zq ?_|refine Zr ?_|refine Zs ?_|refine Zt ?_|refine Zu ?_)|(with_reducible refine Zv (by decide) ?_)|((with_reducible apply Zw);rfl)|((with_reducible apply Zx);rfl;decide)|((with_reducible apply Zy);rfl)|((with_reducible apply Zz);rfl)|((with_reducible apply ZA);rfl)|refine ZB rfl ?_|refine ZC rfl ?_
      exact ⟨_, rfl, rfl⟩
    | none =>
      rw [hE] at h66
      simp only at h66 ⊢
      unfold c50
      repeat' first
        | (with_reducible first|refine Za ?_|refine Zb ?_|refine Zc ?_|refine Zd ?_|refine Ze ?_|refine Zf ?_|refine Zg ?_|refine Zh ?_|refine Zi ?_|refine Zj ?_|refine Zk ?_|refine Zl ?_|refine Zm ?_|refine Zn ?_|refine Zo ?_|refine Zp ?_|refine Zq ?_|refine Zr ?_|refine Zs ?_|refine Zt ?_|refine Zu ?_)|(with_reducible refine Zv (by decide) ?_)|((with_reducible apply Zw);rfl)|((with_reducible apply Zx);rfl;decide)|((with_reducible apply Zy);rfl)|((with_reducible apply Zz);rfl)|((with_reducible apply ZA);rfl)
        | refine ZB (ev_remU rfl rfl (by omega) (by decide)) ?_
        | ((with_reducible apply step_toI); rfl; omega; omega)
        | refine ZB (ev_remN rfl rfl (by omega) (by decide)) ?_
        | ((with_reducible first|apply ZD|apply ZE|apply ZF|apply ZG|apply ZH|apply ZI);rfl;rfl;all_goals (intro hc;first|(exfalso;omega)|skip))|((with_reducible first|apply ZJ|apply ZK);rfl;rfl;all_goals (intro hc;first|contradiction|skip))|((with_reducible first|apply ZL|apply ZM);rfl;rfl;omega;omega)|((with_reducible first|apply ZN|apply ZO);rfl;rfl;omega;omega;intro c hget hc)|((with_reducible apply ZP);rfl;(first|exact .inl rfl|assumption);rfl;rfl;omega;omega;omega;intro s' hs' hl')|((with_reducible apply ZQ);rfl;rfl;rfl;omega;omega;omega;intro s' hs' hl')|((with_reducible apply ZR);rfl)
        | ((with_reducible apply Z1 (f := 22));rfl;rfl;rfl;exact h22;rfl)
        | ((with_reducible apply Z1 (f := 66));rfl;rfl;rfl;exact h66;rfl)
        | (with_reducible first|refine Za ?_|refine Zb ?_|refine Zc ?_|refine Zd ?_|refine Ze ?_|refine Zf ?_|refine Zg ?_|refine Zh ?_|refine Zi ?_|refine Zj ?_|refine Zk ?_|refine Zl ?_|refine Zm ?_|refine Zn ?_|refine Zo ?_|refine Zp ?_|refine Zq ?_|refine Zr ?_|refine Zs ?_|refine Zt ?_|refine Zu ?_)|(with_reducible refine Zv (by decide) ?_)|((with_reducible apply Zw);rfl)|((with_reducible apply Zx);rfl;decide)|((with_reducible apply Zy);rfl)|((with_reducible apply Zz);rfl)|((with_reducible apply ZA);rfl)|refine ZB rfl ?_|refine ZC rfl ?_
      exact ⟨_, rfl, rfl⟩
  · rw [if_neg h2]
    by_cases h3 : kind % 4 = 3
    · rw [if_pos h3]
      unfold dropR at h67
      cases hD : dropL fp l with
      | none =>
        rw [hD] at h67
        simp only at h67 ⊢
        unfold c50
        repeat' first
          | (with_reducible first|refine Za ?_|refine Zb ?_|refine Zc ?_|refine Zd ?_|refine Ze ?_|refine Zf ?_|refine Zg ?_|refine Zh ?_|refine Zi ?_|refine Zj ?_|refine Zk ?_|refine Zl ?_|refine Zm ?_|refine Zn ?_|refine Zo ?_|refine Zp ?_|refine Zq ?_|refine Zr ?_|refine Zs ?_|refine Zt ?_|refine Zu ?_)|(with_reducible refine Zv (by decide) ?_)|((with_reducible apply Zw);rfl)|((with_reducible apply Zx);rfl;decide)|((with_reducible apply Zy);rfl)|((with_reducible apply Zz);rfl)|((with_reducible apply ZA);rfl)
          | refine ZB (ev_remU rfl rfl (by omega) (by decide)) ?_
          | ((with_reducible first|apply ZD|apply ZE|apply ZF|apply ZG|apply ZH|apply ZI);rfl;rfl;all_goals (intro hc;first|(exfalso;omega)|skip))|((with_reducible first|apply ZJ|apply ZK);rfl;rfl;all_goals (intro hc;first|contradiction|skip))|((with_reducible first|apply ZL|apply ZM);rfl;rfl;omega;omega)|((with_reducible first|apply ZN|apply ZO);rfl;rfl;omega;omega;intro c hget hc)|((with_reducible apply ZP);rfl;(first|exact .inl rfl|assumption);rfl;rfl;omega;omega;omega;intro s' hs' hl')|((with_reducible apply ZQ);rfl;rfl;rfl;omega;omega;omega;intro s' hs' hl')|((with_reducible apply ZR);rfl)
          | ((with_reducible apply Z1 (f := 22));rfl;rfl;rfl;exact h22;rfl)
          | ((with_reducible apply Z1 (f := 67));rfl;rfl;rfl;exact h67;rfl)
          | (with_reducible first|refine Za ?_|refine Zb ?_|refine Zc ?_|refine Zd ?_|refine Ze ?_|refine Zf ?_|refine Zg ?_|refine Zh ?_|refine Zi ?_|refine Zj ?_|refine Zk ?_|refine Zl ?_|refine Zm ?_|refine Zn ?_|refine Zo ?_|refine Zp ?_|refine Zq ?_|refine Zr ?_|refine Zs ?_|refine Zt ?_|refine Zu ?_)|(with_reducible refine Zv (by decide) ?_)|((with_reducible apply Zw);rfl)|((with_reducible apply Zx);rfl;decide)|((with_reducible apply Zy);rfl)|((with_reducible apply Zz);rfl)|((with_reducible apply ZA);rfl)|refine ZB rfl ?_|refine ZC rfl ?_
        exact ⟨_, rfl, rfl⟩
      | some l' =>
        rw [hD] at h67
        simp only at h67 ⊢
        unfold c50
        repeat' first
          | (with_reducible first|refine Za ?_|refine Zb ?_|refine Zc ?_|refine Zd ?_|refine Ze ?_|refine Zf ?_|refine Zg ?_|refine Zh ?_|refine Zi ?_|refine Zj ?_|refine Zk ?_|refine Zl ?_|refine Zm ?_|refine Zn ?_|refine Zo ?_|refine Zp ?_|refine Zq ?_|refine Zr ?_|refine Zs ?_|refine Zt ?_|refine Zu ?_)|(with_reducible refine Zv (by decide) ?_)|((with_reducible apply Zw);rfl)|((with_reducible apply Zx);rfl;decide)|((with_reducible apply Zy);rfl)|((with_reducible apply Zz);rfl)|((with_reducible apply ZA);rfl)
          | refine ZB (ev_remU rfl rfl (by omega) (by decide)) ?_
          | ((with_reducible first|apply ZD|apply ZE|apply ZF|apply ZG|apply ZH|apply ZI);rfl;rfl;all_goals (intro hc;first|(exfalso;omega)|skip))|((with_reducible first|apply ZJ|apply ZK);rfl;rfl;all_goals (intro hc;first|contradiction|skip))|((with_reducible first|apply ZL|apply ZM);rfl;rfl;omega;omega)|((with_reducible first|apply ZN|apply ZO);rfl;rfl;omega;omega;intro c hget hc)|((with_reducible apply ZP);rfl;(first|exact .inl rfl|assumption);rfl;rfl;omega;omega;omega;intro s' hs' hl')|((with_reducible apply ZQ);rfl;rfl;rfl;omega;omega;omega;intro s' hs' hl')|((with_reducible apply ZR);rfl)
          | ((with_reducible apply Z1 (f := 22));rfl;rfl;rfl;exact h22;rfl)
          | ((with_reducible apply Z1 (f := 67));rfl;rfl;rfl;exact h67;rfl)
          | (with_reducible first|refine Za ?_|refine Zb ?_|refine Zc ?_|refine Zd ?_|refine Ze ?_|refine Zf ?_|refine Zg ?_|refine Zh ?_|refine Zi ?_|refine Zj ?_|refine Zk ?_|refine Zl ?_|refine Zm ?_|refine Zn ?_|refine Zo ?_|refine Zp ?_|refine Zq ?_|refine Zr ?_|refine Zs ?_|refine Zt ?_|refine Zu ?_)|(with_reducible refine Zv (by decide) ?_)|((with_reducible apply Zw);rfl)|((with_reducible apply Zx);rfl;decide)|((with_reducible apply Zy);rfl)|((with_reducible apply Zz);rfl)|((with_reducible apply ZA);rfl)|refine ZB rfl ?_|refine ZC rfl ?_
        exact ⟨_, rfl, rfl⟩
    · rw [if_neg h3]
      unfold addR at h68
      simp only at h68
      by_cases hm : mayOf partE fp fg fa = 0
      · rw [if_neg (by rw [hm]; simp)] at h68
        rw [if_neg (by rw [hm]; simp)]
        cases hA : addL ⟨fp, fg, fa⟩ l with
        | none =>
          rw [hA] at h68
          simp only at h68 ⊢
          unfold c50
          repeat' first
            | (with_reducible first|refine Za ?_|refine Zb ?_|refine Zc ?_|refine Zd ?_|refine Ze ?_|refine Zf ?_|refine Zg ?_|refine Zh ?_|refine Zi ?_|refine Zj ?_|refine Zk ?_|refine Zl ?_|refine Zm ?_|refine Zn ?_|refine Zo ?_|refine Zp ?_|refine Zq ?_|refine Zr ?_|refine Zs ?_|refine Zt ?_|refine Zu ?_)|(with_reducible refine Zv (by decide) ?_)|((with_reducible apply Zw);rfl)|((with_reducible apply Zx);rfl;decide)|((with_reducible apply Zy);rfl)|((with_reducible apply Zz);rfl)|((with_reducible apply ZA);rfl)
            | refine ZB (ev_remU rfl rfl (by omega) (by decide)) ?_
            | ((with_reducible first|apply ZD|apply ZE|apply ZF|apply ZG|apply ZH|apply ZI);rfl;rfl;all_goals (intro hc;first|(exfalso;omega)|skip))|((with_reducible first|apply ZJ|apply ZK);rfl;rfl;all_goals (intro hc;first|contradiction|skip))|((with_reducible first|apply ZL|apply ZM);rfl;rfl;omega;omega)|((with_reducible first|apply ZN|apply ZO);rfl;rfl;omega;omega;intro c hget hc)|((with_reducible apply ZP);rfl;(first|exact .inl rfl|assumption);rfl;rfl;omega;omega;omega;intro s' hs' hl')|((with_reducible apply ZQ);rfl;rfl;rfl;omega;omega;omega;intro s' hs' hl')|((with_reducible apply ZR);rfl)
            | ((with_reducible apply Z1 (f := 22));rfl;rfl;rfl;exact h22;rfl)
            | ((with_reducible apply Z1 (f := 68));rfl;rfl;rfl;exact h68;rfl)
            | (with_reducible first|refine Za ?_|refine Zb ?_|refine Zc ?_|refine Zd ?_|refine Ze ?_|refine Zf ?_|refine Zg ?_|refine Zh ?_|refine Zi ?_|refine Zj ?_|refine Zk ?_|refine Zl ?_|refine Zm ?_|refine Zn ?_|refine Zo ?_|refine Zp ?_|refine Zq ?_|refine Zr ?_|refine Zs ?_|refine Zt ?_|refine Zu ?_)|(with_reducible refine Zv (by decide) ?_)|((with_reducible apply Zw);rfl)|((with_reducible apply Zx);rfl;decide)|((with_reducible apply Zy);rfl)|((with_reducible apply Zz);rfl)|((with_reducible apply ZA);rfl)|refine ZB rfl ?_|refine ZC rfl ?_
          exact ⟨_, rfl, rfl⟩
        | some l' =>
          rw [hA] at h68
          simp only at h68 ⊢
          unfold c50
          repeat' first
            | (with_reducible first|refine Za ?_|refine Zb ?_|refine Zc ?_|refine Zd ?_|refine Ze ?_|refine Zf ?_|refine Zg ?_|refine Zh ?_|refine Zi ?_|refine Zj ?_|refine Zk ?_|refine Zl ?_|refine Zm ?_|refine Zn ?_|refine Zo ?_|refine Zp ?_|refine Zq ?_|refine Zr ?_|refine Zs ?_|refine Zt ?_|refine Zu ?_)|(with_reducible refine Zv (by decide) ?_)|((with_reducible apply Zw);rfl)|((with_reducible apply Zx);rfl;decide)|((with_reducible apply Zy);rfl)|((with_reducible apply Zz);rfl)|((with_reducible apply ZA);rfl)
            | refine ZB (ev_remU rfl rfl (by omega) (by decide)) ?_
            | ((with_reducible first|apply ZD|apply ZE|apply ZF|apply ZG|apply ZH|apply ZI);rfl;rfl;all_goals (intro hc;first|(exfalso;omega)|skip))|((with_reducible first|apply ZJ|apply ZK);rfl;rfl;all_goals (intro hc;first|contradiction|skip))|((with_reducible first|apply ZL|apply ZM);rfl;rfl;omega;omega)|((with_reducible first|apply ZN|apply ZO);rfl;rfl;omega;omega;intro c hget hc)|((with_reducible apply ZP);rfl;(first|exact .inl rfl|assumption);rfl;rfl;omega;omega;omega;intro s' hs' hl')|((with_reducible apply ZQ);rfl;rfl;rfl;omega;omega;omega;intro s' hs' hl')|((with_reducible apply ZR);rfl)
            | ((with_reducible apply Z1 (f := 22));rfl;rfl;rfl;exact h22;rfl)
            | ((with_reducible apply Z1 (f := 68));rfl;rfl;rfl;exact h68;rfl)
            | (with_reducible first|refine Za ?_|refine Zb ?_|refine Zc ?_|refine Zd ?_|refine Ze ?_|refine Zf ?_|refine Zg ?_|refine Zh ?_|refine Zi ?_|refine Zj ?_|refine Zk ?_|refine Zl ?_|refine Zm ?_|refine Zn ?_|refine Zo ?_|refine Zp ?_|refine Zq ?_|refine Zr ?_|refine Zs ?_|refine Zt ?_|refine Zu ?_)|(with_reducible refine Zv (by decide) ?_)|((with_reducible apply Zw);rfl)|((with_reducible apply Zx);rfl;decide)|((with_reducible apply Zy);rfl)|((with_reducible apply Zz);rfl)|((with_reducible apply ZA);rfl)|refine ZB rfl ?_|refine ZC rfl ?_
          exact ⟨_, rfl, rfl⟩
      · rw [if_pos hm] at h68
        rw [if_pos hm]
        unfold c50
        repeat' first
          | (with_reducible first|refine Za ?_|refine Zb ?_|refine Zc ?_|refine Zd ?_|refine Ze ?_|refine Zf ?_|refine Zg ?_|refine Zh ?_|refine Zi ?_|refine Zj ?_|refine Zk ?_|refine Zl ?_|refine Zm ?_|refine Zn ?_|refine Zo ?_|refine Zp ?_|refine Zq ?_|refine Zr ?_|refine Zs ?_|refine Zt ?_|refine Zu ?_)|(with_reducible refine Zv (by decide) ?_)|((with_reducible apply Zw);rfl)|((with_reducible apply Zx);rfl;decide)|((with_reducible apply Zy);rfl)|((with_reducible apply Zz);rfl)|((with_reducible apply ZA);rfl)
          | refine ZB (ev_remU rfl rfl (by omega) (by decide)) ?_
          | ((with_reducible first|apply ZD|apply ZE|apply ZF|apply ZG|apply ZH|apply ZI);rfl;rfl;all_goals (intro hc;first|(exfalso;omega)|skip))|((with_reducible first|apply ZJ|apply ZK);rfl;rfl;all_goals (intro hc;first|contradiction|skip))|((with_reducible first|apply ZL|apply ZM);rfl;rfl;omega;omega)|((with_reducible first|apply ZN|apply ZO);rfl;rfl;omega;omega;intro c hget hc)|((with_reducible apply ZP);rfl;(first|exact .inl rfl|assumption);rfl;rfl;omega;omega;omega;intro s' hs' hl')|((with_reducible apply ZQ);rfl;rfl;rfl;omega;omega;omega;intro s' hs' hl')|((with_reducible apply ZR);rfl)
          | ((with_reducible apply Z1 (f := 22));rfl;rfl;rfl;exact h22;rfl)
          | ((with_reducible apply Z1 (f := 68));rfl;rfl;rfl;exact h68;rfl)
          | (with_reducible first|refine Za ?_|refine Zb ?_|refine Zc ?_|refine Zd ?_|refine Ze ?_|refine Zf ?_|refine Zg ?_|refine Zh ?_|refine Zi ?_|refine Zj ?_|refine Zk ?_|refine Zl ?_|refine Zm ?_|refine Zn ?_|refine Zo ?_|refine Zp ?_|refine Zq ?_|refine Zr ?_|refine Zs ?_|refine Zt ?_|refine Zu ?_)|(with_reducible refine Zv (by decide) ?_)|((with_reducible apply Zw);rfl)|((with_reducible apply Zx);rfl;decide)|((with_reducible apply Zy);rfl)|((with_reducible apply Zz);rfl)|((with_reducible apply ZA);rfl)|refine ZB rfl ?_|refine ZC rfl ?_
        exact ⟨_, rfl, rfl⟩
theorem pok50 (m : Int) : PureOk Go.Proofs.Tryd.prog (glb m) 50 T50 := .inl (fam_ok (fn50 m) (callOk_cons (pok22 m) (callOk_cons (pok66 m) (callOk_cons (pok67 m) (callOk_cons (pok68 m) (callOk_nil _ _))))) w50)
/-! ### Make -/
def newM : EnvM := ⟨0, [], startF⟩
def makeF (l : List Chg) : EnvM := l.foldl (fun e c => stepM c e) newM
def makeM (l : List Chg) : EnvM := makeF (l.take 40)
theorem newM_ok : EnvOk newM.sz newM.l newM.r ∧ RowsOk newM.r := ⟨⟨.inr rfl, by decide, start_ok.lt, fun x hx => by show startF x = 0; unfold startF; rw [if_neg (by omega)]⟩, start_ok⟩
theorem fold_ok : ∀ (l : List Chg) (e : EnvM), EnvOk e.sz e.l e.r ∧ RowsOk e.r → EnvOk (l.foldl (fun e c => stepM c e) e).sz (l.foldl (fun e c => stepM c e) e).l (l.foldl (fun e c => stepM c e) e).r ∧ RowsOk (l.foldl (fun e c => stepM c e) e).r
  | [], _, h => h
  | c :: l, e, h => fold_ok l (stepM c e) (stepM_ok h.1 h.2)
theorem makeF_ok (l : List Chg) : EnvOk (makeF l).sz (makeF l).l (makeF l).r ∧ RowsOk (makeF l).r := fold_ok l newM newM_ok
theorem makeF_snoc (l : List Chg) (c : Chg) : makeF (l ++ [c]) = stepM c (makeF l) := by unfold makeF; rw [List.foldl_append]; rfl
noncomputable def T21 : List DV → Option DV := fam (fun x : Nat × List Chg => [.c (.list x.1 (x.2.map chgD))]) (fun x => ∀ c ∈ x.2, ChgOk c) (fun x => .agg (makeM x.2).D)
theorem T21_eq {sz : Nat} {l : List Chg} (h : ∀ c ∈ l, ChgOk c) : T21 [.c (.list sz (l.map chgD))] = some (.agg (makeM l).D) := by
  refine fam_eq (ι := Nat × List Chg) (sz, l) h ?_
  rintro ⟨sz', l'⟩ _ hh
  simp only [List.cons.injEq, DV.c.injEq, D.list.injEq, and_true] at hh
  rw [map_inj (fun _ _ => chgD_inj) hh.2]
set_option maxRecDepth 8000 in
set_option maxHeartbeats 8000000 in
theorem w21 (x : Nat × List Chg) (hx : ∀ c ∈ x.2, ChgOk c) : awp (tbl [(49, G48), (50, T50)]) c21 (PureQ [.cell 2 11 true] (.agg (makeM x.2).D)) ⟨argE 0 (dvArgs [.c (.list x.1 (x.2.map chgD))]), ⟨0, []⟩⟩ := by
  obtain ⟨sz, l⟩ := x
  simp only at hx ⊢
  have hall := hx
  have hml : (l.map chgD).length = l.length := List.length_map _
  have h49 : G48 [] = some (.agg newM.D) := rfl
  unfold c21
  repeat' first | (with_reducible first|refine Za ?_|refine Zb ?_|refine Zc ?_|refine Zd ?_|refine Ze ?_|refine Zf ?_|refine Zg ?_|refine Zh ?_|refine Zi ?_|refine Zj ?_|refine Zk ?_|refine Zl ?_|refine Zm ?_|refine Zn ?_|refine Zo ?_|refine Zp ?_|refine Zq ?_|refine Zr ?_|refine Zs ?_|refine Zt ?_|refine Zu ?_)|(with_reducible refine Zv (by decide) ?_)|((with_reducible apply Zw);rfl)|((with_reducible apply Zx);rfl;decide)|((with_reducible apply Zy);rfl)|((with_reducible apply Zz);rfl)|((with_reducible apply ZA);rfl) | ((with_reducible apply Z1 (f := 49));rfl;rfl;rfl;exact h49;rfl) | ((with_reducible first|apply ZD|apply ZE|apply ZF|apply ZG|apply ZH|apply ZI);rfl;rfl;all_goals (intro hc;first|(exfalso;omega)|skip))|((with_reducible first|apply ZJ|apply ZK);rfl;rfl;all_goals (intro hc;first|contradiction|skip))|((with_reducible first|apply ZL|apply ZM);rfl;rfl;omega;omega)|((with_reducible first|apply ZN|apply ZO);rfl;rfl;omega;omega;intro c hget hc)|((with_reducible apply ZP);rfl;(first|exact .inl rfl|assumption);rfl;rfl;omega;omega;omega;intro s' hs' hl')|((with_reducible apply ZQ);rfl;rfl;rfl;omega;omega;omega;intro s' hs' hl')|((with_reducible apply ZR);rfl) | (with_reducible first|refine Za ?_|refine Zb ?_|refine Zc ?_|refine Zd ?_|refine Ze ?_|refine Zf ?_|refine Zg ?_|refine Zh ?_|refine Zi ?_|refine Zj ?_|refine Zk ?_|refine Zl ?_|refine Zm ?_|refine Zn ?_|refine Zo ?_|refine Zp ?_|refine Zq ?_|refine Zr ?_|refine Zs ?_|refine Zt ?_|refine Zu ?_)|(with_reducible refine Zv (by decide) ?_)|((with_reducible apply Zw);rfl)|((with_reducible apply Zx);rfl;decide)|((with_reducible apply Zy);rfl)|((with_reducible apply Zz);rfl)|((with_reducible apply ZA);rfl)|refine ZB rfl ?_|refine ZC rfl ?_
  refine awp_loop (fun m st => ∃ i : Nat, i ≤ l.length ∧ i ≤ 40 ∧ l.length - i < m ∧
    st = ⟨[(0, .c (.d (.list sz (l.map chgD)))), (2, .c (.ptr 0 0)), (3, .c (.ptr 1 0)), (4, .c (.d (.int .i64 (i : Nat))))], ⟨2, [(1, .cells ((makeF (l.take i)).D.map .d)), (0, .cells (.nil :: rowsC fun _ => 0))]⟩⟩) (l.length + 1) ?_ (by rintro st ⟨i, h1, h2, h3, _⟩; omega) ?_
  · exact weak_keep [0, 2, 3, 4] rfl ⟨0, by omega, by omega, by omega, rfl⟩
  · rintro m K hK st ⟨i, hi, hi4, hm, rfl⟩
    by_cases hend : i = l.length ∨ i = 40
    · have e : makeM l = makeF (l.take i) := by
        unfold makeM
        congr 1
        rcases hend with h | h
        · rw [h, List.take_length, List.take_of_length_le (by omega)]
        · rw [h]
      rw [e]
      generalize makeF (l.take i) = M
      obtain ⟨msz, ml, mr⟩ := M
      repeat' first | (with_reducible first|refine Za ?_|refine Zb ?_|refine Zc ?_|refine Zd ?_|refine Ze ?_|refine Zf ?_|refine Zg ?_|refine Zh ?_|refine Zi ?_|refine Zj ?_|refine Zk ?_|refine Zl ?_|refine Zm ?_|refine Zn ?_|refine Zo ?_|refine Zp ?_|refine Zq ?_|refine Zr ?_|refine Zs ?_|refine Zt ?_|refine Zu ?_)|(with_reducible refine Zv (by decide) ?_)|((with_reducible apply Zw);rfl)|((with_reducible apply Zx);rfl;decide)|((with_reducible apply Zy);rfl)|((with_reducible apply Zz);rfl)|((with_reducible apply ZA);rfl) | ((with_reducible first|apply ZD|apply ZE|apply ZF|apply ZG|apply ZH|apply ZI);rfl;rfl;all_goals (intro hc;first|(exfalso;omega)|skip))|((with_reducible first|apply ZJ|apply ZK);rfl;rfl;all_goals (intro hc;first|contradiction|skip))|((with_reducible first|apply ZL|apply ZM);rfl;rfl;omega;omega)|((with_reducible first|apply ZN|apply ZO);rfl;rfl;omega;omega;intro c hget hc)|((with_reducible apply ZP);rfl;(first|exact .inl rfl|assumption);rfl;rfl;omega;omega;omega;intro s' hs' hl')|((with_reducible apply ZQ);rfl;rfl;rfl;omega;omega;omega;intro s' hs' hl')|((with_reducible apply ZR);rfl) | (with_reducible first|refine Za ?_|refine Zb ?_|refine Zc ?_|refine Zd ?_|refine Ze ?_|refine Zf ?_|refine Zg ?_|refine Zh ?_|refine Zi ?_|refine Zj ?_|refine Zk ?_|refine Zl ?_|refine Zm ?_|refine Zn ?_|refine Zo ?_|refine Zp ?_|refine Zq ?_|refine Zr ?_|refine Zs ?_|refine Zt ?_|refine Zu ?_)|(with_reducible refine Zv (by decide) ?_)|((with_reducible apply Zw);rfl)|((with_reducible apply Zx);rfl;decide)|((with_reducible apply Zy);rfl)|((with_reducible apply Zz);rfl)|((with_reducible apply ZA);rfl)|refine ZB rfl ?_|refine ZC rfl ?_
      all_goals exact ⟨_, rfl, rfl⟩
    · have hx : l[i]? = some l[i] := List.getElem?_eq_getElem (by omega)
      have hx' : (l.map chgD)[((i : Nat) : Int).toNat]? = some (chgD l[i]) := by simp [hx]
      have h50 := T50_eq (makeF_ok (l.take i)).1 (hall l[i] (List.getElem_mem _))
      rw [← makeF_snoc, ← take_snoc hx] at h50
      generalize l[i] = c at hx hx' h50
      obtain ⟨ck, cg, ch, ⟨cp, cx, cy⟩⟩ := c
      generalize makeF (l.take i) = M at h50 ⊢
      generalize hM : makeF (l.take (i + 1)) = M' at h50
      obtain ⟨msz, ml, mr⟩ := M
      obtain ⟨msz', ml', mr'⟩ := M'
      repeat' first
        | (with_reducible first|refine Za ?_|refine Zb ?_|refine Zc ?_|refine Zd ?_|refine Ze ?_|refine Zf ?_|refine Zg ?_|refine Zh ?_|refine Zi ?_|refine Zj ?_|refine Zk ?_|refine Zl ?_|refine Zm ?_|refine Zn ?_|refine Zo ?_|refine Zp ?_|refine Zq ?_|refine Zr ?_|refine Zs ?_|refine Zt ?_|refine Zu ?_)|(with_reducible refine Zv (by decide) ?_)|((with_reducible apply Zw);rfl)|((with_reducible apply Zx);rfl;decide)|((with_reducible apply Zy);rfl)|((with_reducible apply Zz);rfl)|((with_reducible apply ZA);rfl)
        | ((with_reducible first|apply ZD|apply ZE|apply ZF|apply ZG|apply ZH|apply ZI);rfl;rfl;all_goals (intro hc;first|(exfalso;omega)|skip))|((with_reducible first|apply ZJ|apply ZK);rfl;rfl;all_goals (intro hc;first|contradiction|skip))|((with_reducible first|apply ZL|apply ZM);rfl;rfl;omega;omega)|((with_reducible first|apply ZN|apply ZO);rfl;rfl;omega;omega;intro c hget hc)|((with_reducible apply ZP);rfl;(first|exact .inl rfl|assumption);rfl;rfl;omega;omega;omega;intro s' hs' hl')|((with_reducible apply ZQ);rfl;rfl;rfl;omega;omega;omega;intro s' hs' hl')|((with_reducible apply ZR);rfl)
        | (with_reducible first|refine Za ?_|refine Zb ?_|refine Zc ?_|refine Zd ?_|refine Ze ?_|refine Zf ?_|refine Zg ?_|refine Zh ?_|refine Zi ?_|refine Zj ?_|refine Zk ?_|refine Zl ?_|refine Zm ?_|refine Zn ?_|refine Zo ?_|refine Zp ?_|refine Zq ?_|refine Zr ?_|refine Zs ?_|refine Zt ?_|refine Zu ?_)|(with_reducible refine Zv (by decide) ?_)|((with_reducible apply Zw);rfl)|((with_reducible apply Zx);rfl;decide)|((with_reducible apply Zy);rfl)|((with_reducible apply Zz);rfl)|((with_reducible apply ZA);rfl)|refine ZB rfl ?_|refine ZC rfl ?_
        | with_reducible refine ZS ?_
        | refine ZY (ev_idx rfl rfl (by omega) hx' rfl) (by (repeat' first|exact True.intro|refine ⟨?_, ?_⟩|exact .inl rfl|exact .inr (.inl rfl)|exact .inr (.inr rfl)|rfl)) ?_
        | refine ZY (ev_pcall rfl rfl h50 rfl rfl) (by (repeat' first|exact True.intro|refine ⟨?_, ?_⟩|exact .inl rfl|exact .inr (.inl rfl)|exact .inr (.inr rfl)|rfl)) ?_
        | (with_reducible first|refine ZS ?_|refine ZT ?_)|((with_reducible apply ZU);rfl)|((with_reducible apply ZV);rfl;decide)|((with_reducible apply ZW);rfl)|refine ZX rfl rfl ?_|refine ZY rfl (by (repeat' first|exact True.intro|refine ⟨?_, ?_⟩|exact .inl rfl|exact .inr (.inl rfl)|exact .inr (.inr rfl)|rfl)) ?_|refine ZZ (Z0 rfl ⟨rfl, rfl⟩) (by (repeat' first|exact True.intro|refine ⟨?_, ?_⟩|exact .inl rfl|exact .inr (.inl rfl)|exact .inr (.inr rfl)|rfl)) ?_
      refine hK _ (weak_keep [0, 2, 3, 4] rfl ⟨i + 1, by omega, by omega, by omega, ?_⟩)
      rw [hM]
      rfl
theorem pok21 (m : Int) : PureOk Go.Proofs.Tryd.prog (glb m) 21 T21 := .inl (fam_ok (fn21 m) (callOk_cons (pok49 m) (callOk_cons (pok50 m) (callOk_nil _ _))) w21)
end Go.Am
