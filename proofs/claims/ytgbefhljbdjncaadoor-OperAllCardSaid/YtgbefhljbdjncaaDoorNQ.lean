/-
  OperAll: the law's function comes to true, whatever it is given.
-/
import Derived.Test.YtgbefhljbdjncaaDoorMT
import Derived.Test.YtgbefhljbdjncaaDoorNH
import Derived.Test.YtgbefhljbdjncaaDoorNI
import Derived.Test.YtgbefhljbdjncaaDoorNC
import Derived.Test.YtgbefhljbdjncaaDoorNP
namespace Go.Am
open Go
/-! ### the reference's Simple -/
def fin (name pat : List UInt8) (a : Int) : DV := if name = [] ∨ 0 ≤ Lib.indexByte name 95 then .tup [.c (.str []), .c (.int .i64 0), .c (.int .i64 23)] else .tup [.c (.str pat), .c (.int .i64 a), .c (.int .i64 0)]
theorem fin_bad {name pat : List UInt8} {a : Int} (h : name = [] ∨ 0 ≤ Lib.indexByte name 95) : fin name pat a = .tup [.c (.str []), .c (.int .i64 0), .c (.int .i64 23)] := by unfold fin; rw [if_pos h]
theorem fin_ok {name pat : List UInt8} {a : Int} (h1 : name ≠ []) (h2 : ¬ 0 ≤ Lib.indexByte name 95) : fin name pat a = .tup [.c (.str pat), .c (.int .i64 a), .c (.int .i64 0)] := by
  unfold fin
  rw [if_neg]
  rintro (h | h)
  · exact h1 h
  · exact h2 h
theorem idx_has {s : List UInt8} {i : Nat} {c : UInt8} (h : s[i]? = some c) (hc : (c.toNat : Int) = 95) : 0 ≤ Lib.indexByte s 95 := by
  have hc' : c = 95 := UInt8.toNat_inj.1 (by show c.toNat = 95; omega)
  have hge := Lib.indexByte_ge s 95
  refine Decidable.byContradiction fun hn => ?_
  exact Lib.indexByte_none (l := s) (c := 95) (by omega) i (by rw [h, hc'])
theorem simple_at {kind name pat : List UInt8} {l r : Bool} {a : Nat} (hk : simpleIn simplesT kind = some (l, r, a)) (hl : name.length ≤ 60) (hp : pat = (if l then [95] else []) ++ name ++ (if r then [95] else [])) : simpleDV kind name = some (fin name pat a) := by
  subst hp
  unfold simpleDV
  rw [hk]
  simp only
  unfold fin
  have hj : joinOk [name] [95] = true := by
    simp only [joinOk, join_single, Bool.and_eq_true, decide_eq_true_eq, List.length_cons, List.length_nil]
    unfold room
    omega
  rw [if_pos hj]
  split
  · rfl
  · simp only [textOf, join_single]
theorem simple_no {kind name : List UInt8} (hk : simpleIn simplesT kind = none) : simpleDV kind name = some (.tup [.c (.str []), .c (.int .i64 0), .c (.int .i64 22)]) := by
  unfold simpleDV
  rw [hk]
def G41 : List DV → Option DV
  | [.c (.str kind), .c (.str name)] => if name.length ≤ 60 then simpleDV kind name else none
  | _ => none
set_option maxRecDepth 8000 in
set_option maxHeartbeats 4000000 in
theorem w41r {cl : Call} {name pat : List UInt8} {a : Int} (hl : name.length ≤ 60) : awp cl (c41.tail 4) (PureQ [.t 4, .t 5, .t 6] (fin name pat a)) ⟨[(1, .c (.d (.str name))), (7, .c (.d (.str pat))), (8, .c (.d (.int .i64 a)))], ⟨0, []⟩⟩ := by
  unfold c41
  dsimp only [ACode.tail]
  repeat' first | (with_reducible first|refine Za ?_|refine Zb ?_|refine Zc ?_|refine Zd ?_|refine Ze ?_|refine Zf ?_|refine Zg ?_|refine Zh ?_|refine Zi ?_|refine Zj ?_|refine Zk ?_|refine Zl ?_|refine Zm ?_|refine Zn ?_|refine Zo ?_|refine Zp ?_|refine Zq ?_|refine Zr ?_|refine Zs ?_|refine Zt ?_|refine Zu ?_)|(with_reducible refine Zv (by decide) ?_)|((with_reducible apply Zw);rfl)|((with_reducible apply Zx);rfl;decide)|((with_reducible apply Zy);rfl)|((with_reducible apply Zz);rfl)|((with_reducible apply ZA);rfl) | (with_reducible first|refine Za ?_|refine Zb ?_|refine Zc ?_|refine Zd ?_|refine Ze ?_|refine Zf ?_|refine Zg ?_|refine Zh ?_|refine Zi ?_|refine Zj ?_|refine Zk ?_|refine Zl ?_|refine Zm ?_|refine Zn ?_|refine Zo ?_|refine Zp ?_|refine Zq ?_|refine Zr ?_|refine Zs ?_|refine Zt ?_|refine Zu ?_)|(with_reducible refine Zv (by decide) ?_)|((with_reducible apply Zw);rfl)|((with_reducible apply Zx);rfl;decide)|((with_reducible apply Zy);rfl)|((with_reducible apply Zz);rfl)|((with_reducible apply ZA);rfl)|refine ZB rfl ?_|refine ZC rfl ?_
  refine awp_loop (fun m st => ∃ i : Nat, i ≤ name.length ∧ name.length - i < m ∧ (∀ (j : Nat) (c : UInt8), j < i → name[j]? = some c → (c.toNat : Int) ≠ 95) ∧
    st = ⟨[(1, .c (.d (.str name))), (7, .c (.d (.str pat))), (8, .c (.d (.int .i64 a))), (9, .c (.d (.int .i64 (i : Nat))))], ⟨0, []⟩⟩) (name.length + 1) ?_ (by rintro st ⟨i, h1, h2, _⟩; omega) ?_
  · exact weak_keep [1, 7, 8, 9] rfl ⟨0, by omega, by omega, fun j c hj => by omega, rfl⟩
  · rintro m K hK st ⟨i, hi, hm, hno, rfl⟩
    by_cases hend : i = name.length
    · have hidx := of_decide_eq_false (no95_idx' (s := name) (fun j c hc => hno j c (by have := (List.getElem?_eq_some_iff.1 hc).1; omega) hc))
      by_cases hn : name = []
      · rw [fin_bad (.inl hn)]
        repeat' first
          | (with_reducible first|refine Za ?_|refine Zb ?_|refine Zc ?_|refine Zd ?_|refine Ze ?_|refine Zf ?_|refine Zg ?_|refine Zh ?_|refine Zi ?_|refine Zj ?_|refine Zk ?_|refine Zl ?_|refine Zm ?_|refine Zn ?_|refine Zo ?_|refine Zp ?_|refine Zq ?_|refine Zr ?_|refine Zs ?_|refine Zt ?_|refine Zu ?_)|(with_reducible refine Zv (by decide) ?_)|((with_reducible apply Zw);rfl)|((with_reducible apply Zx);rfl;decide)|((with_reducible apply Zy);rfl)|((with_reducible apply Zz);rfl)|((with_reducible apply ZA);rfl)
          | refine ZB (ev_eqs_t rfl rfl hn) ?_
          | ((with_reducible first|apply ZD|apply ZE|apply ZF|apply ZG|apply ZH|apply ZI);rfl;rfl;all_goals (intro hc;first|(exfalso;omega)|skip))|((with_reducible first|apply ZJ|apply ZK);rfl;rfl;all_goals (intro hc;first|contradiction|skip))|((with_reducible first|apply ZL|apply ZM);rfl;rfl;omega;omega)|((with_reducible first|apply ZN|apply ZO);rfl;rfl;omega;omega;intro c hget hc)|((with_reducible apply ZP);rfl;(first|exact .inl rfl|assumption);rfl;rfl;omega;omega;omega;intro s' hs' hl')|((with_reducible apply ZQ);rfl;rfl;rfl;omega;omega;omega;intro s' hs' hl')|((with_reducible apply ZR);rfl)
          | (with_reducible first|refine Za ?_|refine Zb ?_|refine Zc ?_|refine Zd ?_|refine Ze ?_|refine Zf ?_|refine Zg ?_|refine Zh ?_|refine Zi ?_|refine Zj ?_|refine Zk ?_|refine Zl ?_|refine Zm ?_|refine Zn ?_|refine Zo ?_|refine Zp ?_|refine Zq ?_|refine Zr ?_|refine Zs ?_|refine Zt ?_|refine Zu ?_)|(with_reducible refine Zv (by decide) ?_)|((with_reducible apply Zw);rfl)|((with_reducible apply Zx);rfl;decide)|((with_reducible apply Zy);rfl)|((with_reducible apply Zz);rfl)|((with_reducible apply ZA);rfl)|refine ZB rfl ?_|refine ZC rfl ?_
        exact ⟨_, rfl, rfl⟩
      · rw [fin_ok hn hidx]
        repeat' first
          | (with_reducible first|refine Za ?_|refine Zb ?_|refine Zc ?_|refine Zd ?_|refine Ze ?_|refine Zf ?_|refine Zg ?_|refine Zh ?_|refine Zi ?_|refine Zj ?_|refine Zk ?_|refine Zl ?_|refine Zm ?_|refine Zn ?_|refine Zo ?_|refine Zp ?_|refine Zq ?_|refine Zr ?_|refine Zs ?_|refine Zt ?_|refine Zu ?_)|(with_reducible refine Zv (by decide) ?_)|((with_reducible apply Zw);rfl)|((with_reducible apply Zx);rfl;decide)|((with_reducible apply Zy);rfl)|((with_reducible apply Zz);rfl)|((with_reducible apply ZA);rfl)
          | refine ZB (ev_eqs_f rfl rfl hn) ?_
          | ((with_reducible first|apply ZD|apply ZE|apply ZF|apply ZG|apply ZH|apply ZI);rfl;rfl;all_goals (intro hc;first|(exfalso;omega)|skip))|((with_reducible first|apply ZJ|apply ZK);rfl;rfl;all_goals (intro hc;first|contradiction|skip))|((with_reducible first|apply ZL|apply ZM);rfl;rfl;omega;omega)|((with_reducible first|apply ZN|apply ZO);rfl;rfl;omega;omega;intro c hget hc)|((with_reducible apply ZP);rfl;(first|exact .inl rfl|assumption);rfl;rfl;omega;omega;omega;intro s' hs' hl')|((with_reducible apply ZQ);rfl;rfl;rfl;omega;omega;omega;intro s' hs' hl')|((with_reducible apply ZR);rfl)
          | (with_reducible first|refine Za ?_|refine Zb ?_|refine Zc ?_|refine Zd ?_|refine Ze ?_|refine Zf ?_|refine Zg ?_|refine Zh ?_|refine Zi ?_|refine Zj ?_|refine Zk ?_|refine Zl ?_|refine Zm ?_|refine Zn ?_|refine Zo ?_|refine Zp ?_|refine Zq ?_|refine Zr ?_|refine Zs ?_|refine Zt ?_|refine Zu ?_)|(with_reducible refine Zv (by decide) ?_)|((with_reducible apply Zw);rfl)|((with_reducible apply Zx);rfl;decide)|((with_reducible apply Zy);rfl)|((with_reducible apply Zz);rfl)|((with_reducible apply ZA);rfl)|refine ZB rfl ?_|refine ZC rfl ?_
        exact ⟨_, rfl, rfl⟩
    · repeat' first
        | (with_reducible first|refine Za ?_|refine Zb ?_|refine Zc ?_|refine Zd ?_|refine Ze ?_|refine Zf ?_|refine Zg ?_|refine Zh ?_|refine Zi ?_|refine Zj ?_|refine Zk ?_|refine Zl ?_|refine Zm ?_|refine Zn ?_|refine Zo ?_|refine Zp ?_|refine Zq ?_|refine Zr ?_|refine Zs ?_|refine Zt ?_|refine Zu ?_)|(with_reducible refine Zv (by decide) ?_)|((with_reducible apply Zw);rfl)|((with_reducible apply Zx);rfl;decide)|((with_reducible apply Zy);rfl)|((with_reducible apply Zz);rfl)|((with_reducible apply ZA);rfl)
        | ((with_reducible first|apply ZD|apply ZE|apply ZF|apply ZG|apply ZH|apply ZI);rfl;rfl;all_goals (intro hc;first|(exfalso;omega)|skip))|((with_reducible first|apply ZJ|apply ZK);rfl;rfl;all_goals (intro hc;first|contradiction|skip))|((with_reducible first|apply ZL|apply ZM);rfl;rfl;omega;omega)|((with_reducible first|apply ZN|apply ZO);rfl;rfl;omega;omega;intro c hget hc)|((with_reducible apply ZP);rfl;(first|exact .inl rfl|assumption);rfl;rfl;omega;omega;omega;intro s' hs' hl')|((with_reducible apply ZQ);rfl;rfl;rfl;omega;omega;omega;intro s' hs' hl')|((with_reducible apply ZR);rfl)
        | (with_reducible first|refine Za ?_|refine Zb ?_|refine Zc ?_|refine Zd ?_|refine Ze ?_|refine Zf ?_|refine Zg ?_|refine Zh ?_|refine Zi ?_|refine Zj ?_|refine Zk ?_|refine Zl ?_|refine Zm ?_|refine Zn ?_|refine Zo ?_|refine Zp ?_|refine Zq ?_|refine Zr ?_|refine Zs ?_|refine Zt ?_|refine Zu ?_)|(with_reducible refine Zv (by decide) ?_)|((with_reducible apply Zw);rfl)|((with_reducible apply Zx);rfl;decide)|((with_reducible apply Zy);rfl)|((with_reducible apply Zz);rfl)|((with_reducible apply ZA);rfl)|refine ZB rfl ?_|refine ZC rfl ?_
      · rw [fin_bad (.inr (idx_has (by simpa using hget) (by omega)))]
        exact ⟨_, rfl, rfl⟩
      · refine hK _ (weak_keep [1, 7, 8, 9] rfl ⟨i + 1, by omega, by omega, fun j c' hj hc' => ?_, rfl⟩)
        by_cases hji : j = i
        · subst hji
          have e0 : name[j]? = some c := by simpa using hget
          obtain rfl := Option.some.inj (e0.symm.trans hc')
          omega
        · exact hno j c' (by omega) hc'
set_option maxRecDepth 8000 in
set_option maxHeartbeats 4000000 in
theorem w41 (ds : List DV) (r : DV) (h : G41 ds = some r) : awp (tbl []) c41 (PureQ [.t 4, .t 5, .t 6] r) ⟨argE 0 (dvArgs ds), ⟨0, []⟩⟩ := by
  unfold G41 at h
  split at h
  · rename_i kind name
    split at h
    · rename_i hl
      have hfin : ∀ pat a, awp (tbl []) (c41.tail 4) (PureQ [.t 4, .t 5, .t 6] (fin name pat a)) ⟨[(1, .c (.d (.str name))), (7, .c (.d (.str pat))), (8, .c (.d (.int .i64 a)))], ⟨0, []⟩⟩ := fun pat a => w41r hl
      by_cases k1 : kind = [120, 102, 120]
      rotate_left
      by_cases k2 : kind = [120, 102, 121]
      rotate_left
      by_cases k3 : kind = [121, 102, 120]
      rotate_left
      by_cases k4 : kind = [102, 120]
      rotate_left
      by_cases k5 : kind = [102, 121]
      rotate_left
      by_cases k6 : kind = [120, 102]
      rotate_left
      by_cases k7 : kind = [121, 102]
      rotate_left
      · rw [simple_no (by simp [simpleIn, simplesT, Ne.symm k1, Ne.symm k2, Ne.symm k3, Ne.symm k4, Ne.symm k5, Ne.symm k6, Ne.symm k7])] at h
        cases h
        unfold c41
        repeat' first
          | (with_reducible first|refine Za ?_|refine Zb ?_|refine Zc ?_|refine Zd ?_|refine Ze ?_|refine Zf ?_|refine Zg ?_|refine Zh ?_|refine Zi ?_|refine Zj ?_|refine Zk ?_|refine Zl ?_|refine Zm ?_|refine Zn ?_|refine Zo ?_|refine Zp ?_|refine Zq ?_|refine Zr ?_|refine Zs ?_|refine Zt ?_|refine Zu ?_)|(with_reducible refine Zv (by decide) ?_)|((with_reducible apply Zw);rfl)|((with_reducible apply Zx);rfl;decide)|((with_reducible apply Zy);rfl)|((with_reducible apply Zz);rfl)|((with_reducible apply ZA);rfl)
          | refine ZB (ev_eqs_f rfl rfl k1) ?_
          | refine ZB (ev_eqs_f rfl rfl k2) ?_
          | refine ZB (ev_eqs_f rfl rfl k3) ?_
          | refine ZB (ev_eqs_f rfl rfl k4) ?_
          | refine ZB (ev_eqs_f rfl rfl k5) ?_
          | refine ZB (ev_eqs_f rfl rfl k6) ?_
          | refine ZB (ev_eqs_f rfl rfl k7) ?_
          | (with_reducible first|refine Za ?_|refine Zb ?_|refine Zc ?_|refine Zd ?_|refine Ze ?_|refine Zf ?_|refine Zg ?_|refine Zh ?_|refine Zi ?_|refine Zj ?_|refine Zk ?_|refine Zl ?_|refine Zm ?_|refine Zn ?_|refine Zo ?_|refine Zp ?_|refine Zq ?_|refine Zr ?_|refine Zs ?_|refine Zt ?_|refine Zu ?_)|(with_reducible refine Zv (by decide) ?_)|((with_reducible apply Zw);rfl)|((with_reducible apply Zx);rfl;decide)|((with_reducible apply Zy);rfl)|((with_reducible apply Zz);rfl)|((with_reducible apply ZA);rfl)|refine ZB rfl ?_|refine ZC rfl ?_
        exact ⟨_, rfl, rfl⟩
      rw [simple_at (pat := [95] ++ name ++ [95]) (l := true) (r := true) (a := 0) (by rw [k1]; rfl) hl rfl] at h
      cases h
      have hfin := hfin ([95] ++ name ++ [95]) 0
      rotate_left
      rw [simple_at (pat := [95] ++ name ++ [95]) (l := true) (r := true) (a := 2) (by rw [k2]; rfl) hl rfl] at h
      cases h
      have hfin := hfin ([95] ++ name ++ [95]) 2
      rotate_left
      rw [simple_at (pat := [95] ++ name ++ [95]) (l := true) (r := true) (a := 1) (by rw [k3]; rfl) hl rfl] at h
      cases h
      have hfin := hfin ([95] ++ name ++ [95]) 1
      rotate_left
      rw [simple_at (pat := name ++ [95]) (l := false) (r := true) (a := 0) (by rw [k4]; rfl) hl (by simp)] at h
      cases h
      have hfin := hfin (name ++ [95]) 0
      rotate_left
      rw [simple_at (pat := name ++ [95]) (l := false) (r := true) (a := 2) (by rw [k5]; rfl) hl (by simp)] at h
      cases h
      have hfin := hfin (name ++ [95]) 2
      rotate_left
      rw [simple_at (pat := [95] ++ name) (l := true) (r := false) (a := 0) (by rw [k6]; rfl) hl (by simp)] at h
      cases h
      have hfin := hfin ([95] ++ name) 0
      rotate_left
      rw [simple_at (pat := [95] ++ name) (l := true) (r := false) (a := 1) (by rw [k7]; rfl) hl (by simp)] at h
      cases h
      have hfin := hfin ([95] ++ name) 1
      rotate_left
      all_goals
        unfold c41
        repeat' first
          | ((with_reducible apply weak_keep [1, 7, 8]); rfl; exact hfin)
          | (with_reducible first|refine Za ?_|refine Zb ?_|refine Zc ?_|refine Zd ?_|refine Ze ?_|refine Zf ?_|refine Zg ?_|refine Zh ?_|refine Zi ?_|refine Zj ?_|refine Zk ?_|refine Zl ?_|refine Zm ?_|refine Zn ?_|refine Zo ?_|refine Zp ?_|refine Zq ?_|refine Zr ?_|refine Zs ?_|refine Zt ?_|refine Zu ?_)|(with_reducible refine Zv (by decide) ?_)|((with_reducible apply Zw);rfl)|((with_reducible apply Zx);rfl;decide)|((with_reducible apply Zy);rfl)|((with_reducible apply Zz);rfl)|((with_reducible apply ZA);rfl)
          | refine ZB (ev_eqs_f rfl rfl k1) ?_
          | refine ZB (ev_eqs_t rfl rfl k1) ?_
          | refine ZB (ev_eqs_f rfl rfl k2) ?_
          | refine ZB (ev_eqs_t rfl rfl k2) ?_
          | refine ZB (ev_eqs_f rfl rfl k3) ?_
          | refine ZB (ev_eqs_t rfl rfl k3) ?_
          | refine ZB (ev_eqs_f rfl rfl k4) ?_
          | refine ZB (ev_eqs_t rfl rfl k4) ?_
          | refine ZB (ev_eqs_f rfl rfl k5) ?_
          | refine ZB (ev_eqs_t rfl rfl k5) ?_
          | refine ZB (ev_eqs_f rfl rfl k6) ?_
          | refine ZB (ev_eqs_t rfl rfl k6) ?_
          | refine ZB (ev_eqs_f rfl rfl k7) ?_
          | refine ZB (ev_eqs_t rfl rfl k7) ?_
          | refine ZB (ev_adds rfl rfl (by first | omega | (simp only [List.length_append, List.length_cons, List.length_nil]; omega))) ?_
          | (with_reducible first|refine Za ?_|refine Zb ?_|refine Zc ?_|refine Zd ?_|refine Ze ?_|refine Zf ?_|refine Zg ?_|refine Zh ?_|refine Zi ?_|refine Zj ?_|refine Zk ?_|refine Zl ?_|refine Zm ?_|refine Zn ?_|refine Zo ?_|refine Zp ?_|refine Zq ?_|refine Zr ?_|refine Zs ?_|refine Zt ?_|refine Zu ?_)|(with_reducible refine Zv (by decide) ?_)|((with_reducible apply Zw);rfl)|((with_reducible apply Zx);rfl;decide)|((with_reducible apply Zy);rfl)|((with_reducible apply Zz);rfl)|((with_reducible apply ZA);rfl)|refine ZB rfl ?_|refine ZC rfl ?_
    · cases h
  · cases h
theorem pok41 (m : Int) : PureOk Go.Proofs.Tryd.prog (glbS m) 41 G41 := pure_ok (fn41 m) (callOk_nil _ _) w41
theorem simple_some (kind : List UInt8) {name : List UInt8} (hl : name.length ≤ 60) : ∃ (q : List UInt8) (a e : Int), simpleDV kind name = some (.tup [.c (.str q), .c (.int .i64 a), .c (.int .i64 e)]) := by
  cases hk : simpleIn simplesT kind with
  | none => exact ⟨_, _, _, simple_no hk⟩
  | some v =>
    obtain ⟨l, r, a⟩ := v
    rw [simple_at hk hl rfl]
    unfold fin
    split
    · exact ⟨_, _, _, rfl⟩
    · exact ⟨_, _, _, rfl⟩
/-! ### the law -/
noncomputable def T13 : List DV → Option DV := fam (fun x : Op3 × List UInt8 × List UInt8 => [.agg (opD x.1), .c (.str x.2.1), .c (.str x.2.2)]) (fun _ => True) (fun _ => .c (.bool true))
theorem T13_eq {o : Op3} {k n : List UInt8} : T13 [.agg (opD o), .c (.str k), .c (.str n)] = some (.c (.bool true)) :=
  fam_eq (ι := Op3 × List UInt8 × List UInt8) (o, k, n) True.intro (fun _ _ _ => rfl)
set_option maxRecDepth 8000 in
set_option maxHeartbeats 8000000 in
theorem w13 (x : Op3 × List UInt8 × List UInt8) (_ : True) : awp (tbl [(38, G17), (39, G18), (40, G40), (41, G41), (42, G42 partE), (43, G43)]) c13 (PureQ [.t 6] (.c (.bool true))) ⟨argE 0 (dvArgs [.agg (opD x.1), .c (.str x.2.1), .c (.str x.2.2)]), ⟨0, []⟩⟩ := by
  obtain ⟨⟨pat, g, a⟩, kind, name⟩ := x
  have h38 : G17 [] = some (.c (.bool true)) := rfl
  have h39p : G18 [.c (.str pat)] = some (.c (.str (pat.take 60))) := rfl
  have h39k : G18 [.c (.str kind)] = some (.c (.str (kind.take 60))) := rfl
  have h39n : G18 [.c (.str name)] = some (.c (.str (name.take 60))) := rfl
  have hpl : (pat.take 60).length ≤ 60 := by rw [List.length_take]; omega
  have hnl : (name.take 60).length ≤ 60 := by rw [List.length_take]; omega
  simp only [opD]
  generalize pat.take 60 = p at h39p hpl
  generalize kind.take 60 = k at h39k
  generalize name.take 60 = n at h39n hnl
  have h42 : G42 partE [.agg [.str p, .int .i64 g, .int .i64 a]] = some (.c (.int .i64 (mayOf partE p g a))) := rfl
  have h43 : G43 [.agg [.str p, .int .i64 g, .int .i64 a]] = some (.c (.int .i64 (mayOf partE p g a))) := by simp only [G43, if_pos (show p.length < room by unfold room; omega)]
  obtain ⟨q, b, e, hs⟩ := simple_some k hnl
  have h40 : G40 [.c (.str k), .c (.str n)] = some (.tup [.c (.str q), .c (.int .i64 b), .c (.int .i64 e)]) := hs
  have h41 : G41 [.c (.str k), .c (.str n)] = some (.tup [.c (.str q), .c (.int .i64 b), .c (.int .i64 e)]) := by simp only [G41, if_pos hnl]; exact hs
  generalize mayOf partE p g a = v at h42 h43
  have heq : ∀ z : Int, binInt .eql .i64 z z = some (.bool true) := fun z => by simp [binInt]
  unfold c13
  repeat' first
    | (with_reducible first|refine Za ?_|refine Zb ?_|refine Zc ?_|refine Zd ?_|refine Ze ?_|refine Zf ?_|refine Zg ?_|refine Zh ?_|refine Zi ?_|refine Zj ?_|refine Zk ?_|refine Zl ?_|refine Zm ?_|refine Zn ?_|refine Zo ?_|refine Zp ?_|refine Zq ?_|refine Zr ?_|refine Zs ?_|refine Zt ?_|refine Zu ?_)|(with_reducible refine Zv (by decide) ?_)|((with_reducible apply Zw);rfl)|((with_reducible apply Zx);rfl;decide)|((with_reducible apply Zy);rfl)|((with_reducible apply Zz);rfl)|((with_reducible apply ZA);rfl)
    | ((with_reducible apply Z1 (f := 38));rfl;rfl;rfl;exact h38;rfl)
    | ((with_reducible apply Z1 (f := 39));rfl;rfl;rfl;exact h39p;rfl)
    | ((with_reducible apply Z1 (f := 39));rfl;rfl;rfl;exact h39k;rfl)
    | ((with_reducible apply Z1 (f := 39));rfl;rfl;rfl;exact h39n;rfl)
    | ((with_reducible apply Z1 (f := 40));rfl;rfl;rfl;exact h40;rfl)
    | ((with_reducible apply Z1 (f := 41));rfl;rfl;rfl;exact h41;rfl)
    | with_reducible refine ZS ?_
    | refine ZY (ev_pcall rfl rfl h42 rfl rfl) (by (repeat' first|exact True.intro|refine ⟨?_, ?_⟩|exact .inl rfl|exact .inr (.inl rfl)|exact .inr (.inr rfl)|rfl)) ?_
    | refine ZY (ev_pcall rfl rfl h43 rfl rfl) (by (repeat' first|exact True.intro|refine ⟨?_, ?_⟩|exact .inl rfl|exact .inr (.inl rfl)|exact .inr (.inr rfl)|rfl)) ?_
    | refine ZX rfl (ev_eqs_t rfl rfl rfl) ?_
    | refine ZX rfl (ev_cmp rfl rfl (heq _) rfl) ?_
    | (with_reducible first|refine ZS ?_|refine ZT ?_)|((with_reducible apply ZU);rfl)|((with_reducible apply ZV);rfl;decide)|((with_reducible apply ZW);rfl)|refine ZX rfl rfl ?_|refine ZY rfl (by (repeat' first|exact True.intro|refine ⟨?_, ?_⟩|exact .inl rfl|exact .inr (.inl rfl)|exact .inr (.inr rfl)|rfl)) ?_
    | (with_reducible first|refine Za ?_|refine Zb ?_|refine Zc ?_|refine Zd ?_|refine Ze ?_|refine Zf ?_|refine Zg ?_|refine Zh ?_|refine Zi ?_|refine Zj ?_|refine Zk ?_|refine Zl ?_|refine Zm ?_|refine Zn ?_|refine Zo ?_|refine Zp ?_|refine Zq ?_|refine Zr ?_|refine Zs ?_|refine Zt ?_|refine Zu ?_)|(with_reducible refine Zv (by decide) ?_)|((with_reducible apply Zw);rfl)|((with_reducible apply Zx);rfl;decide)|((with_reducible apply Zy);rfl)|((with_reducible apply Zz);rfl)|((with_reducible apply ZA);rfl)|refine ZB rfl ?_|refine ZC rfl ?_
  exact ⟨_, rfl, rfl⟩
/-- THE LAW's FUNCTION: true, of any operator, kind and name. -/
theorem operAll_ok (m : Int) : PureFn Go.Proofs.Tryd.prog (glbS m) 13 T13 := by
  have p46 := pok46 (pe37 m) kbE
  have p19 : PureOk Go.Proofs.Tryd.prog (glbS m) 19 (G19 partE) := (pok19 (pok47 (pok63 (pok45 p46)))).s
  have p42 := pok42 p19
  have p38 : PureOk Go.Proofs.Tryd.prog (glbS m) 38 G17 := pure_ok (fn38 m) (callOk_cons (pok40 m) (callOk_cons p42 (callOk_nil _ _))) (w38 kbE)
  have p39 : PureOk Go.Proofs.Tryd.prog (glbS m) 39 G18 := pure_ok (fn39 m) (callOk_nil _ _) w39
  exact fam_ok (fn13 m) (callOk_cons p38 (callOk_cons p39 (callOk_cons (pok40 m) (callOk_cons (pok41 m) (callOk_cons p42 (callOk_cons (pok43 m).s (callOk_nil _ _))))))) w13
end Go.Am
