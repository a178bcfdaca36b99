/-
  ShapeAll: the law's function comes to true, whatever it is given.
-/
import Derived.Test.YtgbefhljbdjncaaDoorMT
import Derived.Test.YtgbefhljbdjncaaDoorNH
import Derived.Test.YtgbefhljbdjncaaDoorNI
import Derived.Test.YtgbefhljbdjncaaDoorNK
import Derived.Test.YtgbefhljbdjncaaDoorNJ
namespace Go.Am
open Go
/-! ### a shape of six parts at most -/
def cut6 (ss : List (List UInt8)) : List (List UInt8) := (ss.take 6).map (List.take 30)
theorem cut6_at {ss : List (List UInt8)} {i : Nat} (h : i < ss.length) : (ss.take (i + 1)).map (List.take 30) = (ss.take i).map (List.take 30) ++ [ss[i].take 30] := by
  rw [List.take_add_one, List.getElem?_eq_getElem h, List.map_append]
  rfl
theorem jl_30 : ∀ ss : List (List UInt8), (joinOf (ss.map (List.take 30)) [95]).length ≤ 31 * ss.length
  | [] => by simp [joinOf, Lib.join, List.intercalate]
  | [x] => by rw [List.map_cons, List.map_nil, join_single, List.length_take]; simp; omega
  | x :: y :: r => by
    have ih := jl_30 (y :: r)
    rw [List.map_cons, List.map_cons, join_cons2]
    simp only [List.map_cons, List.length_append, List.length_cons, List.length_take] at ih ⊢
    omega
theorem cut6_join (ss : List (List UInt8)) : joinOk (cut6 ss) [95] = true := by
  have h1 := jl_30 (ss.take 6)
  have h2 : (ss.take 6).length ≤ 6 := by rw [List.length_take]; omega
  have h3 : (cut6 ss).length ≤ 6 := by unfold cut6; rw [List.length_map]; exact h2
  have h4 : (joinOf (cut6 ss) [95]).length ≤ 186 := Nat.le_trans h1 (by omega)
  simp only [joinOk, Bool.and_eq_true, decide_eq_true_eq]
  unfold room
  omega
def svA (sz : Nat) (ss : List (List UInt8)) (l r : Bool) : List D := [.list sz (ofStrs ss), .bool l, .bool r]
def zOf (t : List (List UInt8)) : Nat := if t = [] then 0 else 1
noncomputable def T35 : List DV → Option DV := fam (fun x : Nat × List (List UInt8) × Bool × Bool => [.agg (svA x.1 x.2.1 x.2.2.1 x.2.2.2)]) (fun _ => True) (fun x => .agg (svA (zOf (cut6 x.2.1)) (cut6 x.2.1) x.2.2.1 x.2.2.2))
theorem T35_eq {sz : Nat} {ss : List (List UInt8)} {a b : Bool} : T35 [.agg [.list sz (ofStrs ss), .bool a, .bool b]] = some (.agg [.list (zOf (cut6 ss)) (ofStrs (cut6 ss)), .bool a, .bool b]) := by
  refine fam_eq (ι := Nat × List (List UInt8) × Bool × Bool) (sz, ss, a, b) True.intro ?_
  rintro ⟨sz', ss', a', b'⟩ _ he
  simp only [svA, List.cons.injEq, DV.agg.injEq, D.list.injEq, D.bool.injEq, and_true] at he
  obtain ⟨⟨_, h1⟩, rfl, rfl⟩ := he
  rw [ofStrs_inj h1]
def hp35 (sz : Nat) (ss : List (List UInt8)) (l r : Bool) : List (List UInt8) → Hp
  | [] => ⟨3, [(2, .cells [.nil, .d (.bool l), .d (.bool r)]), (1, .cells zeroS), (0, .cells [.d (.list sz (ofStrs ss)), .d (.bool l), .d (.bool r)])]⟩
  | s :: t => ⟨4, [(3, .row 1 (ofStrs (s :: t))), (2, .cells [.own 3 (s :: t).length, .d (.bool l), .d (.bool r)]), (1, .cells zeroS), (0, .cells [.d (.list sz (ofStrs ss)), .d (.bool l), .d (.bool r)])]⟩
section
variable {cl : Call} {nx : Nat} {ob : List (Nat × Ob)} {x y : Opd}
theorem ev_app_k {e : Env} {k : Nat} {ob' : List (Nat × Ob)} {ss : List (List UInt8)} {p : List UInt8} (hx : ev e x = .c (.own k ss.length)) (hy : ev e y = .c (.d (.list 1 [[.str p]]))) (hl : look ob k = some (.row 1 (ofStrs ss))) (hr : ss.length ≤ 1000) (hp : put ob k (.row 1 (ofStrs (ss ++ [p]))) = some ob') :
    eval cl e ⟨nx, ob⟩ (.append x y 1) = some (.c (.own k (ss ++ [p]).length), ⟨nx, ob'⟩) := by
  have e1 : ofStrs ss ++ [[.str p]] = ofStrs (ss ++ [p]) := by simp [ofStrs]
  have e2 : (ofStrs ss ++ [[D.str p]]).length = (ss ++ [p]).length := by rw [e1, ofStrs_len]
  rw [ev_app_own hx hy hl (ofStrs_len ss).symm (by rw [ofStrs_len]; simp; unfold room; omega) (by rw [e1]; exact hp), e2]
theorem ownK {h : Hp} {k : Nat} {ss : List (List UInt8)} {a b : Bool} (hl : look h.obs k = some (.row 1 (ofStrs ss))) : V.toDVt h (.agg [.own k ss.length, .d (.bool a), .d (.bool b)]) = some (.agg [.list 1 (ofStrs ss), .bool a, .bool b]) := by
  have e : C.toD h (.own k ss.length) = some (.list 1 (ofStrs ss)) := toD_own hl (ofStrs_len ss).symm
  simp only [V.toDVt, V.toDV, toDs, e]
  simp only [C.toD]
theorem ev_take30 {e : Env} {h : Hp} {s : List UInt8} (hx : ev e x = .c (.d (.str s))) (hy : ev e y = .c (.d (.int .i64 (if (30 : Int) < s.length then (30 : Int) else s.length)))) : eval cl e h (.substr x none (some y)) = some (.c (.d (.str (s.take 30))), h) := by
  have hm : (if (30 : Int) < s.length then (30 : Int) else s.length) = ((s.take 30).length : Nat) := by
    rw [List.length_take]
    split <;> omega
  rw [hm] at hy
  have hy' : hiOf e s.length (some y) = some (((s.take 30).length : Nat) : Int) := by
    show asInt (ev e y) = _
    rw [hy]
    rfl
  rw [ev_sub_s (lo := none) hx rfl hy' (by decide) (by omega) (by rw [List.length_take]; omega)]
  have : (List.drop (0 : Int).toNat (List.take (((s.take 30).length : Nat) : Int).toNat s)) = s.take 30 := by
    rw [Int.toNat_natCast]
    simp
  rw [this]
end
set_option maxRecDepth 8000 in
set_option maxHeartbeats 8000000 in
theorem w35 (x : Nat × List (List UInt8) × Bool × Bool) (_ : True) : awp (tbl []) c35 (PureQ [.cell 2 3 true] (.agg (svA (zOf (cut6 x.2.1)) (cut6 x.2.1) x.2.2.1 x.2.2.2))) ⟨argE 0 (dvArgs [.agg (svA x.1 x.2.1 x.2.2.1 x.2.2.2)]), ⟨0, []⟩⟩ := by
  obtain ⟨sz, ss, l, r⟩ := x
  simp only [svA]
  have hlen := ofStrs_len ss
  unfold c35
  repeat' first | (with_reducible first|refine Za ?_|refine Zb ?_|refine Zc ?_|refine Zd ?_|refine Ze ?_|refine Zf ?_|refine Zg ?_|refine Zh ?_|refine Zi ?_|refine Zj ?_|refine Zk ?_|refine Zl ?_|refine Zm ?_|refine Zn ?_|refine Zo ?_|refine Zp ?_|refine Zq ?_|refine Zr ?_|refine Zs ?_|refine Zt ?_|refine Zu ?_)|(with_reducible refine Zv (by decide) ?_)|((with_reducible apply Zw);rfl)|((with_reducible apply Zx);rfl;decide)|((with_reducible apply Zy);rfl)|((with_reducible apply Zz);rfl)|((with_reducible apply ZA);rfl) | ((with_reducible first|apply ZD|apply ZE|apply ZF|apply ZG|apply ZH|apply ZI);rfl;rfl;all_goals (intro hc;first|(exfalso;omega)|skip))|((with_reducible first|apply ZJ|apply ZK);rfl;rfl;all_goals (intro hc;first|contradiction|skip))|((with_reducible first|apply ZL|apply ZM);rfl;rfl;omega;omega)|((with_reducible first|apply ZN|apply ZO);rfl;rfl;omega;omega;intro c hget hc)|((with_reducible apply ZP);rfl;(first|exact .inl rfl|assumption);rfl;rfl;omega;omega;omega;intro s' hs' hl')|((with_reducible apply ZQ);rfl;rfl;rfl;omega;omega;omega;intro s' hs' hl')|((with_reducible apply ZR);rfl) | (with_reducible first|refine Za ?_|refine Zb ?_|refine Zc ?_|refine Zd ?_|refine Ze ?_|refine Zf ?_|refine Zg ?_|refine Zh ?_|refine Zi ?_|refine Zj ?_|refine Zk ?_|refine Zl ?_|refine Zm ?_|refine Zn ?_|refine Zo ?_|refine Zp ?_|refine Zq ?_|refine Zr ?_|refine Zs ?_|refine Zt ?_|refine Zu ?_)|(with_reducible refine Zv (by decide) ?_)|((with_reducible apply Zw);rfl)|((with_reducible apply Zx);rfl;decide)|((with_reducible apply Zy);rfl)|((with_reducible apply Zz);rfl)|((with_reducible apply ZA);rfl)|refine ZB rfl ?_|refine ZC rfl ?_
  refine awp_loop (fun n st => ∃ i : Nat, i ≤ ss.length ∧ i ≤ 6 ∧ 6 - i < n ∧
    st = ⟨[(1, .c (.ptr 0 0)), (2, .c (.ptr 1 0)), (3, .c (.ptr 2 0)), (4, .c (.d (.int .i64 (i : Nat))))], hp35 sz ss l r ((ss.take i).map (List.take 30))⟩) 7 ?_ (by rintro st ⟨i, h1, h2, h3, _⟩; omega) ?_
  · exact weak_keep [1, 2, 3, 4] rfl ⟨0, by omega, by omega, by omega, rfl⟩
  · rintro n K hK st ⟨i, hi, h6, hn, rfl⟩
    by_cases hgo : i < ss.length ∧ i < 6
    · obtain ⟨hi1, hi2⟩ := hgo
      have hx' : (ofStrs ss)[(i : Int).toNat]? = some [.str ss[i]] := by simp [ofStrs_get, hi1]
      have hstep := cut6_at hi1
      have hl3 : ((ss.take i).map (List.take 30)).length ≤ 1000 := by rw [List.length_map, List.length_take]; omega
      generalize (ss.take i).map (List.take 30) = t at hstep hl3
      generalize ss[i] = p at hx' hstep
      cases t with
      | nil =>
        unfold hp35
        repeat' first
          | (with_reducible first|refine Za ?_|refine Zb ?_|refine Zc ?_|refine Zd ?_|refine Ze ?_|refine Zf ?_|refine Zg ?_|refine Zh ?_|refine Zi ?_|refine Zj ?_|refine Zk ?_|refine Zl ?_|refine Zm ?_|refine Zn ?_|refine Zo ?_|refine Zp ?_|refine Zq ?_|refine Zr ?_|refine Zs ?_|refine Zt ?_|refine Zu ?_)|(with_reducible refine Zv (by decide) ?_)|((with_reducible apply Zw);rfl)|((with_reducible apply Zx);rfl;decide)|((with_reducible apply Zy);rfl)|((with_reducible apply Zz);rfl)|((with_reducible apply ZA);rfl)
          | ((with_reducible first|apply ZD|apply ZE|apply ZF|apply ZG|apply ZH|apply ZI);rfl;rfl;all_goals (intro hc;first|(exfalso;omega)|skip))|((with_reducible first|apply ZJ|apply ZK);rfl;rfl;all_goals (intro hc;first|contradiction|skip))|((with_reducible first|apply ZL|apply ZM);rfl;rfl;omega;omega)|((with_reducible first|apply ZN|apply ZO);rfl;rfl;omega;omega;intro c hget hc)|((with_reducible apply ZP);rfl;(first|exact .inl rfl|assumption);rfl;rfl;omega;omega;omega;intro s' hs' hl')|((with_reducible apply ZQ);rfl;rfl;rfl;omega;omega;omega;intro s' hs' hl')|((with_reducible apply ZR);rfl)
          | (with_reducible first|refine Za ?_|refine Zb ?_|refine Zc ?_|refine Zd ?_|refine Ze ?_|refine Zf ?_|refine Zg ?_|refine Zh ?_|refine Zi ?_|refine Zj ?_|refine Zk ?_|refine Zl ?_|refine Zm ?_|refine Zn ?_|refine Zo ?_|refine Zp ?_|refine Zq ?_|refine Zr ?_|refine Zs ?_|refine Zt ?_|refine Zu ?_)|(with_reducible refine Zv (by decide) ?_)|((with_reducible apply Zw);rfl)|((with_reducible apply Zx);rfl;decide)|((with_reducible apply Zy);rfl)|((with_reducible apply Zz);rfl)|((with_reducible apply ZA);rfl)|refine ZB rfl ?_|refine ZC rfl ?_
          | with_reducible refine ZS ?_
          | refine dstep_all (fun _ => ev_idx rfl rfl (by omega) hx' rfl) ?_
          | refine ZX rfl (ev_min rfl rfl) ?_
          | refine ZX rfl (ev_take30 rfl rfl) ?_
          | (with_reducible first|refine ZS ?_|refine ZT ?_)|((with_reducible apply ZU);rfl)|((with_reducible apply ZV);rfl;decide)|((with_reducible apply ZW);rfl)|refine ZX rfl rfl ?_|refine ZY rfl (by (repeat' first|exact True.intro|refine ⟨?_, ?_⟩|exact .inl rfl|exact .inr (.inl rfl)|exact .inr (.inr rfl)|rfl)) ?_|refine ZZ (Z0 rfl ⟨rfl, rfl⟩) (by (repeat' first|exact True.intro|refine ⟨?_, ?_⟩|exact .inl rfl|exact .inr (.inl rfl)|exact .inr (.inr rfl)|rfl)) ?_
        refine hK _ (weak_keep [1, 2, 3, 4] rfl ⟨i + 1, by omega, by omega, by omega, ?_⟩)
        rw [hstep]
        rfl
      | cons s0 t0 =>
        unfold hp35
        repeat' first
          | (with_reducible first|refine Za ?_|refine Zb ?_|refine Zc ?_|refine Zd ?_|refine Ze ?_|refine Zf ?_|refine Zg ?_|refine Zh ?_|refine Zi ?_|refine Zj ?_|refine Zk ?_|refine Zl ?_|refine Zm ?_|refine Zn ?_|refine Zo ?_|refine Zp ?_|refine Zq ?_|refine Zr ?_|refine Zs ?_|refine Zt ?_|refine Zu ?_)|(with_reducible refine Zv (by decide) ?_)|((with_reducible apply Zw);rfl)|((with_reducible apply Zx);rfl;decide)|((with_reducible apply Zy);rfl)|((with_reducible apply Zz);rfl)|((with_reducible apply ZA);rfl)
          | ((with_reducible first|apply ZD|apply ZE|apply ZF|apply ZG|apply ZH|apply ZI);rfl;rfl;all_goals (intro hc;first|(exfalso;omega)|skip))|((with_reducible first|apply ZJ|apply ZK);rfl;rfl;all_goals (intro hc;first|contradiction|skip))|((with_reducible first|apply ZL|apply ZM);rfl;rfl;omega;omega)|((with_reducible first|apply ZN|apply ZO);rfl;rfl;omega;omega;intro c hget hc)|((with_reducible apply ZP);rfl;(first|exact .inl rfl|assumption);rfl;rfl;omega;omega;omega;intro s' hs' hl')|((with_reducible apply ZQ);rfl;rfl;rfl;omega;omega;omega;intro s' hs' hl')|((with_reducible apply ZR);rfl)
          | (with_reducible first|refine Za ?_|refine Zb ?_|refine Zc ?_|refine Zd ?_|refine Ze ?_|refine Zf ?_|refine Zg ?_|refine Zh ?_|refine Zi ?_|refine Zj ?_|refine Zk ?_|refine Zl ?_|refine Zm ?_|refine Zn ?_|refine Zo ?_|refine Zp ?_|refine Zq ?_|refine Zr ?_|refine Zs ?_|refine Zt ?_|refine Zu ?_)|(with_reducible refine Zv (by decide) ?_)|((with_reducible apply Zw);rfl)|((with_reducible apply Zx);rfl;decide)|((with_reducible apply Zy);rfl)|((with_reducible apply Zz);rfl)|((with_reducible apply ZA);rfl)|refine ZB rfl ?_|refine ZC rfl ?_
          | with_reducible refine ZS ?_
          | refine dstep_all (fun _ => ev_idx rfl rfl (by omega) hx' rfl) ?_
          | refine ZX rfl (ev_min rfl rfl) ?_
          | refine ZX rfl (ev_take30 rfl rfl) ?_
          | refine ZZ (Z0 (ev_app_k (ss := s0 :: t0) rfl rfl rfl hl3 rfl) ⟨rfl, rfl⟩) (by (repeat' first|exact True.intro|refine ⟨?_, ?_⟩|exact .inl rfl|exact .inr (.inl rfl)|exact .inr (.inr rfl)|rfl)) ?_
          | (with_reducible first|refine ZS ?_|refine ZT ?_)|((with_reducible apply ZU);rfl)|((with_reducible apply ZV);rfl;decide)|((with_reducible apply ZW);rfl)|refine ZX rfl rfl ?_|refine ZY rfl (by (repeat' first|exact True.intro|refine ⟨?_, ?_⟩|exact .inl rfl|exact .inr (.inl rfl)|exact .inr (.inr rfl)|rfl)) ?_|refine ZZ (Z0 rfl ⟨rfl, rfl⟩) (by (repeat' first|exact True.intro|refine ⟨?_, ?_⟩|exact .inl rfl|exact .inr (.inl rfl)|exact .inr (.inr rfl)|rfl)) ?_
        refine hK _ (weak_keep [1, 2, 3, 4] rfl ⟨i + 1, by omega, by omega, by omega, ?_⟩)
        rw [hstep]
        rfl
    · have hend : ¬ (i < ss.length) ∨ ¬ (i < 6) := by omega
      have hc : (ss.take i).map (List.take 30) = cut6 ss := by
        unfold cut6
        rcases Nat.lt_or_ge i 6 with h | h
        · have : i = ss.length := by omega
          rw [List.take_of_length_le (by omega), List.take_of_length_le (by omega)]
        · rw [show i = 6 by omega]
      rw [hc]
      generalize cut6 ss = t
      cases t with
      | nil =>
        unfold hp35
        repeat' first
          | (with_reducible first|refine Za ?_|refine Zb ?_|refine Zc ?_|refine Zd ?_|refine Ze ?_|refine Zf ?_|refine Zg ?_|refine Zh ?_|refine Zi ?_|refine Zj ?_|refine Zk ?_|refine Zl ?_|refine Zm ?_|refine Zn ?_|refine Zo ?_|refine Zp ?_|refine Zq ?_|refine Zr ?_|refine Zs ?_|refine Zt ?_|refine Zu ?_)|(with_reducible refine Zv (by decide) ?_)|((with_reducible apply Zw);rfl)|((with_reducible apply Zx);rfl;decide)|((with_reducible apply Zy);rfl)|((with_reducible apply Zz);rfl)|((with_reducible apply ZA);rfl)
          | ((with_reducible first|apply ZD|apply ZE|apply ZF|apply ZG|apply ZH|apply ZI);rfl;rfl;all_goals (intro hc;first|(exfalso;omega)|skip))|((with_reducible first|apply ZJ|apply ZK);rfl;rfl;all_goals (intro hc;first|contradiction|skip))|((with_reducible first|apply ZL|apply ZM);rfl;rfl;omega;omega)|((with_reducible first|apply ZN|apply ZO);rfl;rfl;omega;omega;intro c hget hc)|((with_reducible apply ZP);rfl;(first|exact .inl rfl|assumption);rfl;rfl;omega;omega;omega;intro s' hs' hl')|((with_reducible apply ZQ);rfl;rfl;rfl;omega;omega;omega;intro s' hs' hl')|((with_reducible apply ZR);rfl)
          | (with_reducible first|refine Za ?_|refine Zb ?_|refine Zc ?_|refine Zd ?_|refine Ze ?_|refine Zf ?_|refine Zg ?_|refine Zh ?_|refine Zi ?_|refine Zj ?_|refine Zk ?_|refine Zl ?_|refine Zm ?_|refine Zn ?_|refine Zo ?_|refine Zp ?_|refine Zq ?_|refine Zr ?_|refine Zs ?_|refine Zt ?_|refine Zu ?_)|(with_reducible refine Zv (by decide) ?_)|((with_reducible apply Zw);rfl)|((with_reducible apply Zx);rfl;decide)|((with_reducible apply Zy);rfl)|((with_reducible apply Zz);rfl)|((with_reducible apply ZA);rfl)|refine ZB rfl ?_|refine ZC rfl ?_
        all_goals exact ⟨_, rfl, rfl⟩
      | cons s0 t0 =>
        unfold hp35
        repeat' first
          | (with_reducible first|refine Za ?_|refine Zb ?_|refine Zc ?_|refine Zd ?_|refine Ze ?_|refine Zf ?_|refine Zg ?_|refine Zh ?_|refine Zi ?_|refine Zj ?_|refine Zk ?_|refine Zl ?_|refine Zm ?_|refine Zn ?_|refine Zo ?_|refine Zp ?_|refine Zq ?_|refine Zr ?_|refine Zs ?_|refine Zt ?_|refine Zu ?_)|(with_reducible refine Zv (by decide) ?_)|((with_reducible apply Zw);rfl)|((with_reducible apply Zx);rfl;decide)|((with_reducible apply Zy);rfl)|((with_reducible apply Zz);rfl)|((with_reducible apply ZA);rfl)
          | ((with_reducible first|apply ZD|apply ZE|apply ZF|apply ZG|apply ZH|apply ZI);rfl;rfl;all_goals (intro hc;first|(exfalso;omega)|skip))|((with_reducible first|apply ZJ|apply ZK);rfl;rfl;all_goals (intro hc;first|contradiction|skip))|((with_reducible first|apply ZL|apply ZM);rfl;rfl;omega;omega)|((with_reducible first|apply ZN|apply ZO);rfl;rfl;omega;omega;intro c hget hc)|((with_reducible apply ZP);rfl;(first|exact .inl rfl|assumption);rfl;rfl;omega;omega;omega;intro s' hs' hl')|((with_reducible apply ZQ);rfl;rfl;rfl;omega;omega;omega;intro s' hs' hl')|((with_reducible apply ZR);rfl)
          | (with_reducible first|refine Za ?_|refine Zb ?_|refine Zc ?_|refine Zd ?_|refine Ze ?_|refine Zf ?_|refine Zg ?_|refine Zh ?_|refine Zi ?_|refine Zj ?_|refine Zk ?_|refine Zl ?_|refine Zm ?_|refine Zn ?_|refine Zo ?_|refine Zp ?_|refine Zq ?_|refine Zr ?_|refine Zs ?_|refine Zt ?_|refine Zu ?_)|(with_reducible refine Zv (by decide) ?_)|((with_reducible apply Zw);rfl)|((with_reducible apply Zx);rfl;decide)|((with_reducible apply Zy);rfl)|((with_reducible apply Zz);rfl)|((with_reducible apply ZA);rfl)|refine ZB rfl ?_|refine ZC rfl ?_
        all_goals exact ⟨_, rfl, ownK rfl⟩
theorem pok35 (m : Int) : PureOk Go.Proofs.Tryd.prog (glb m) 35 T35 := .inl (fam_ok (fn35 m) (callOk_nil _ _) w35)
/-! ### the law -/
def c10r : ACode := c10.tail 4
noncomputable def T10 : List DV → Option DV := fam (fun x : List UInt8 × Nat × List (List UInt8) × Bool × Bool => [.c (.str x.1), .agg (svA x.2.1 x.2.2.1 x.2.2.2.1 x.2.2.2.2)]) (fun _ => True) (fun _ => .c (.bool true))
theorem T10_eq {s : List UInt8} {sz : Nat} {ss : List (List UInt8)} {a b : Bool} : T10 [.c (.str s), .agg (svA sz ss a b)] = some (.c (.bool true)) :=
  fam_eq (ι := List UInt8 × Nat × List (List UInt8) × Bool × Bool) (s, sz, ss, a, b) True.intro (fun _ _ _ => rfl)
set_option maxRecDepth 8000 in
set_option maxHeartbeats 8000000 in
theorem w10 (x : List UInt8 × Nat × List (List UInt8) × Bool × Bool) (_ : True) : awp (tbl [(17, G17), (18, G18), (19, G19 partE), (32, G32), (33, G33), (34, G34), (35, T35), (36, T36)]) c10 (PureQ [.t 4] (.c (.bool true))) ⟨argE 0 (dvArgs [.c (.str x.1), .agg (svA x.2.1 x.2.2.1 x.2.2.2.1 x.2.2.2.2)]), ⟨0, []⟩⟩ := by
  obtain ⟨s, sz, ss, l, r⟩ := x
  simp only [svA]
  have h17 : G17 [] = some (.c (.bool true)) := rfl
  have h18 : G18 [.c (.str s)] = some (.c (.str (s.take 60))) := rfl
  have hp : (s.take 60).length ≤ 60 := by rw [List.length_take]; omega
  generalize s.take 60 = p at h18 hp
  have h35 := T35_eq (sz := sz) (ss := ss) (a := l) (b := r)
  have h36 := T36_eq (sz := zOf (cut6 ss)) (a := l) (b := r) (cut6_join ss)
  have h34 : G34 [.agg [.list (zOf (cut6 ss)) (ofStrs (cut6 ss)), .bool l, .bool r]] = some (.c (.str (textOf ⟨cut6 ss, l, r⟩))) := by
    have : zOf (cut6 ss) = 1 ∨ cut6 ss = [] := by
      unfold zOf
      split
      · exact .inr (by assumption)
      · exact .inl rfl
    simp only [G34, strsOf_back, if_pos (⟨this, cut6_join ss⟩ : _ ∧ _)]
  generalize zOf (cut6 ss) = z at h35 h36 h34
  generalize textOf ⟨cut6 ss, l, r⟩ = tx at h36 h34
  generalize ofStrs (cut6 ss) = dl at h35 h36 h34
  cases hS : shapeOf partE p with
  | none =>
    have h19 : G19 partE [.c (.str p)] = some (.tup [.agg [.list 0 [], .bool false, .bool false], .c (.int .i64 23)]) := by simp only [G19, hS]; rfl
    have h32 : G32 [.c (.str p)] = some (.tup [.agg [.list 0 [], .bool false, .bool false], .c (.int .i64 23)]) := by simp only [G32, hS, if_pos (show p.length < room by unfold room; omega)]; rfl
    have h33 : G33 [.agg [.list 0 [], .bool false, .bool false], .agg [.list 0 [], .bool false, .bool false]] = some (.c (.bool true)) := by kernel_rfl
    unfold c10
    repeat' first
      | (with_reducible first|refine Za ?_|refine Zb ?_|refine Zc ?_|refine Zd ?_|refine Ze ?_|refine Zf ?_|refine Zg ?_|refine Zh ?_|refine Zi ?_|refine Zj ?_|refine Zk ?_|refine Zl ?_|refine Zm ?_|refine Zn ?_|refine Zo ?_|refine Zp ?_|refine Zq ?_|refine Zr ?_|refine Zs ?_|refine Zt ?_|refine Zu ?_)|(with_reducible refine Zv (by decide) ?_)|((with_reducible apply Zw);rfl)|((with_reducible apply Zx);rfl;decide)|((with_reducible apply Zy);rfl)|((with_reducible apply Zz);rfl)|((with_reducible apply ZA);rfl)
      | ((with_reducible apply Z1 (f := 17));rfl;rfl;rfl;exact h17;rfl)
      | ((with_reducible apply Z1 (f := 18));rfl;rfl;rfl;exact h18;rfl)
      | ((with_reducible apply Z1 (f := 19));rfl;rfl;rfl;exact h19;rfl)
      | ((with_reducible apply Z1 (f := 32));rfl;rfl;rfl;exact h32;rfl)
      | with_reducible refine ZS ?_
      | refine ZY (ev_pcall rfl rfl h33 rfl rfl) (by (repeat' first|exact True.intro|refine ⟨?_, ?_⟩|exact .inl rfl|exact .inr (.inl rfl)|exact .inr (.inr rfl)|rfl)) ?_
      | refine ZY (ev_pcall rfl rfl h35 rfl rfl) (by (repeat' first|exact True.intro|refine ⟨?_, ?_⟩|exact .inl rfl|exact .inr (.inl rfl)|exact .inr (.inr rfl)|rfl)) ?_
      | refine ZY (ev_pcall rfl rfl h34 rfl rfl) (by (repeat' first|exact True.intro|refine ⟨?_, ?_⟩|exact .inl rfl|exact .inr (.inl rfl)|exact .inr (.inr rfl)|rfl)) ?_
      | refine ZY (ev_pcall rfl rfl h36 rfl rfl) (by (repeat' first|exact True.intro|refine ⟨?_, ?_⟩|exact .inl rfl|exact .inr (.inl rfl)|exact .inr (.inr rfl)|rfl)) ?_
      | refine ZX rfl (ev_eqs_t rfl rfl rfl) ?_
      | (with_reducible first|refine ZS ?_|refine ZT ?_)|((with_reducible apply ZU);rfl)|((with_reducible apply ZV);rfl;decide)|((with_reducible apply ZW);rfl)|refine ZX rfl rfl ?_|refine ZY rfl (by (repeat' first|exact True.intro|refine ⟨?_, ?_⟩|exact .inl rfl|exact .inr (.inl rfl)|exact .inr (.inr rfl)|rfl)) ?_
      | (with_reducible first|refine Za ?_|refine Zb ?_|refine Zc ?_|refine Zd ?_|refine Ze ?_|refine Zf ?_|refine Zg ?_|refine Zh ?_|refine Zi ?_|refine Zj ?_|refine Zk ?_|refine Zl ?_|refine Zm ?_|refine Zn ?_|refine Zo ?_|refine Zp ?_|refine Zq ?_|refine Zr ?_|refine Zs ?_|refine Zt ?_|refine Zu ?_)|(with_reducible refine Zv (by decide) ?_)|((with_reducible apply Zw);rfl)|((with_reducible apply Zx);rfl;decide)|((with_reducible apply Zy);rfl)|((with_reducible apply Zz);rfl)|((with_reducible apply ZA);rfl)|refine ZB rfl ?_|refine ZC rfl ?_
    exact ⟨_, rfl, rfl⟩
  | some v =>
    obtain ⟨ps, a, b⟩ := v
    have hps : ps.length ≤ room := by
      have := (mayS_inv (shapeOf_some hS).2.2).2.1
      unfold room
      omega
    have h19 : G19 partE [.c (.str p)] = some (.tup [.agg [.list 1 (ofStrs ps), .bool a, .bool b], .c (.int .i64 0)]) := by simp only [G19, hS]; rfl
    have h32 : G32 [.c (.str p)] = some (.tup [.agg [.list 1 (ofStrs ps), .bool a, .bool b], .c (.int .i64 0)]) := by simp only [G32, hS, if_pos (show p.length < room by unfold room; omega)]; rfl
    have h33 : G33 [.agg [.list 1 (ofStrs ps), .bool a, .bool b], .agg [.list 1 (ofStrs ps), .bool a, .bool b]] = some (.c (.bool true)) := by
      simp only [G33, strsOf_back, if_pos (⟨hps, hps⟩ : _ ∧ _), beq_self_eq_true, Bool.and_self]
    unfold c10
    repeat' first
      | (with_reducible first|refine Za ?_|refine Zb ?_|refine Zc ?_|refine Zd ?_|refine Ze ?_|refine Zf ?_|refine Zg ?_|refine Zh ?_|refine Zi ?_|refine Zj ?_|refine Zk ?_|refine Zl ?_|refine Zm ?_|refine Zn ?_|refine Zo ?_|refine Zp ?_|refine Zq ?_|refine Zr ?_|refine Zs ?_|refine Zt ?_|refine Zu ?_)|(with_reducible refine Zv (by decide) ?_)|((with_reducible apply Zw);rfl)|((with_reducible apply Zx);rfl;decide)|((with_reducible apply Zy);rfl)|((with_reducible apply Zz);rfl)|((with_reducible apply ZA);rfl)
      | ((with_reducible apply Z1 (f := 17));rfl;rfl;rfl;exact h17;rfl)
      | ((with_reducible apply Z1 (f := 18));rfl;rfl;rfl;exact h18;rfl)
      | ((with_reducible apply Z1 (f := 19));rfl;rfl;rfl;exact h19;rfl)
      | ((with_reducible apply Z1 (f := 32));rfl;rfl;rfl;exact h32;rfl)
      | with_reducible refine ZS ?_
      | refine ZY (ev_pcall rfl rfl h33 rfl rfl) (by (repeat' first|exact True.intro|refine ⟨?_, ?_⟩|exact .inl rfl|exact .inr (.inl rfl)|exact .inr (.inr rfl)|rfl)) ?_
      | refine ZY (ev_pcall rfl rfl h35 rfl rfl) (by (repeat' first|exact True.intro|refine ⟨?_, ?_⟩|exact .inl rfl|exact .inr (.inl rfl)|exact .inr (.inr rfl)|rfl)) ?_
      | refine ZY (ev_pcall rfl rfl h34 rfl rfl) (by (repeat' first|exact True.intro|refine ⟨?_, ?_⟩|exact .inl rfl|exact .inr (.inl rfl)|exact .inr (.inr rfl)|rfl)) ?_
      | refine ZY (ev_pcall rfl rfl h36 rfl rfl) (by (repeat' first|exact True.intro|refine ⟨?_, ?_⟩|exact .inl rfl|exact .inr (.inl rfl)|exact .inr (.inr rfl)|rfl)) ?_
      | refine ZX rfl (ev_eqs_t rfl rfl rfl) ?_
      | (with_reducible first|refine ZS ?_|refine ZT ?_)|((with_reducible apply ZU);rfl)|((with_reducible apply ZV);rfl;decide)|((with_reducible apply ZW);rfl)|refine ZX rfl rfl ?_|refine ZY rfl (by (repeat' first|exact True.intro|refine ⟨?_, ?_⟩|exact .inl rfl|exact .inr (.inl rfl)|exact .inr (.inr rfl)|rfl)) ?_
      | (with_reducible first|refine Za ?_|refine Zb ?_|refine Zc ?_|refine Zd ?_|refine Ze ?_|refine Zf ?_|refine Zg ?_|refine Zh ?_|refine Zi ?_|refine Zj ?_|refine Zk ?_|refine Zl ?_|refine Zm ?_|refine Zn ?_|refine Zo ?_|refine Zp ?_|refine Zq ?_|refine Zr ?_|refine Zs ?_|refine Zt ?_|refine Zu ?_)|(with_reducible refine Zv (by decide) ?_)|((with_reducible apply Zw);rfl)|((with_reducible apply Zx);rfl;decide)|((with_reducible apply Zy);rfl)|((with_reducible apply Zz);rfl)|((with_reducible apply ZA);rfl)|refine ZB rfl ?_|refine ZC rfl ?_
    exact ⟨_, rfl, rfl⟩
/-- THE LAW's FUNCTION: true, of any pattern and any shape. -/
theorem shapeAll_ok (m : Int) : PureFn Go.Proofs.Tryd.prog (glb m) 10 T10 := by
  have p46 := pok46 (pe37 m) kbE
  have p19 : PureOk Go.Proofs.Tryd.prog (glb m) 19 (G19 partE) := pok19 (pok47 (pok63 (pok45 p46)))
  exact fam_ok (fn10 m) (callOk_cons (pok17 kbE p19) (callOk_cons (pok18 m) (callOk_cons p19 (callOk_cons (pok32 m) (callOk_cons (pok33 m) (callOk_cons (pok34 m) (callOk_cons (pok35 m) (callOk_cons (pok36 m) (callOk_nil _ _))))))))) w10
end Go.Am
