/-
  ShapeEnds: the law's function comes to true, whatever it is given.
-/
import Derived.Test.YtgbefhljbdjncaaDoorMJ
namespace Go.Am
open Go
def G18 : List DV → Option DV
  | [.c (.str s)] => some (.c (.str (s.take 60)))
  | _ => none
set_option maxRecDepth 8000 in
theorem w18 (ds : List DV) (r : DV) (h : G18 ds = some r) : awp (tbl []) c18 (PureQ [.t 2] r) ⟨argE 0 (dvArgs ds), ⟨0, []⟩⟩ := by
  unfold G18 at h
  split at h
  · rename_i s
    cases h
    unfold c18
    have hm : (if (60 : Int) < s.length then (60 : Int) else s.length) = ((s.take 60).length : Nat) := by
      rw [List.length_take]
      split <;> omega
    have he : ∀ e hp x y, ev e x = .c (.d (.str s)) → ev e y = .c (.d (.int .i64 (if (60 : Int) < s.length then (60 : Int) else s.length))) → eval (tbl []) e hp (.substr x none (some y)) = some (.c (.d (.str (s.take 60))), hp) := by
      intro e hp x y hx hy
      rw [hm] at hy
      have hy' : hiOf e s.length (some y) = some (((s.take 60).length : Nat) : Int) := by
        show asInt (ev e y) = _
        rw [hy]
        rfl
      rw [ev_sub_s (lo := none) hx rfl hy' (by decide) (by omega) (by rw [List.length_take]; omega)]
      have : (List.drop (0 : Int).toNat (List.take (((s.take 60).length : Nat) : Int).toNat s)) = s.take 60 := by
        rw [Int.toNat_natCast]
        simp
      rw [this]
    repeat' first
      | refine ZB (ev_min rfl rfl) ?_
      | refine ZB (he _ _ _ _ rfl rfl) ?_
      | (with_reducible first|refine Za ?_|refine Zb ?_|refine Zc ?_|refine Zd ?_|refine Ze ?_|refine Zf ?_|refine Zg ?_|refine Zh ?_|refine Zi ?_|refine Zj ?_|refine Zk ?_|refine Zl ?_|refine Zm ?_|refine Zn ?_|refine Zo ?_|refine Zp ?_|refine Zq ?_|refine Zr ?_|refine Zs ?_|refine Zt ?_|refine Zu ?_)|(with_reducible refine Zv (by decide) ?_)|((with_reducible apply Zw);rfl)|((with_reducible apply Zx);rfl;decide)|((with_reducible apply Zy);rfl)|((with_reducible apply Zz);rfl)|((with_reducible apply ZA);rfl)|refine ZB rfl ?_|refine ZC rfl ?_
    exact ⟨_, rfl, rfl⟩
  · cases h
theorem pok18 (m : Int) : PureOk Go.Proofs.Tryd.prog (glb m) 18 G18 := pure_ok (fn18 m) (callOk_nil _ _) w18

theorem single_if : single [105, 102] 1 := ⟨105, rfl, .inl ⟨by decide, rfl, by decide⟩⟩
theorem single_then : single [116, 104, 101, 110] 1 := ⟨116, rfl, .inl ⟨by decide, rfl, by decide⟩⟩
theorem single_not : single [33] 2 := ⟨33, rfl, .inr (.inl ⟨by decide, rfl, by decide, by decide, by decide⟩)⟩
section
variable {G : List DV → Option DV}
theorem part_if (hG : KB R37 G) : partV G [105, 102] = true := by rw [partV_single hG (by decide) single_if (by decide)]; decide
theorem part_then (hG : KB R37 G) : partV G [116, 104, 101, 110] = true := by rw [partV_single hG (by decide) single_then (by decide)]; decide
theorem part_not (hG : KB R37 G) : partV G [33] = true := by rw [partV_single hG (by decide) single_not (by decide)]; decide
theorem shape_if (hG : KB R37 G) : shapeOf (partV G) [105, 102, 95, 116, 104, 101, 110, 95] = some ⟨[[105, 102], [116, 104, 101, 110]], false, true⟩ := by
  have e : trim (cutU 95 [105, 102, 95, 116, 104, 101, 110, 95]) = ⟨[[105, 102], [116, 104, 101, 110]], false, true⟩ := rfl
  rw [shapeOf_of (by decide) (by rw [e]; exact mayS_t (by decide) (by decide) (fun h => by cases h) (by simp [badS, part_if hG, part_then hG])), e]
theorem shape_not (hG : KB R37 G) : shapeOf (partV G) [95, 33] = some ⟨[[33]], true, false⟩ := by
  have e : trim (cutU 95 [95, 33]) = ⟨[[33]], true, false⟩ := rfl
  rw [shapeOf_of (by decide) (by rw [e]; exact mayS_t (by decide) (by decide) (fun _ => .inl rfl) (by simp [badS, part_not hG])), e]
theorem shape_ab (hG : KB R37 G) : shapeOf (partV G) [97, 95, 95, 98] = none := by
  have e : trim (cutU 95 [97, 95, 95, 98]) = ⟨[[97], [], [98]], false, false⟩ := rfl
  exact shapeOf_no (by rw [e]; exact mayS_f (.inr (.inr (.inr (badS_nil (partV_nil hG) (by simp))))))
theorem shape_a : shapeOf (partV G) [97] = none := by
  have e : trim (cutU 95 [97]) = ⟨[[97]], false, false⟩ := rfl
  exact shapeOf_no (by rw [e]; exact mayS_f (.inr (.inr (.inl ⟨rfl, rfl, rfl⟩))))
end
def G17 : List DV → Option DV
  | [] => some (.c (.bool true))
  | _ => none
set_option maxRecDepth 8000 in
set_option maxHeartbeats 4000000 in
theorem w17 {G : List DV → Option DV} (hG : KB R37 G) (ds : List DV) (r : DV) (h : G17 ds = some r) : awp (tbl [(19, G19 (partV G))]) c17 (PureQ [.t 0] r) ⟨argE 0 (dvArgs ds), ⟨0, []⟩⟩ := by
  unfold G17 at h
  split at h
  · cases h
    have h1 : G19 (partV G) [.c (.str [105, 102, 95, 116, 104, 101, 110, 95])] = some (.tup [.agg [.list 1 [[.str [105, 102]], [.str [116, 104, 101, 110]]], .bool false, .bool true], .c (.int .i64 0)]) := by simp only [G19, shape_if hG]; rfl
    have h2 : G19 (partV G) [.c (.str [95, 33])] = some (.tup [.agg [.list 1 [[.str [33]]], .bool true, .bool false], .c (.int .i64 0)]) := by simp only [G19, shape_not hG]; rfl
    have h3 : G19 (partV G) [.c (.str [97, 95, 95, 98])] = some (.tup [.agg [.list 0 [], .bool false, .bool false], .c (.int .i64 23)]) := by simp only [G19, shape_ab hG]; rfl
    have h4 : G19 (partV G) [.c (.str [97])] = some (.tup [.agg [.list 0 [], .bool false, .bool false], .c (.int .i64 23)]) := by simp only [G19, shape_a (G := G)]; rfl
    unfold c17
    repeat' first
      | ((with_reducible apply Z1 (f := 19));rfl;rfl;rfl;exact h1;rfl)
      | ((with_reducible apply Z1 (f := 19));rfl;rfl;rfl;exact h2;rfl)
      | ((with_reducible apply Z1 (f := 19));rfl;rfl;rfl;exact h3;rfl)
      | ((with_reducible apply Z1 (f := 19));rfl;rfl;rfl;exact h4;rfl)
      | (with_reducible first|refine Za ?_|refine Zb ?_|refine Zc ?_|refine Zd ?_|refine Ze ?_|refine Zf ?_|refine Zg ?_|refine Zh ?_|refine Zi ?_|refine Zj ?_|refine Zk ?_|refine Zl ?_|refine Zm ?_|refine Zn ?_|refine Zo ?_|refine Zp ?_|refine Zq ?_|refine Zr ?_|refine Zs ?_|refine Zt ?_|refine Zu ?_)|(with_reducible refine Zv (by decide) ?_)|((with_reducible apply Zw);rfl)|((with_reducible apply Zx);rfl;decide)|((with_reducible apply Zy);rfl)|((with_reducible apply Zz);rfl)|((with_reducible apply ZA);rfl)|refine ZB rfl ?_|refine ZC rfl ?_
    exact ⟨_, rfl, rfl⟩
  · cases h
theorem pok17 {m : Int} {G : List DV → Option DV} (hG : KB R37 G) (h : PureOk Go.Proofs.Tryd.prog (glb m) 19 (G19 (partV G))) : PureOk Go.Proofs.Tryd.prog (glb m) 17 G17 := pure_ok (fn17 m) (callOk_cons h (callOk_nil _ _)) (w17 hG)

def G3 : List DV → Option DV
  | [.c (.str _), .c (.bool _)] => some (.c (.bool true))
  | _ => none
set_option maxRecDepth 8000 in
set_option maxHeartbeats 8000000 in
theorem w3 {G : List DV → Option DV} (hG : KB R37 G) (ds : List DV) (r : DV) (h : G3 ds = some r) : awp (tbl [(17, G17), (18, G18), (19, G19 (partV G))]) c3 (PureQ [.t 4] r) ⟨argE 0 (dvArgs ds), ⟨0, []⟩⟩ := by
  unfold G3 at h
  split at h
  · rename_i s right
    cases h
    have h17 : G17 [] = some (.c (.bool true)) := rfl
    have h18 : G18 [.c (.str s)] = some (.c (.str (s.take 60))) := rfl
    generalize s.take 60 = p at h18
    cases hS : shapeOf (partV G) p with
    | none =>
      have h19 : G19 (partV G) [.c (.str p)] = some (.tup [.agg [.list 0 [], .bool false, .bool false], .c (.int .i64 23)]) := by simp only [G19, hS]; rfl
      unfold c3
      repeat' first
        | ((with_reducible first|apply ZD|apply ZE|apply ZF|apply ZG|apply ZH|apply ZI);rfl;rfl;all_goals (intro hc;first|(exfalso;omega)|skip))|((with_reducible first|apply ZJ|apply ZK);rfl;rfl;all_goals (intro hc;first|contradiction|skip))|((with_reducible first|apply ZL|apply ZM);rfl;rfl;omega;omega)|((with_reducible first|apply ZN|apply ZO);rfl;rfl;omega;omega;intro c hget hc)|((with_reducible apply ZP);rfl;(first|exact .inl rfl|assumption);rfl;rfl;omega;omega;omega;intro s' hs' hl')|((with_reducible apply ZQ);rfl;rfl;rfl;omega;omega;omega;intro s' hs' hl')|((with_reducible apply ZR);rfl)
        | ((with_reducible apply Z1 (f := 17));rfl;rfl;rfl;exact h17;rfl)
        | ((with_reducible apply Z1 (f := 18));rfl;rfl;rfl;exact h18;rfl)
        | ((with_reducible apply Z1 (f := 19));rfl;rfl;rfl;exact h19;rfl)
        | (with_reducible first|refine Za ?_|refine Zb ?_|refine Zc ?_|refine Zd ?_|refine Ze ?_|refine Zf ?_|refine Zg ?_|refine Zh ?_|refine Zi ?_|refine Zj ?_|refine Zk ?_|refine Zl ?_|refine Zm ?_|refine Zn ?_|refine Zo ?_|refine Zp ?_|refine Zq ?_|refine Zr ?_|refine Zs ?_|refine Zt ?_|refine Zu ?_)|(with_reducible refine Zv (by decide) ?_)|((with_reducible apply Zw);rfl)|((with_reducible apply Zx);rfl;decide)|((with_reducible apply Zy);rfl)|((with_reducible apply Zz);rfl)|((with_reducible apply ZA);rfl)|refine ZB rfl ?_|refine ZC rfl ?_
      exact ⟨_, rfl, rfl⟩
    | some v =>
      obtain ⟨ps, l, rr⟩ := v
      have h19 : G19 (partV G) [.c (.str p)] = some (.tup [.agg [.list 1 (ofStrs ps), .bool l, .bool rr], .c (.int .i64 0)]) := by simp only [G19, hS]; rfl
      by_cases hlen : 40 ≤ p.length
      · unfold c3
        repeat' first
          | ((with_reducible first|apply ZD|apply ZE|apply ZF|apply ZG|apply ZH|apply ZI);rfl;rfl;all_goals (intro hc;first|(exfalso;omega)|skip))|((with_reducible first|apply ZJ|apply ZK);rfl;rfl;all_goals (intro hc;first|contradiction|skip))|((with_reducible first|apply ZL|apply ZM);rfl;rfl;omega;omega)|((with_reducible first|apply ZN|apply ZO);rfl;rfl;omega;omega;intro c hget hc)|((with_reducible apply ZP);rfl;(first|exact .inl rfl|assumption);rfl;rfl;omega;omega;omega;intro s' hs' hl')|((with_reducible apply ZQ);rfl;rfl;rfl;omega;omega;omega;intro s' hs' hl')|((with_reducible apply ZR);rfl)
          | ((with_reducible apply Z1 (f := 17));rfl;rfl;rfl;exact h17;rfl)
          | ((with_reducible apply Z1 (f := 18));rfl;rfl;rfl;exact h18;rfl)
          | ((with_reducible apply Z1 (f := 19));rfl;rfl;rfl;exact h19;rfl)
          | (with_reducible first|refine Za ?_|refine Zb ?_|refine Zc ?_|refine Zd ?_|refine Ze ?_|refine Zf ?_|refine Zg ?_|refine Zh ?_|refine Zi ?_|refine Zj ?_|refine Zk ?_|refine Zl ?_|refine Zm ?_|refine Zn ?_|refine Zo ?_|refine Zp ?_|refine Zq ?_|refine Zr ?_|refine Zs ?_|refine Zt ?_|refine Zu ?_)|(with_reducible refine Zv (by decide) ?_)|((with_reducible apply Zw);rfl)|((with_reducible apply Zx);rfl;decide)|((with_reducible apply Zy);rfl)|((with_reducible apply Zz);rfl)|((with_reducible apply ZA);rfl)|refine ZB rfl ?_|refine ZC rfl ?_
        exact ⟨_, rfl, rfl⟩
      · have hL := ends_left (partV_nil hG) hS (by omega)
        have hR := ends_right (partV_nil hG) hS (by omega)
        have hbad : ∀ q, shapeOf (partV G) q = none → G19 (partV G) [.c (.str q)] = some (.tup [.agg [.list 0 [], .bool false, .bool false], .c (.int .i64 23)]) := fun q hq => by simp only [G19, hq]; rfl
        have hgood : ∀ q ps l r, shapeOf (partV G) q = some ⟨ps, l, r⟩ → G19 (partV G) [.c (.str q)] = some (.tup [.agg [.list 1 (ofStrs ps), .bool l, .bool r], .c (.int .i64 0)]) := fun q ps l r hq => by simp only [G19, hq]; rfl
        cases right <;> cases l <;> cases rr <;>
        (simp only [if_true, Bool.false_eq_true, if_false] at hL hR
         unfold c3
         repeat' first
          | ((with_reducible first|apply ZD|apply ZE|apply ZF|apply ZG|apply ZH|apply ZI);rfl;rfl;all_goals (intro hc;first|(exfalso;omega)|skip))|((with_reducible first|apply ZJ|apply ZK);rfl;rfl;all_goals (intro hc;first|contradiction|skip))|((with_reducible first|apply ZL|apply ZM);rfl;rfl;omega;omega)|((with_reducible first|apply ZN|apply ZO);rfl;rfl;omega;omega;intro c hget hc)|((with_reducible apply ZP);rfl;(first|exact .inl rfl|assumption);rfl;rfl;omega;omega;omega;intro s' hs' hl')|((with_reducible apply ZQ);rfl;rfl;rfl;omega;omega;omega;intro s' hs' hl')|((with_reducible apply ZR);rfl)
          | ((with_reducible apply Z1 (f := 17));rfl;rfl;rfl;exact h17;rfl)
          | ((with_reducible apply Z1 (f := 18));rfl;rfl;rfl;exact h18;rfl)
          | ((with_reducible apply Z1 (f := 19));rfl;rfl;rfl;exact h19;rfl)
          | ((with_reducible apply Z1 (f := 19));rfl;rfl;rfl;exact (hbad _ hL);rfl)
          | ((with_reducible apply Z1 (f := 19));rfl;rfl;rfl;exact (hbad _ hR);rfl)
          | ((with_reducible apply Z1 (f := 19));rfl;rfl;rfl;exact (hgood _ _ _ _ hL);rfl)
          | ((with_reducible apply Z1 (f := 19));rfl;rfl;rfl;exact (hgood _ _ _ _ hR);rfl)
          | refine ZB (ev_adds rfl rfl (by simp only [List.length_cons, List.length_nil]; omega)) ?_
          | (with_reducible first|refine Za ?_|refine Zb ?_|refine Zc ?_|refine Zd ?_|refine Ze ?_|refine Zf ?_|refine Zg ?_|refine Zh ?_|refine Zi ?_|refine Zj ?_|refine Zk ?_|refine Zl ?_|refine Zm ?_|refine Zn ?_|refine Zo ?_|refine Zp ?_|refine Zq ?_|refine Zr ?_|refine Zs ?_|refine Zt ?_|refine Zu ?_)|(with_reducible refine Zv (by decide) ?_)|((with_reducible apply Zw);rfl)|((with_reducible apply Zx);rfl;decide)|((with_reducible apply Zy);rfl)|((with_reducible apply Zz);rfl)|((with_reducible apply ZA);rfl)|refine ZB rfl ?_|refine ZC rfl ?_
         exact ⟨_, rfl, rfl⟩)
  · cases h
/-- THE LAW's FUNCTION: true, of any text and any end. -/
theorem shapeEnds_ok (m : Int) : PureFn Go.Proofs.Tryd.prog (glb m) 3 G3 := by
  obtain ⟨G, p37, hG⟩ := lexAll m
  have p46 := pok46 (.inl p37) hG
  have p19 := pok19 (pok47 (pok63 (pok45 p46)))
  exact pure_fn (fn3 m) (callOk_cons (pok17 hG p19) (callOk_cons (pok18 m) (callOk_cons p19 (callOk_nil _ _)))) (w3 hG)
end Go.Am
