/-
  A token's kinds; fits.Part.
-/
import Derived.Test.YtgbefhljbdjncaaDoorMY
import Derived.Test.YtgbefhljbdjncaaDoorMU
namespace Go.Am
open Go
def idxI (v : Int) : List Int → Nat → Int
  | [], _ => -1
  | x :: r, i => if v = x then (i : Int) else idxI v r (i + 1)
def memI (l : List Int) (v : Int) : Bool := decide (0 ≤ idxI v l 0)
def intsD (l : List Int) : List (List D) := l.map fun v => [.int .i64 v]
theorem intsD_inj : ∀ {a b : List Int}, intsD a = intsD b → a = b
  | [], [], _ => rfl
  | [], _ :: _, h => by cases h
  | _ :: _, [], h => by cases h
  | x :: a, y :: b, h => by
    simp only [intsD, List.map_cons, List.cons.injEq, D.int.injEq, true_and, and_true] at h
    rw [h.1, intsD_inj h.2]
theorem idxI_drop {v x : Int} {l : List Int} {i : Nat} (hx : l[i]? = some x) : idxI v (l.drop i) i = if v = x then (i : Int) else idxI v (l.drop (i + 1)) (i + 1) := by
  have hlt := (List.getElem?_eq_some_iff.1 hx).1
  have : l.drop i = x :: l.drop (i + 1) := by rw [List.drop_eq_getElem_cons hlt]; congr 1; exact (List.getElem?_eq_some_iff.1 hx).2
  rw [this]
  rfl
noncomputable def T86 : List DV → Option DV := fam (fun x : List Int × Int => [.c (.list 1 (intsD x.1)), .c (.int .i64 x.2)]) (fun x => x.1.length ≤ 1000) (fun x => .c (.int .i64 (idxI x.2 x.1 0)))
theorem T86_eq {l : List Int} {v : Int} (h : l.length ≤ 1000) : T86 [.c (.list 1 (intsD l)), .c (.int .i64 v)] = some (.c (.int .i64 (idxI v l 0))) := by
  refine fam_eq (ι := List Int × Int) (l, v) h ?_
  rintro ⟨l', v'⟩ _ e
  simp only [List.cons.injEq, DV.c.injEq, D.list.injEq, D.int.injEq, true_and, and_true] at e
  rw [intsD_inj e.1, e.2]
set_option maxRecDepth 8000 in
set_option maxHeartbeats 2000000 in
theorem w86 (x : List Int × Int) (h : x.1.length ≤ 1000) : awp (tbl []) c86 (PureQ [.t 4] (.c (.int .i64 (idxI x.2 x.1 0)))) ⟨argE 0 (dvArgs [.c (.list 1 (intsD x.1)), .c (.int .i64 x.2)]), ⟨0, []⟩⟩ := by
  obtain ⟨l, v⟩ := x
  simp only at h ⊢
  have hlen : (intsD l).length = l.length := List.length_map _
  unfold c86
  repeat' first | (with_reducible first|refine Za ?_|refine Zb ?_|refine Zc ?_|refine Zd ?_|refine Ze ?_|refine Zf ?_|refine Zg ?_|refine Zh ?_|refine Zi ?_|refine Zj ?_|refine Zk ?_|refine Zl ?_|refine Zm ?_|refine Zn ?_|refine Zo ?_|refine Zp ?_|refine Zq ?_|refine Zr ?_|refine Zs ?_|refine Zt ?_|refine Zu ?_)|(with_reducible refine Zv (by decide) ?_)|((with_reducible apply Zw);rfl)|((with_reducible apply Zx);rfl;decide)|((with_reducible apply Zy);rfl)|((with_reducible apply Zz);rfl)|((with_reducible apply ZA);rfl)|refine ZB rfl ?_|refine ZC rfl ?_
  refine awp_loop (fun n st => ∃ i : Nat, i ≤ l.length ∧ n = l.length - i + 1 ∧ idxI v l 0 = idxI v (l.drop i) i ∧
    st = ⟨[(0, .c (.d (.list 1 (intsD l)))), (1, .c (.d (.int .i64 v))), (7, .c (.d (.int .i64 (intsD l).length))), (8, .c (.d (.int .i64 (i : Nat))))], ⟨0, []⟩⟩) (l.length + 1) ?_ (by rintro st ⟨i, h1, h2, _⟩; omega) ?_
  · exact weak_keep [0, 1, 7, 8] rfl ⟨0, by omega, by omega, rfl, rfl⟩
  · rintro n K hK st ⟨i, hi, hn, hidx, rfl⟩
    by_cases hend : i = l.length
    · have hm : idxI v l 0 = -1 := by rw [hidx, hend, List.drop_length]; rfl
      rw [hm]
      repeat' first | (with_reducible first|refine Za ?_|refine Zb ?_|refine Zc ?_|refine Zd ?_|refine Ze ?_|refine Zf ?_|refine Zg ?_|refine Zh ?_|refine Zi ?_|refine Zj ?_|refine Zk ?_|refine Zl ?_|refine Zm ?_|refine Zn ?_|refine Zo ?_|refine Zp ?_|refine Zq ?_|refine Zr ?_|refine Zs ?_|refine Zt ?_|refine Zu ?_)|(with_reducible refine Zv (by decide) ?_)|((with_reducible apply Zw);rfl)|((with_reducible apply Zx);rfl;decide)|((with_reducible apply Zy);rfl)|((with_reducible apply Zz);rfl)|((with_reducible apply ZA);rfl) | ((with_reducible first|apply ZD|apply ZE|apply ZF|apply ZG|apply ZH|apply ZI);rfl;rfl;all_goals (intro hc;first|(exfalso;omega)|skip))|((with_reducible first|apply ZJ|apply ZK);rfl;rfl;all_goals (intro hc;first|contradiction|skip))|((with_reducible first|apply ZL|apply ZM);rfl;rfl;omega;omega)|((with_reducible first|apply ZN|apply ZO);rfl;rfl;omega;omega;intro c hget hc)|((with_reducible apply ZP);rfl;(first|exact .inl rfl|assumption);rfl;rfl;omega;omega;omega;intro s' hs' hl')|((with_reducible apply ZQ);rfl;rfl;rfl;omega;omega;omega;intro s' hs' hl')|((with_reducible apply ZR);rfl) | refine ZB rfl ?_|refine ZC rfl ?_
      exact ⟨_, rfl, rfl⟩
    · have hx : l[i]? = some l[i] := List.getElem?_eq_getElem (by omega)
      have hx' : (intsD l)[(i : Int).toNat]? = some [.int .i64 l[i]] := by simp [intsD, hx]
      rw [idxI_drop hx] at hidx
      repeat' first
        | (with_reducible first|refine Za ?_|refine Zb ?_|refine Zc ?_|refine Zd ?_|refine Ze ?_|refine Zf ?_|refine Zg ?_|refine Zh ?_|refine Zi ?_|refine Zj ?_|refine Zk ?_|refine Zl ?_|refine Zm ?_|refine Zn ?_|refine Zo ?_|refine Zp ?_|refine Zq ?_|refine Zr ?_|refine Zs ?_|refine Zt ?_|refine Zu ?_)|(with_reducible refine Zv (by decide) ?_)|((with_reducible apply Zw);rfl)|((with_reducible apply Zx);rfl;decide)|((with_reducible apply Zy);rfl)|((with_reducible apply Zz);rfl)|((with_reducible apply ZA);rfl)
        | refine ZB (ev_idx rfl rfl (by omega) hx' rfl) ?_
        | ((with_reducible first|apply ZD|apply ZE|apply ZF|apply ZG|apply ZH|apply ZI);rfl;rfl;all_goals (intro hc;first|(exfalso;omega)|skip))|((with_reducible first|apply ZJ|apply ZK);rfl;rfl;all_goals (intro hc;first|contradiction|skip))|((with_reducible first|apply ZL|apply ZM);rfl;rfl;omega;omega)|((with_reducible first|apply ZN|apply ZO);rfl;rfl;omega;omega;intro c hget hc)|((with_reducible apply ZP);rfl;(first|exact .inl rfl|assumption);rfl;rfl;omega;omega;omega;intro s' hs' hl')|((with_reducible apply ZQ);rfl;rfl;rfl;omega;omega;omega;intro s' hs' hl')|((with_reducible apply ZR);rfl)
        | refine ZB rfl ?_|refine ZC rfl ?_
      · rw [if_pos (by assumption)] at hidx
        rw [hidx]
        exact ⟨_, rfl, rfl⟩
      · rw [if_neg (by assumption)] at hidx
        exact hK _ (weak_keep [0, 1, 7, 8] rfl ⟨i + 1, by omega, by omega, hidx, rfl⟩)
theorem pok86 (m : Int) : PureOk Go.Proofs.Tryd.prog (glb m) 86 T86 := .inl (fam_ok (fn86 m) (callOk_nil _ _) w86)
noncomputable def T70 : List DV → Option DV := fam (fun x : List Int × Int => [.c (.list 1 (intsD x.1)), .c (.int .i64 x.2)]) (fun x => x.1.length ≤ 1000) (fun x => .c (.bool (memI x.1 x.2)))
theorem T70_eq {l : List Int} {v : Int} (h : l.length ≤ 1000) : T70 [.c (.list 1 (intsD l)), .c (.int .i64 v)] = some (.c (.bool (memI l v))) := by
  refine fam_eq (ι := List Int × Int) (l, v) h ?_
  rintro ⟨l', v'⟩ _ e
  simp only [List.cons.injEq, DV.c.injEq, D.list.injEq, D.int.injEq, true_and, and_true] at e
  rw [intsD_inj e.1, e.2]
set_option maxRecDepth 8000 in
theorem w70 (x : List Int × Int) (h : x.1.length ≤ 1000) : awp (tbl [(86, T86)]) c70 (PureQ [.t 4] (.c (.bool (memI x.1 x.2)))) ⟨argE 0 (dvArgs [.c (.list 1 (intsD x.1)), .c (.int .i64 x.2)]), ⟨0, []⟩⟩ := by
  obtain ⟨l, v⟩ := x
  simp only at h ⊢
  have h86 := T86_eq (v := v) h
  unfold memI
  generalize idxI v l 0 = j at h86
  unfold c70
  by_cases hj : 0 ≤ j
  rotate_left
  rw [decide_eq_false hj]
  rotate_left
  rw [decide_eq_true hj]
  all_goals
    repeat' first | (with_reducible first|refine Za ?_|refine Zb ?_|refine Zc ?_|refine Zd ?_|refine Ze ?_|refine Zf ?_|refine Zg ?_|refine Zh ?_|refine Zi ?_|refine Zj ?_|refine Zk ?_|refine Zl ?_|refine Zm ?_|refine Zn ?_|refine Zo ?_|refine Zp ?_|refine Zq ?_|refine Zr ?_|refine Zs ?_|refine Zt ?_|refine Zu ?_)|(with_reducible refine Zv (by decide) ?_)|((with_reducible apply Zw);rfl)|((with_reducible apply Zx);rfl;decide)|((with_reducible apply Zy);rfl)|((with_reducible apply Zz);rfl)|((with_reducible apply ZA);rfl) | ((with_reducible apply Z1 (f := 86));rfl;rfl;rfl;exact h86;rfl) | ((with_reducible first|apply ZD|apply ZE|apply ZF|apply ZG|apply ZH|apply ZI);rfl;rfl;all_goals (intro hc;first|(exfalso;omega)|skip))|((with_reducible first|apply ZJ|apply ZK);rfl;rfl;all_goals (intro hc;first|contradiction|skip))|((with_reducible first|apply ZL|apply ZM);rfl;rfl;omega;omega)|((with_reducible first|apply ZN|apply ZO);rfl;rfl;omega;omega;intro c hget hc)|((with_reducible apply ZP);rfl;(first|exact .inl rfl|assumption);rfl;rfl;omega;omega;omega;intro s' hs' hl')|((with_reducible apply ZQ);rfl;rfl;rfl;omega;omega;omega;intro s' hs' hl')|((with_reducible apply ZR);rfl) | refine ZB rfl ?_|refine ZC rfl ?_
    exact ⟨_, rfl, rfl⟩
theorem pok70 (m : Int) : PureOk Go.Proofs.Tryd.prog (glb m) 70 T70 := .inl (fam_ok (fn70 m) (callOk_cons (pok86 m) (callOk_nil _ _)) w70)
structure Tk5 where
  k : Int
  a : Int
  b : Int
  s : List UInt8
  e : Int
def tkD (t : Tk5) : List D := [.int .i64 t.k, .int .i64 t.a, .int .i64 t.b, .str t.s, .int .i64 t.e]
theorem tkD_inj {t u : Tk5} (h : tkD t = tkD u) : t = u := by
  cases t
  cases u
  simp only [tkD, List.cons.injEq, D.int.injEq, D.str.injEq, true_and, and_true] at h
  obtain ⟨rfl, rfl, rfl, rfl, rfl⟩ := h
  rfl
noncomputable def T53 : List DV → Option DV := fam (fun x : Tk5 × List Int => [.agg (tkD x.1), .c (.list 1 (intsD x.2))]) (fun x => x.2.length ≤ 1000) (fun x => .c (.bool (memI x.2 x.1.k)))
theorem T53_eq {t : Tk5} {l : List Int} (h : l.length ≤ 1000) : T53 [.agg (tkD t), .c (.list 1 (intsD l))] = some (.c (.bool (memI l t.k))) := by
  refine fam_eq (ι := Tk5 × List Int) (t, l) h ?_
  rintro ⟨t', l'⟩ _ e
  simp only [List.cons.injEq, DV.agg.injEq, DV.c.injEq, D.list.injEq, true_and, and_true] at e
  rw [tkD_inj e.1, intsD_inj e.2]
set_option maxRecDepth 8000 in
theorem w53 (x : Tk5 × List Int) (h : x.2.length ≤ 1000) : awp (tbl [(70, T70)]) c53 (PureQ [.t 4] (.c (.bool (memI x.2 x.1.k)))) ⟨argE 0 (dvArgs [.agg (tkD x.1), .c (.list 1 (intsD x.2))]), ⟨0, []⟩⟩ := by
  obtain ⟨⟨k, a, b, s, e⟩, l⟩ := x
  simp only at h ⊢
  have h70 := T70_eq (v := k) h
  unfold c53
  repeat' first | (with_reducible first|refine Za ?_|refine Zb ?_|refine Zc ?_|refine Zd ?_|refine Ze ?_|refine Zf ?_|refine Zg ?_|refine Zh ?_|refine Zi ?_|refine Zj ?_|refine Zk ?_|refine Zl ?_|refine Zm ?_|refine Zn ?_|refine Zo ?_|refine Zp ?_|refine Zq ?_|refine Zr ?_|refine Zs ?_|refine Zt ?_|refine Zu ?_)|(with_reducible refine Zv (by decide) ?_)|((with_reducible apply Zw);rfl)|((with_reducible apply Zx);rfl;decide)|((with_reducible apply Zy);rfl)|((with_reducible apply Zz);rfl)|((with_reducible apply ZA);rfl) | ((with_reducible apply Z1 (f := 70));rfl;rfl;rfl;exact h70;rfl) | refine ZB rfl ?_|refine ZC rfl ?_
  exact ⟨_, rfl, rfl⟩
theorem pok53 (m : Int) : PureOk Go.Proofs.Tryd.prog (glb m) 53 T53 := .inl (fam_ok (fn53 m) (callOk_cons (pok70 m) (callOk_nil _ _)) w53)
/-! ### fits.Part -/
def partK (t : Tk5) (n : List UInt8) : Bool := t.s == n && memI [1, 2, 6] t.k
noncomputable def T27 : List DV → Option DV := fam (fun x : Tk5 × List UInt8 => [.agg (tkD x.1), .c (.str x.2)]) (fun _ => True) (fun x => .c (.bool (partK x.1 x.2)))
theorem T27_eq {t : Tk5} {n : List UInt8} : T27 [.agg (tkD t), .c (.str n)] = some (.c (.bool (partK t n))) := by
  refine fam_eq (ι := Tk5 × List UInt8) (t, n) True.intro ?_
  rintro ⟨t', n'⟩ _ e
  simp only [List.cons.injEq, DV.agg.injEq, DV.c.injEq, D.str.injEq, and_true] at e
  rw [tkD_inj e.1, e.2]
set_option maxRecDepth 8000 in
theorem w27 (x : Tk5 × List UInt8) (_ : True) : awp (tbl [(53, T53)]) c27 (PureQ [.t 4] (.c (.bool (partK x.1 x.2)))) ⟨argE 0 (dvArgs [.agg (tkD x.1), .c (.str x.2)]), ⟨0, []⟩⟩ := by
  obtain ⟨⟨k, a, b, s, e⟩, n⟩ := x
  simp only
  have h53 : T53 [.agg [.int .i64 k, .int .i64 a, .int .i64 b, .str s, .int .i64 e], .c (.list 1 [[.int .i64 1], [.int .i64 2], [.int .i64 6]])] = some (.c (.bool (memI [1, 2, 6] k))) := T53_eq (t := ⟨k, a, b, s, e⟩) (l := [1, 2, 6]) (by decide)
  unfold partK
  simp only
  unfold c27
  by_cases hs : s = n
  rotate_left
  rw [show (s == n) = false by simpa using hs, Bool.false_and]
  rotate_left
  rw [show (s == n) = true by simpa using hs, Bool.true_and]
  all_goals
    repeat' first | (with_reducible first|refine Za ?_|refine Zb ?_|refine Zc ?_|refine Zd ?_|refine Ze ?_|refine Zf ?_|refine Zg ?_|refine Zh ?_|refine Zi ?_|refine Zj ?_|refine Zk ?_|refine Zl ?_|refine Zm ?_|refine Zn ?_|refine Zo ?_|refine Zp ?_|refine Zq ?_|refine Zr ?_|refine Zs ?_|refine Zt ?_|refine Zu ?_)|(with_reducible refine Zv (by decide) ?_)|((with_reducible apply Zw);rfl)|((with_reducible apply Zx);rfl;decide)|((with_reducible apply Zy);rfl)|((with_reducible apply Zz);rfl)|((with_reducible apply ZA);rfl) | refine ZB (ev_eqs_t rfl rfl hs) ?_ | refine ZB (ev_eqs_f rfl rfl hs) ?_ | ((with_reducible apply Z1 (f := 53));rfl;rfl;rfl;exact h53;rfl) | refine ZB rfl ?_|refine ZC rfl ?_
    exact ⟨_, rfl, rfl⟩
theorem pok27 (m : Int) : PureOk Go.Proofs.Tryd.prog (glb m) 27 T27 := .inl (fam_ok (fn27 m) (callOk_cons (pok53 m) (callOk_nil _ _)) w27)
end Go.Am
