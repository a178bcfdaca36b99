/-
  A token's kinds; fits.Part.
-/
import Derived.Test.YtpidbhbmamjbpaaDoorSMY
import Derived.Test.YtpidbhbmamjbpaaDoorSCU
import Derived.Test.YtpidbhbmamjbpaaDoorSMV
import Derived.Test.YtpidbhbmamjbpaaDoorSMH
namespace Go.Am
open Go
def idxI (v : Int) : List Int → Nat → Int
  | [], _ => -1
  | x :: r, i => if v = x then (i : Int) else idxI v r (i + 1)
def memI (l : List Int) (v : Int) : Bool := decide (0 ≤ idxI v l 0)
def intsD (l : List Int) : List (List D) := l.map fun v => [.int .i64 v]
theorem intsD_inj : ∀ {a b : List Int}, intsD a = intsD b → a = b
  | [], [], _ => rfl
  | [], _ :: _, h => by cases h
  | _ :: _, [], h => by cases h
  | x :: a, y :: b, h => by
    simp only [intsD, List.map_cons, List.cons.injEq, D.int.injEq, true_and, and_true] at h
    rw [h.1, intsD_inj h.2]
theorem idxI_drop {v x : Int} {l : List Int} {i : Nat} (hx : l[i]? = some x) : idxI v (l.drop i) i = if v = x then (i : Int) else idxI v (l.drop (i + 1)) (i + 1) := by
  have hlt := (List.getElem?_eq_some_iff.1 hx).1
  have : l.drop i = x :: l.drop (i + 1) := by rw [List.drop_eq_getElem_cons hlt]; congr 1; exact (List.getElem?_eq_some_iff.1 hx).2
  rw [this]
  rfl
noncomputable def T86 : List DV → Option DV := fam (fun x : List Int × Int => [.c (.list 1 (intsD x.1)), .c (.int .i64 x.2)]) (fun x => x.1.length ≤ 1000) (fun x => .c (.int .i64 (idxI x.2 x.1 0)))
theorem T86_eq {l : List Int} {v : Int} (h : l.length ≤ 1000) : T86 [.c (.list 1 (intsD l)), .c (.int .i64 v)] = some (.c (.int .i64 (idxI v l 0))) := by
  refine fam_eq (ι := List Int × Int) (l, v) h ?_
  rintro ⟨l', v'⟩ _ e
  simp only [List.cons.injEq, DV.c.injEq, D.list.injEq, D.int.injEq, true_and, and_true] at e
  rw [intsD_inj e.1, e.2]
set_option maxRecDepth 8000 in
set_option maxHeartbeats 2000000 in
theorem w86 (x : List Int × Int) (h : x.1.length ≤ 1000) : awp (tbl []) c86 (PureQ [.t 4] (.c (.int .i64 (idxI x.2 x.1 0)))) ⟨argE 0 (dvArgs [.c (.list 1 (intsD x.1)), .c (.int .i64 x.2)]), ⟨0, []⟩⟩ := by
  obtain ⟨l, v⟩ := x
  simp only at h ⊢
  have hlen : (intsD l).length = l.length := List.length_map _
  unfold c86
  repeat' first | refine GoH ?_|refine ZB rfl ?_|refine ZC rfl ?_
  refine awp_loop (fun n st => ∃ i : Nat, i ≤ l.length ∧ n = l.length - i + 1 ∧ idxI v l 0 = idxI v (l.drop i) i ∧
    st = ⟨[(0, .c (.d (.list 1 (intsD l)))), (1, .c (.d (.int .i64 v))), (7, .c (.d (.int .i64 (intsD l).length))), (8, .c (.d (.int .i64 (i : Nat))))], ⟨0, []⟩⟩) (l.length + 1) ?_ (by rintro st ⟨i, h1, h2, _⟩; omega) ?_
  · exact weak_keep [0, 1, 7, 8] rfl ⟨0, by omega, by omega, rfl, rfl⟩
  · rintro n K hK st ⟨i, hi, hn, hidx, rfl⟩
    by_cases hend : i = l.length
    · have hm : idxI v l 0 = -1 := by rw [hidx, hend, List.drop_length]; rfl
      rw [hm]
      repeat' first | refine GoH ?_ | ((with_reducible first|apply ZD|apply ZE|apply ZF|apply ZG|apply ZH|apply ZI);rfl;rfl;all_goals (intro hc;first|(exfalso;omega)|skip))|((with_reducible first|apply ZJ|apply ZK);rfl;rfl;all_goals (intro hc;first|contradiction|skip))|((with_reducible first|apply ZL|apply ZM);rfl;rfl;omega;omega)|((with_reducible first|apply ZN|apply ZO);rfl;rfl;omega;omega;intro c hget hc)|((with_reducible apply ZP);rfl;(first|exact .inl rfl|assumption);rfl;rfl;omega;omega;omega;intro s' hs' hl')|((with_reducible apply ZQ);rfl;rfl;rfl;omega;omega;omega;intro s' hs' hl')|((with_reducible apply ZR);rfl) | refine ZB rfl ?_|refine ZC rfl ?_
      exact ⟨_, rfl, rfl⟩
    · have hx : l[i]? = some l[i] := List.getElem?_eq_getElem (by omega)
      have hx' : (intsD l)[(i : Int).toNat]? = some [.int .i64 l[i]] := by simp [intsD, hx]
      rw [idxI_drop hx] at hidx
      repeat' first
        | refine GoH ?_
        | refine ZB (ev_idx rfl rfl (by omega) hx' rfl) ?_
        | ((with_reducible first|apply ZD|apply ZE|apply ZF|apply ZG|apply ZH|apply ZI);rfl;rfl;all_goals (intro hc;first|(exfalso;omega)|skip))|((with_reducible first|apply ZJ|apply ZK);rfl;rfl;all_goals (intro hc;first|contradiction|skip))|((with_reducible first|apply ZL|apply ZM);rfl;rfl;omega;omega)|((with_reducible first|apply ZN|apply ZO);rfl;rfl;omega;omega;intro c hget hc)|((with_reducible apply ZP);rfl;(first|exact .inl rfl|assumption);rfl;rfl;omega;omega;omega;intro s' hs' hl')|((with_reducible apply ZQ);rfl;rfl;rfl;omega;omega;omega;intro s' hs' hl')|((with_reducible apply ZR);rfl)
        | refine ZB rfl ?_|refine ZC rfl ?_
      · rw [if_pos (by assumption)] at hidx
        rw [hidx]
        exact ⟨_, rfl, rfl⟩
      · rw [if_neg (by assumption)] at hidx
        exact hK _ (weak_keep [0, 1, 7, 8] rfl ⟨i + 1, by omega, by omega, hidx, rfl⟩)
theorem pok86 (m : Int) : PureOk Go.Proofs.Tryd.prog (glb m) 85 T86 := .inl (fam_ok (fn86 m) (callOk_nil _ _) w86)
noncomputable def T70 : List DV → Option DV := fam (fun x : List Int × Int => [.c (.list 1 (intsD x.1)), .c (.int .i64 x.2)]) (fun x => x.1.length ≤ 1000) (fun x => .c (.bool (memI x.1 x.2)))
theorem T70_eq {l : List Int} {v : Int} (h : l.length ≤ 1000) : T70 [.c (.list 1 (intsD l)), .c (.int .i64 v)] = some (.c (.bool (memI l v))) := by
  refine fam_eq (ι := List Int × Int) (l, v) h ?_
  rintro ⟨l', v'⟩ _ e
  simp only [List.cons.injEq, DV.c.injEq, D.list.injEq, D.int.injEq, true_and, and_true] at e
  rw [intsD_inj e.1, e.2]
set_option maxRecDepth 8000 in
theorem w70 (x : List Int × Int) (h : x.1.length ≤ 1000) : awp (tbl [(85, T86)]) c70 (PureQ [.t 4] (.c (.bool (memI x.1 x.2)))) ⟨argE 0 (dvArgs [.c (.list 1 (intsD x.1)), .c (.int .i64 x.2)]), ⟨0, []⟩⟩ := by
  obtain ⟨l, v⟩ := x
  simp only at h ⊢
  have h86 := T86_eq (v := v) h
  unfold memI
  generalize idxI v l 0 = j at h86
  unfold c70
  by_cases hj : 0 ≤ j
  rotate_left
  rw [decide_eq_false hj]
  rotate_left
  rw [decide_eq_true hj]
  all_goals
    repeat' first | refine GoH ?_ | ((with_reducible apply Z1 (f := 85));rfl;rfl;rfl;exact h86;rfl) | ((with_reducible first|apply ZD|apply ZE|apply ZF|apply ZG|apply ZH|apply ZI);rfl;rfl;all_goals (intro hc;first|(exfalso;omega)|skip))|((with_reducible first|apply ZJ|apply ZK);rfl;rfl;all_goals (intro hc;first|contradiction|skip))|((with_reducible first|apply ZL|apply ZM);rfl;rfl;omega;omega)|((with_reducible first|apply ZN|apply ZO);rfl;rfl;omega;omega;intro c hget hc)|((with_reducible apply ZP);rfl;(first|exact .inl rfl|assumption);rfl;rfl;omega;omega;omega;intro s' hs' hl')|((with_reducible apply ZQ);rfl;rfl;rfl;omega;omega;omega;intro s' hs' hl')|((with_reducible apply ZR);rfl) | refine ZB rfl ?_|refine ZC rfl ?_
    exact ⟨_, rfl, rfl⟩
theorem pok70 (m : Int) : PureOk Go.Proofs.Tryd.prog (glb m) 69 T70 := .inl (fam_ok (fn70 m) (callOk_cons (pok86 m) (callOk_nil _ _)) w70)
structure Tk5 where
  k : Int
  a : Int
  b : Int
  s : List UInt8
  e : Int
def tkD (t : Tk5) : List D := [.int .i64 t.k, .int .i64 t.a, .int .i64 t.b, .str t.s, .int .i64 t.e]
theorem tkD_inj {t u : Tk5} (h : tkD t = tkD u) : t = u := by
  cases t
  cases u
  simp only [tkD, List.cons.injEq, D.int.injEq, D.str.injEq, true_and, and_true] at h
  obtain ⟨rfl, rfl, rfl, rfl, rfl⟩ := h
  rfl
noncomputable def T53 : List DV → Option DV := fam (fun x : Tk5 × List Int => [.agg (tkD x.1), .c (.list 1 (intsD x.2))]) (fun x => x.2.length ≤ 1000) (fun x => .c (.bool (memI x.2 x.1.k)))
theorem T53_eq {t : Tk5} {l : List Int} (h : l.length ≤ 1000) : T53 [.agg (tkD t), .c (.list 1 (intsD l))] = some (.c (.bool (memI l t.k))) := by
  refine fam_eq (ι := Tk5 × List Int) (t, l) h ?_
  rintro ⟨t', l'⟩ _ e
  simp only [List.cons.injEq, DV.agg.injEq, DV.c.injEq, D.list.injEq, true_and, and_true] at e
  rw [tkD_inj e.1, intsD_inj e.2]
set_option maxRecDepth 8000 in
theorem w53 (x : Tk5 × List Int) (h : x.2.length ≤ 1000) : awp (tbl [(69, T70)]) c53 (PureQ [.t 4] (.c (.bool (memI x.2 x.1.k)))) ⟨argE 0 (dvArgs [.agg (tkD x.1), .c (.list 1 (intsD x.2))]), ⟨0, []⟩⟩ := by
  obtain ⟨⟨k, a, b, s, e⟩, l⟩ := x
  simp only at h ⊢
  have h70 := T70_eq (v := k) h
  unfold c53
  repeat' first | refine GoH ?_ | ((with_reducible apply Z1 (f := 69));rfl;rfl;rfl;exact h70;rfl) | refine ZB rfl ?_|refine ZC rfl ?_
  exact ⟨_, rfl, rfl⟩
theorem pok53 (m : Int) : PureOk Go.Proofs.Tryd.prog (glb m) 45 T53 := .inl (fam_ok (fn53 m) (callOk_cons (pok70 m) (callOk_nil _ _)) w53)
def partK (t : Tk5) (n : List UInt8) : Bool := t.s == n && memI [1, 2, 6] t.k
noncomputable def T27 : List DV → Option DV := fam (fun x : Tk5 × List UInt8 => [.agg (tkD x.1), .c (.str x.2)]) (fun _ => True) (fun x => .c (.bool (partK x.1 x.2)))
theorem T27_eq {t : Tk5} {n : List UInt8} : T27 [.agg (tkD t), .c (.str n)] = some (.c (.bool (partK t n))) := by
  refine fam_eq (ι := Tk5 × List UInt8) (t, n) True.intro ?_
  rintro ⟨t', n'⟩ _ e
  simp only [List.cons.injEq, DV.agg.injEq, DV.c.injEq, D.str.injEq, and_true] at e
  rw [tkD_inj e.1, e.2]
set_option maxRecDepth 8000 in
theorem w27 (x : Tk5 × List UInt8) (_ : True) : awp (tbl [(45, T53)]) c27 (PureQ [.t 4] (.c (.bool (partK x.1 x.2)))) ⟨argE 0 (dvArgs [.agg (tkD x.1), .c (.str x.2)]), ⟨0, []⟩⟩ := by
  obtain ⟨⟨k, a, b, s, e⟩, n⟩ := x
  simp only
  have h53 : T53 [.agg [.int .i64 k, .int .i64 a, .int .i64 b, .str s, .int .i64 e], .c (.list 1 [[.int .i64 1], [.int .i64 2], [.int .i64 6]])] = some (.c (.bool (memI [1, 2, 6] k))) := T53_eq (t := ⟨k, a, b, s, e⟩) (l := [1, 2, 6]) (by decide)
  unfold partK
  simp only
  unfold c27
  by_cases hs : s = n
  rotate_left
  rw [show (s == n) = false by simpa using hs, Bool.false_and]
  rotate_left
  rw [show (s == n) = true by simpa using hs, Bool.true_and]
  all_goals
    repeat' first | refine GoH ?_ | refine ZB (ev_eqs_t rfl rfl hs) ?_ | refine ZB (ev_eqs_f rfl rfl hs) ?_ | ((with_reducible apply Z1 (f := 45));rfl;rfl;rfl;exact h53;rfl) | refine ZB rfl ?_|refine ZC rfl ?_
    exact ⟨_, rfl, rfl⟩
theorem pok27 (m : Int) : PureOk Go.Proofs.Tryd.prog (glb m) 50 T27 := .inl (fam_ok (fn27 m) (callOk_cons (pok53 m) (callOk_nil _ _)) w27)
def psD (part : List UInt8 → Bool) (pat : List UInt8) : D := match shapeOf part pat with
  | some v => .list 1 (ofStrs v.parts)
  | none => .list 0 []
noncomputable def T56 (part : List UInt8 → Bool) : List DV → Option DV := fam (fun o : Op3 => [.agg (opD o)]) (fun _ => True) (fun o => .c (psD part o.pat))
theorem T56_eq (part : List UInt8 → Bool) (o : Op3) : T56 part [.agg (opD o)] = some (.c (psD part o.pat)) := by
  refine fam_eq (ι := Op3) o True.intro ?_
  intro o' _ e
  simp only [List.cons.injEq, DV.agg.injEq, and_true] at e
  rw [opD_inj e]
set_option maxRecDepth 8000 in
theorem w56 (part : List UInt8 → Bool) (o : Op3) (_ : True) : awp (tbl [(14, G19 part)]) c56 (PureQ [.t 2] (.c (psD part o.pat))) ⟨argE 0 (dvArgs [.agg (opD o)]), ⟨0, []⟩⟩ := by
  obtain ⟨pat, g, a⟩ := o
  unfold psD
  simp only
  cases hS : shapeOf part pat with
  | none =>
    have h19 : G19 part [.c (.str pat)] = some (.tup [.agg [.list 0 [], .bool false, .bool false], .c (.int .i64 23)]) := by simp only [G19, hS]; rfl
    unfold c56
    repeat' first | refine GoH ?_ | ((with_reducible apply Z1 (f := 14));rfl;rfl;rfl;exact h19;rfl) | refine ZB rfl ?_|refine ZC rfl ?_
    exact ⟨_, rfl, rfl⟩
  | some v =>
    obtain ⟨ps, l, r⟩ := v
    have h19 : G19 part [.c (.str pat)] = some (.tup [.agg [.list 1 (ofStrs ps), .bool l, .bool r], .c (.int .i64 0)]) := by simp only [G19, hS]; rfl
    unfold c56
    repeat' first | refine GoH ?_ | ((with_reducible apply Z1 (f := 14));rfl;rfl;rfl;exact h19;rfl) | refine ZB rfl ?_|refine ZC rfl ?_
    exact ⟨_, rfl, rfl⟩
theorem pok56 {m : Int} {part : List UInt8 → Bool} (h : PureOk Go.Proofs.Tryd.prog (glb m) 14 (G19 part)) : PureOk Go.Proofs.Tryd.prog (glb m) 70 (T56 part) := .inl (fam_ok (fn56 m) (callOk_cons h (callOk_nil _ _)) (w56 part))
def hasOp (part : List UInt8 → Bool) (n : List UInt8) (o : Op3) : Bool := match shapeOf part o.pat with
  | some v => hasS v.parts n
  | none => false
def rowAt (f : Nat → Int) (g : Int) : Int := if 0 ≤ g ∧ g < 10 then f g.toNat else 0
def entD (f : Nat → Int) (o : Op3) : List D := opD o ++ [.int .i64 (rowAt f o.g)]
def entsOf (part : List UInt8 → Bool) (f : Nat → Int) (n : List UInt8) (l : List Op3) : List (List D) := (l.filter (hasOp part n)).map (entD f)
theorem has_call (part : List UInt8 → Bool) (n : List UInt8) (o : Op3) : G55 [.c (psD part o.pat), .c (.str n)] = some (.c (.bool (hasOp part n o))) := by
  unfold psD hasOp
  cases hS : shapeOf part o.pat with
  | none => rfl
  | some v =>
    have h4 := (mayS_inv (shapeOf_some hS).2.2).2.1
    simp only [G55, strsOf_back, if_pos (show v.parts.length ≤ room by unfold room; omega)]
theorem entD_eq {f f' : Nat → Int} (h : ∀ x, x < 10 → f x = f' x) (o : Op3) : entD f o = entD f' o := by
  unfold entD rowAt
  split
  · rw [h _ (by omega)]
  · rfl
theorem ents_snoc {part : List UInt8 → Bool} {f : Nat → Int} {n : List UInt8} {l : List Op3} {i : Nat} {x : Op3} (h : l[i]? = some x) : entsOf part f n (l.take (i + 1)) = entsOf part f n (l.take i) ++ (if hasOp part n x = true then [entD f x] else []) := by
  unfold entsOf
  rw [take_snoc h, List.filter_append, List.map_append]
  congr 1
  cases hh : hasOp part n x <;> simp [hh]
theorem ents_len (part : List UInt8 → Bool) (f : Nat → Int) (n : List UInt8) (l : List Op3) : (entsOf part f n l).length ≤ l.length := by
  unfold entsOf
  rw [List.length_map]
  exact List.length_filter_le _ _
theorem env_ld (f : Nat → Int) (d : C) {i : Nat} (h : i < 10) : mkV false (sub (d :: rowsC f) (1 + i * 1) 1) = some (.c (.d (.int .i64 (f i)))) := by
  rcases ten h with rfl | rfl | rfl | rfl | rfl | rfl | rfl | rfl | rfl | rfl <;> rfl
theorem ownT {h : Hp} {k n sz : Nat} {l : List (List D)} (hl : look h.obs k = some (.row sz l)) (hn : n = l.length) : V.toDVt h (.c (.own k n)) = some (.c (.list sz l)) := by
  simp [V.toDVt, V.toDV, C.toD, hl, hn]
noncomputable def T31 (part : List UInt8 → Bool) : List DV → Option DV := fam (fun x : (Nat × List Op3 × (Nat → Int)) × List UInt8 => [.agg (envD x.1.1 x.1.2.1 (x.1.2.2)), .c (.str x.2)]) (fun x => x.1.2.1.length ≤ 1000) (fun x => .c (.list 4 (entsOf part (x.1.2.2) x.2 x.1.2.1)))
theorem T31_eq {part : List UInt8 → Bool} {sz : Nat} {l : List Op3} {f : Nat → Int} (he : l.length ≤ 1000) (n : List UInt8) : T31 part [.agg (envD sz l f), .c (.str n)] = some (.c (.list 4 (entsOf part f n l))) := by
  refine fam_eq (ι := (Nat × List Op3 × (Nat → Int)) × List UInt8) ((sz, l, f), n) he ?_
  rintro ⟨⟨sz', l', f'⟩, n'⟩ _ e
  simp only [List.cons.injEq, DV.agg.injEq, DV.c.injEq, D.str.injEq, and_true] at e
  obtain ⟨h1, rfl⟩ := e
  obtain ⟨rfl, h2⟩ := envD_inj h1
  simp only [entsOf]
  rw [List.map_congr_left (fun o _ => entD_eq h2 o)]
set_option maxRecDepth 8000 in
set_option maxHeartbeats 4000000 in
theorem w31 (part : List UInt8 → Bool) (x : (Nat × List Op3 × (Nat → Int)) × List UInt8) (he : x.1.2.1.length ≤ 1000) : awp (tbl [(56, G55), (70, T56 part)]) c31 (PureQ [.t 4] (.c (.list 4 (entsOf part (x.1.2.2) x.2 x.1.2.1)))) ⟨argE 0 (dvArgs [.agg (envD x.1.1 x.1.2.1 (x.1.2.2)), .c (.str x.2)]), ⟨0, []⟩⟩ := by
  obtain ⟨⟨sz, l, f⟩, n⟩ := x
  simp only at he ⊢
  have hlen := he
  have hml : (l.map opD).length = l.length := List.length_map _
  unfold c31
  repeat' first | refine GoH ?_ | ((with_reducible first|apply ZD|apply ZE|apply ZF|apply ZG|apply ZH|apply ZI);rfl;rfl;all_goals (intro hc;first|(exfalso;omega)|skip))|((with_reducible first|apply ZJ|apply ZK);rfl;rfl;all_goals (intro hc;first|contradiction|skip))|((with_reducible first|apply ZL|apply ZM);rfl;rfl;omega;omega)|((with_reducible first|apply ZN|apply ZO);rfl;rfl;omega;omega;intro c hget hc)|((with_reducible apply ZP);rfl;(first|exact .inl rfl|assumption);rfl;rfl;omega;omega;omega;intro s' hs' hl')|((with_reducible apply ZQ);rfl;rfl;rfl;omega;omega;omega;intro s' hs' hl')|((with_reducible apply ZR);rfl) | refine ZB rfl ?_|refine ZC rfl ?_
  refine awp_loop (fun m st => ∃ (i nx : Nat), i ≤ l.length ∧ l.length - i < m ∧ 2 ≤ nx ∧
    st = ⟨[(1, .c (.d (.str n))), (2, .c (.ptr 0 0)), (5, .c (.own 1 (entsOf part f n (l.take i)).length)), (10, .c (.d (.list sz (l.map opD)))), (11, .c (.d (.int .i64 (l.map opD).length))), (12, .c (.d (.int .i64 (i : Nat))))], ⟨nx, [(1, .row 4 (entsOf part f n (l.take i))), (0, .cells (.d (.list sz (l.map opD)) :: rowsC f))]⟩⟩) (l.length + 1) ?_ (by rintro st ⟨i, nx, h1, h2, _⟩; omega) ?_
  · exact weak_keep [1, 2, 5, 10, 11, 12] rfl ⟨0, 2, by omega, by omega, by omega, rfl⟩
  · rintro m K hK st ⟨i, nx, hi, hm, hnx, rfl⟩
    by_cases hend : i = l.length
    · subst hend
      rw [List.take_length]
      repeat' first | refine GoH ?_ | ((with_reducible first|apply ZD|apply ZE|apply ZF|apply ZG|apply ZH|apply ZI);rfl;rfl;all_goals (intro hc;first|(exfalso;omega)|skip))|((with_reducible first|apply ZJ|apply ZK);rfl;rfl;all_goals (intro hc;first|contradiction|skip))|((with_reducible first|apply ZL|apply ZM);rfl;rfl;omega;omega)|((with_reducible first|apply ZN|apply ZO);rfl;rfl;omega;omega;intro c hget hc)|((with_reducible apply ZP);rfl;(first|exact .inl rfl|assumption);rfl;rfl;omega;omega;omega;intro s' hs' hl')|((with_reducible apply ZQ);rfl;rfl;rfl;omega;omega;omega;intro s' hs' hl')|((with_reducible apply ZR);rfl) | refine ZB rfl ?_|refine ZC rfl ?_
      exact ⟨_, rfl, ownT look_hd rfl⟩
    · have hx : l[i]? = some l[i] := List.getElem?_eq_getElem (by omega)
      have hx' : (l.map opD)[(i : Int).toNat]? = some (opD l[i]) := ops_at l hx
      have hsn := ents_snoc (part := part) (f := f) (n := n) hx
      have hel := ents_len part f n (l.take i)
      rw [List.length_take] at hel
      have h56 := T56_eq part l[i]
      have h55 := has_call part n l[i]
      generalize entsOf part f n (l.take i) = es at hsn hel
      have h0 : nx ≠ 0 := by omega
      have h1 : nx ≠ 1 := by omega
      have h0' : nx + 1 ≠ 0 := by omega
      have h1' : nx + 1 ≠ 1 := by omega
      have hn1 : nx + 1 ≠ nx := by omega
      generalize l[i] = o at hx hx' hsn h56 h55
      generalize psD part o.pat = pd at h56 h55
      obtain ⟨p, g, a⟩ := o
      replace hx' : (l.map opD)[(i : Int).toNat]? = some [.str p, .int .i64 g, .int .i64 a] := hx'
      replace h56 : T56 part [.agg [.str p, .int .i64 g, .int .i64 a]] = some (.c pd) := h56
      by_cases hg : 0 ≤ g ∧ g < 10
      rotate_left
      have hr : rowAt f g = 0 := by unfold rowAt; rw [if_neg hg]
      rotate_left
      have hr : rowAt f g = f g.toNat := by unfold rowAt; rw [if_pos hg]
      obtain ⟨gn, rfl⟩ := Int.eq_ofNat_of_zero_le hg.1
      have hgn : gn < 10 := by omega
      rw [Int.toNat_natCast] at hr
      all_goals
        generalize hh : hasOp part n _ = hv at h55 hsn
        cases hv
      all_goals
        simp only [if_true, Bool.false_eq_true, if_false, List.append_nil] at hsn
        repeat' first
          | refine GoH ?_
          | ((with_reducible apply Z1 (f := 70));rfl;rfl;rfl;exact h56;rfl)
          | ((with_reducible apply Z1 (f := 56));rfl;rfl;rfl;exact h55;rfl)
          | refine ZB (ev_idx rfl rfl (by omega) hx' rfl) ?_
          | (refine ZC (ev_store rfl rfl rfl look_hd rfl put_hd) ?_)
          | refine ZB (ev_load rfl (look_tl h0' (look_tl h0 rfl)) (env_ld f _ hgn)) ?_
          | refine ZB (ev_load rfl look_hd rfl) ?_
          | refine ZB (ev_load rfl (look_tl hn1 look_hd) rfl) ?_
          | refine ZB (ev_arrn rfl rfl hgn) ?_
          | refine ZB (ev_app_own rfl rfl (look_tl h1' (look_tl h1 look_hd)) rfl (by show es.length + 1 ≤ room; unfold room; omega) (put_tl h1' (put_tl h1 put_hd))) ?_
          | ((with_reducible first|apply ZD|apply ZE|apply ZF|apply ZG|apply ZH|apply ZI);rfl;rfl;all_goals (intro hc;first|(exfalso;omega)|skip))|((with_reducible first|apply ZJ|apply ZK);rfl;rfl;all_goals (intro hc;first|contradiction|skip))|((with_reducible first|apply ZL|apply ZM);rfl;rfl;omega;omega)|((with_reducible first|apply ZN|apply ZO);rfl;rfl;omega;omega;intro c hget hc)|((with_reducible apply ZP);rfl;(first|exact .inl rfl|assumption);rfl;rfl;omega;omega;omega;intro s' hs' hl')|((with_reducible apply ZQ);rfl;rfl;rfl;omega;omega;omega;intro s' hs' hl')|((with_reducible apply ZR);rfl)
          | refine ZB rfl ?_|refine ZC rfl ?_
      all_goals first
        | (refine hK _ (weak_drop [1, 2, 5, 10, 11, 12] rfl (look_more (look_tl h1.symm (look_tl h0.symm rfl))) (Nat.le_refl _) ⟨i + 1, nx + 1, by omega, by omega, by omega, ?_⟩)
           rw [hsn]
           rfl)
        | (refine hK _ (weak_drop [1, 2, 5, 10, 11, 12] rfl (fun y q hq => look_more (look_tl hn1.symm (look_tl h1'.symm (look_tl h0'.symm rfl))) y q (look_more (look_tl h1.symm (look_tl h0.symm rfl)) y q hq)) (Nat.le_refl _) ⟨i + 1, nx + 2, by omega, by omega, by omega, ?_⟩)
           rw [hsn]
           simp only [entD, opD, hr]
           rfl)
theorem pok31 {m : Int} {part : List UInt8 → Bool} (h : PureOk Go.Proofs.Tryd.prog (glb m) 14 (G19 part)) : PureOk Go.Proofs.Tryd.prog (glb m) 46 (T31 part) := .inl (fam_ok (fn31 m) (callOk_cons (pok55 m) (callOk_cons (pok56 h) (callOk_nil _ _))) (w31 part))
end Go.Am
