/-
  FitsOnce, FitsThrough, FitsCross, FitsClosed: the laws' functions come to true.
-/
import Derived.Test.YtgbefhljbdjncaaDoorMY
import Derived.Test.YtgbefhljbdjncaaDoorMW
import Derived.Test.YtgbefhljbdjncaaDoorMG
namespace Go.Am
open Go
theorem sg43 : single [43] 2 := ⟨43, rfl, .inr (.inl ⟨by decide, rfl, by decide, by decide, by decide⟩)⟩
theorem sg42 : single [42] 2 := ⟨42, rfl, .inr (.inl ⟨by decide, rfl, by decide, by decide, by decide⟩)⟩
theorem sg45 : single [45] 2 := ⟨45, rfl, .inr (.inl ⟨by decide, rfl, by decide, by decide, by decide⟩)⟩
theorem sg33 : single [33] 2 := ⟨33, rfl, .inr (.inl ⟨by decide, rfl, by decide, by decide, by decide⟩)⟩
theorem sg91 : single [91] 6 := ⟨91, rfl, .inr (.inr ⟨by decide, rfl, rfl⟩)⟩
theorem sg93 : single [93] 6 := ⟨93, rfl, .inr (.inr ⟨by decide, rfl, rfl⟩)⟩
section
variable {G : List DV → Option DV}
theorem pv43 (hG : KB R37 G) : partV G [43] = true := by rw [partV_single hG (by decide) sg43 (by decide)]; decide
theorem pv42 (hG : KB R37 G) : partV G [42] = true := by rw [partV_single hG (by decide) sg42 (by decide)]; decide
theorem pv45 (hG : KB R37 G) : partV G [45] = true := by rw [partV_single hG (by decide) sg45 (by decide)]; decide
theorem pv33 (hG : KB R37 G) : partV G [33] = true := by rw [partV_single hG (by decide) sg33 (by decide)]; decide
theorem pv91 (hG : KB R37 G) : partV G [91] = true := by rw [partV_single hG (by decide) sg91 (by decide)]; decide
theorem pv93 (hG : KB R37 G) : partV G [93] = true := by rw [partV_single hG (by decide) sg93 (by decide)]; decide
theorem sh_plus (hG : KB R37 G) : shapeOf (partV G) [95, 43, 95] = some ⟨[[43]], true, true⟩ := by
  have e : trim (cutU 95 [95, 43, 95]) = ⟨[[43]], true, true⟩ := rfl
  rw [shapeOf_of (by decide) (by rw [e]; exact mayS_t (by decide) (by decide) (fun _ => .inl rfl) (by simp [badS, pv43 hG])), e]
theorem sh_times (hG : KB R37 G) : shapeOf (partV G) [95, 42, 95] = some ⟨[[42]], true, true⟩ := by
  have e : trim (cutU 95 [95, 42, 95]) = ⟨[[42]], true, true⟩ := rfl
  rw [shapeOf_of (by decide) (by rw [e]; exact mayS_t (by decide) (by decide) (fun _ => .inl rfl) (by simp [badS, pv42 hG])), e]
theorem sh_minus (hG : KB R37 G) : shapeOf (partV G) [45, 95] = some ⟨[[45]], false, true⟩ := by
  have e : trim (cutU 95 [45, 95]) = ⟨[[45]], false, true⟩ := rfl
  rw [shapeOf_of (by decide) (by rw [e]; exact mayS_t (by decide) (by decide) (fun _ => .inr rfl) (by simp [badS, pv45 hG])), e]
theorem sh_bang (hG : KB R37 G) : shapeOf (partV G) [95, 33] = some ⟨[[33]], true, false⟩ := by
  have e : trim (cutU 95 [95, 33]) = ⟨[[33]], true, false⟩ := rfl
  rw [shapeOf_of (by decide) (by rw [e]; exact mayS_t (by decide) (by decide) (fun _ => .inl rfl) (by simp [badS, pv33 hG])), e]
theorem sh_box (hG : KB R37 G) : shapeOf (partV G) [91, 95, 93] = some ⟨[[91], [93]], false, false⟩ := by
  have e : trim (cutU 95 [91, 95, 93]) = ⟨[[91], [93]], false, false⟩ := rfl
  rw [shapeOf_of (by decide) (by rw [e]; exact mayS_t (by decide) (by decide) (fun h => by cases h) (by simp [badS, pv91 hG, pv93 hG])), e]
/-! ### the examples at the head -/
def opPlus : Op3 := ⟨[95, 43, 95], 3, 1⟩
def opTimes : Op3 := ⟨[95, 42, 95], 2, 1⟩
theorem ex1 (hG : KB R37 G) : fitsOf (partV G) (liftF startF) opPlus opTimes true = true := by
  simp only [fitsOf, opPlus, opTimes, sh_plus hG, sh_times hG]
  decide +kernel
theorem ex2 (hG : KB R37 G) : fitsOf (partV G) (liftF startF) opPlus opTimes false = true := by
  simp only [fitsOf, opPlus, opTimes, sh_plus hG, sh_times hG]
  decide +kernel
theorem ex3 (hG : KB R37 G) : fitsOf (partV G) (liftF startF) opPlus opPlus false = true := by
  simp only [fitsOf, opPlus, sh_plus hG]
  decide +kernel
theorem ex4 (hG : KB R37 G) : fitsOf (partV G) (liftF startF) opPlus opPlus true = false := by
  simp only [fitsOf, opPlus, sh_plus hG]
  decide +kernel
theorem ex5 (hG : KB R37 G) : fitsOf (partV G) (liftF startF) opTimes opPlus false = false := by
  simp only [fitsOf, opPlus, opTimes, sh_plus hG, sh_times hG]
  decide +kernel
end
def G20 : List DV → Option DV
  | [] => some (.c (.bool true))
  | _ => none
set_option maxRecDepth 8000 in
set_option maxHeartbeats 4000000 in
theorem w20 {G : List DV → Option DV} (hG : KB R37 G) (ds : List DV) (r : DV) (h : G20 ds = some r) : awp (tbl [(23, T23 (partV G)), (48, G48)]) c20 (PureQ [.t 0] r) ⟨argE 0 (dvArgs ds), ⟨0, []⟩⟩ := by
  unfold G20 at h
  split at h
  · cases h
    have h48 : G48 [] = some (.agg (.list 0 [] :: rowsD fun x => (startF x : Int))) := rfl
    have h1 := T23_eq (partV G) (liftF startF) opPlus opTimes true
    have h2 := T23_eq (partV G) (liftF startF) opPlus opTimes false
    have h3 := T23_eq (partV G) (liftF startF) opPlus opPlus false
    have h4 := T23_eq (partV G) (liftF startF) opPlus opPlus true
    have h5 := T23_eq (partV G) (liftF startF) opTimes opPlus false
    rw [ex1 hG] at h1
    rw [ex2 hG] at h2
    rw [ex3 hG] at h3
    rw [ex4 hG] at h4
    rw [ex5 hG] at h5
    unfold c20
    repeat' first
      | (with_reducible first|refine Za ?_|refine Zb ?_|refine Zc ?_|refine Zd ?_|refine Ze ?_|refine Zf ?_|refine Zg ?_|refine Zh ?_|refine Zi ?_|refine Zj ?_|refine Zk ?_|refine Zl ?_|refine Zm ?_|refine Zn ?_|refine Zo ?_|refine Zp ?_|refine Zq ?_|refine Zr ?_|refine Zs ?_|refine Zt ?_|refine Zu ?_)|(with_reducible refine Zv (by decide) ?_)|((with_reducible apply Zw);rfl)|((with_reducible apply Zx);rfl;decide)|((with_reducible apply Zy);rfl)|((with_reducible apply Zz);rfl)|((with_reducible apply ZA);rfl)
      | ((with_reducible apply Z1 (f := 48));rfl;rfl;rfl;exact h48;rfl)
      | ((with_reducible apply Z1 (f := 23));rfl;rfl;rfl;exact h1;rfl)
      | ((with_reducible apply Z1 (f := 23));rfl;rfl;rfl;exact h2;rfl)
      | ((with_reducible apply Z1 (f := 23));rfl;rfl;rfl;exact h3;rfl)
      | ((with_reducible apply Z1 (f := 23));rfl;rfl;rfl;exact h4;rfl)
      | ((with_reducible apply Z1 (f := 23));rfl;rfl;rfl;exact h5;rfl)
      | (with_reducible first|refine Za ?_|refine Zb ?_|refine Zc ?_|refine Zd ?_|refine Ze ?_|refine Zf ?_|refine Zg ?_|refine Zh ?_|refine Zi ?_|refine Zj ?_|refine Zk ?_|refine Zl ?_|refine Zm ?_|refine Zn ?_|refine Zo ?_|refine Zp ?_|refine Zq ?_|refine Zr ?_|refine Zs ?_|refine Zt ?_|refine Zu ?_)|(with_reducible refine Zv (by decide) ?_)|((with_reducible apply Zw);rfl)|((with_reducible apply Zx);rfl;decide)|((with_reducible apply Zy);rfl)|((with_reducible apply Zz);rfl)|((with_reducible apply ZA);rfl)|refine ZB rfl ?_|refine ZC rfl ?_
    exact ⟨_, rfl, rfl⟩
  · cases h
theorem pok20 {m : Int} {G : List DV → Option DV} (hG : KB R37 G) (h : PureOk Go.Proofs.Tryd.prog (glb m) 19 (G19 (partV G))) : PureOk Go.Proofs.Tryd.prog (glb m) 20 G20 := pure_ok (fn20 m) (callOk_cons (pok23 h) (callOk_cons (pok48 m) (callOk_nil _ _))) (w20 hG)
/-! ### the laws -/
def ChgsOk (l : List Chg) : Prop := ∀ c ∈ l, ChgOk c
theorem M21 {sz : Nat} {l : List Chg} (h : ChgsOk l) : ∃ msz ml mr, RowsOk mr ∧ T21 [.c (.list sz (l.map chgD))] = some (.agg (envD msz ml (liftF mr))) :=
  ⟨_, _, _, (makeF_ok (l.take 40)).2, T21_eq h⟩
noncomputable def T4 : List DV → Option DV := fam (fun x : (Nat × List Chg) × Op3 × Op3 => [.c (.list x.1.1 (x.1.2.map chgD)), .agg (opD x.2.1), .agg (opD x.2.2)]) (fun x => ChgsOk x.1.2 ∧ x.2.1.pat.length ≤ big ∧ x.2.2.pat.length ≤ big) (fun _ => .c (.bool true))
theorem T4_eq {sz : Nat} {l : List Chg} {a b : Op3} (h : ChgsOk l) (ha : a.pat.length ≤ big) (hb : b.pat.length ≤ big) : T4 [.c (.list sz (l.map chgD)), .agg (opD a), .agg (opD b)] = some (.c (.bool true)) :=
  fam_eq (ι := (Nat × List Chg) × Op3 × Op3) ((sz, l), a, b) ⟨h, ha, hb⟩ (fun _ _ _ => rfl)
set_option maxRecDepth 8000 in
set_option maxHeartbeats 4000000 in
theorem w4 {G : List DV → Option DV} (x : (Nat × List Chg) × Op3 × Op3) (hx : ChgsOk x.1.2 ∧ x.2.1.pat.length ≤ big ∧ x.2.2.pat.length ≤ big) : awp (tbl [(20, G20), (21, T21), (22, G22), (23, T23 (partV G))]) c4 (PureQ [.t 6] (.c (.bool true))) ⟨argE 0 (dvArgs [.c (.list x.1.1 (x.1.2.map chgD)), .agg (opD x.2.1), .agg (opD x.2.2)]), ⟨0, []⟩⟩ := by
  obtain ⟨⟨sz, l⟩, a, b⟩ := x
  obtain ⟨hl, ha, hb⟩ := hx
  simp only at hl ha hb ⊢
  obtain ⟨msz, ml, mr, hR, h21⟩ := M21 (sz := sz) hl
  have h20 : G20 [] = some (.c (.bool true)) := rfl
  have h22a := G22_eq ha
  have h22b := G22_eq hb
  obtain ⟨ap, ag, aa⟩ := a
  obtain ⟨bp, bg, ba⟩ := b
  generalize fitOf ⟨ap, ag, aa⟩ = o at h22a
  generalize fitOf ⟨bp, bg, ba⟩ = k at h22b
  have h1 := T23_eq (partV G) (liftF mr) o k true
  have h2 := T23_eq (partV G) (liftF mr) k o false
  have hno := fits_once (part := partV G) hR o k
  obtain ⟨op, og, oa⟩ := o
  obtain ⟨kp, kg, ka⟩ := k
  generalize fitsOf (partV G) (liftF mr) ⟨op, og, oa⟩ ⟨kp, kg, ka⟩ true = v1 at h1 hno
  generalize fitsOf (partV G) (liftF mr) ⟨kp, kg, ka⟩ ⟨op, og, oa⟩ false = v2 at h2 hno
  unfold c4
  cases v1 <;> cases v2 <;> first | (exfalso; revert hno; decide) | skip
  all_goals
    repeat' first
      | (with_reducible first|refine Za ?_|refine Zb ?_|refine Zc ?_|refine Zd ?_|refine Ze ?_|refine Zf ?_|refine Zg ?_|refine Zh ?_|refine Zi ?_|refine Zj ?_|refine Zk ?_|refine Zl ?_|refine Zm ?_|refine Zn ?_|refine Zo ?_|refine Zp ?_|refine Zq ?_|refine Zr ?_|refine Zs ?_|refine Zt ?_|refine Zu ?_)|(with_reducible refine Zv (by decide) ?_)|((with_reducible apply Zw);rfl)|((with_reducible apply Zx);rfl;decide)|((with_reducible apply Zy);rfl)|((with_reducible apply Zz);rfl)|((with_reducible apply ZA);rfl)
      | ((with_reducible apply Z1 (f := 20));rfl;rfl;rfl;exact h20;rfl)
      | ((with_reducible apply Z1 (f := 21));rfl;rfl;rfl;exact h21;rfl)
      | ((with_reducible apply Z1 (f := 22));rfl;rfl;rfl;exact h22a;rfl)
      | ((with_reducible apply Z1 (f := 22));rfl;rfl;rfl;exact h22b;rfl)
      | ((with_reducible apply Z1 (f := 23));rfl;rfl;rfl;exact h1;rfl)
      | ((with_reducible apply Z1 (f := 23));rfl;rfl;rfl;exact h2;rfl)
      | (with_reducible first|refine Za ?_|refine Zb ?_|refine Zc ?_|refine Zd ?_|refine Ze ?_|refine Zf ?_|refine Zg ?_|refine Zh ?_|refine Zi ?_|refine Zj ?_|refine Zk ?_|refine Zl ?_|refine Zm ?_|refine Zn ?_|refine Zo ?_|refine Zp ?_|refine Zq ?_|refine Zr ?_|refine Zs ?_|refine Zt ?_|refine Zu ?_)|(with_reducible refine Zv (by decide) ?_)|((with_reducible apply Zw);rfl)|((with_reducible apply Zx);rfl;decide)|((with_reducible apply Zy);rfl)|((with_reducible apply Zz);rfl)|((with_reducible apply ZA);rfl)|refine ZB rfl ?_|refine ZC rfl ?_
    exact ⟨_, rfl, rfl⟩
/-- THE LAW's FUNCTION: true, of any changes and any two operators. -/
theorem fitsOnce_ok (m : Int) : PureFn Go.Proofs.Tryd.prog (glb m) 4 T4 := by
  obtain ⟨G, p37, hG⟩ := lexAll m
  have p19 := pok19 (pok47 (pok63 (pok45 (pok46 (.inl p37) hG))))
  exact fam_ok (fn4 m) (callOk_cons (pok20 hG p19) (callOk_cons (pok21 m) (callOk_cons (pok22 m) (callOk_cons (pok23 p19) (callOk_nil _ _))))) (w4 (G := G))
noncomputable def T5 : List DV → Option DV := fam (fun x : (Nat × List Chg) × (Op3 × Op3 × Op3) × Bool => [.c (.list x.1.1 (x.1.2.map chgD)), .agg (opD x.2.1.1 ++ opD x.2.1.2.1 ++ opD x.2.1.2.2), .c (.bool x.2.2)]) (fun x => ChgsOk x.1.2 ∧ x.2.1.1.pat.length ≤ big ∧ x.2.1.2.1.pat.length ≤ big ∧ x.2.1.2.2.pat.length ≤ big) (fun _ => .c (.bool true))
theorem T5_eq {sz : Nat} {l : List Chg} {a b c : Op3} {right : Bool} (h : ChgsOk l) (ha : a.pat.length ≤ big) (hb : b.pat.length ≤ big) (hc : c.pat.length ≤ big) : T5 [.c (.list sz (l.map chgD)), .agg (opD a ++ opD b ++ opD c), .c (.bool right)] = some (.c (.bool true)) :=
  fam_eq (ι := (Nat × List Chg) × (Op3 × Op3 × Op3) × Bool) ((sz, l), (a, b, c), right) ⟨h, ha, hb, hc⟩ (fun _ _ _ => rfl)
set_option maxRecDepth 8000 in
set_option maxHeartbeats 8000000 in
theorem w5 {G : List DV → Option DV} (x : (Nat × List Chg) × (Op3 × Op3 × Op3) × Bool) (hx : ChgsOk x.1.2 ∧ x.2.1.1.pat.length ≤ big ∧ x.2.1.2.1.pat.length ≤ big ∧ x.2.1.2.2.pat.length ≤ big) : awp (tbl [(20, G20), (21, T21), (22, G22), (23, T23 (partV G))]) c5 (PureQ [.t 6] (.c (.bool true))) ⟨argE 0 (dvArgs [.c (.list x.1.1 (x.1.2.map chgD)), .agg (opD x.2.1.1 ++ opD x.2.1.2.1 ++ opD x.2.1.2.2), .c (.bool x.2.2)]), ⟨0, []⟩⟩ := by
  obtain ⟨⟨sz, l⟩, ⟨a, b, c⟩, right⟩ := x
  obtain ⟨hl, ha, hb, hc⟩ := hx
  simp only at hl ha hb hc ⊢
  obtain ⟨msz, ml, mr, hR, h21⟩ := M21 (sz := sz) hl
  have h20 : G20 [] = some (.c (.bool true)) := rfl
  have h22a := G22_eq ha
  have h22b := G22_eq hb
  have h22c := G22_eq hc
  obtain ⟨ap, ag, aa⟩ := a
  obtain ⟨bp, bg, ba⟩ := b
  obtain ⟨cp, cg, ca⟩ := c
  generalize fitOf ⟨ap, ag, aa⟩ = o at h22a
  generalize fitOf ⟨bp, bg, ba⟩ = k at h22b
  generalize fitOf ⟨cp, cg, ca⟩ = q at h22c
  have h1 := T23_eq (partV G) (liftF mr) o k right
  have h2 := T23_eq (partV G) (liftF mr) k q right
  have h3 := T23_eq (partV G) (liftF mr) o q right
  have hch := fits_chain (part := partV G) hR (a := o) (b := k) (c := q) (right := right) (q := right)
  obtain ⟨op, og, oa⟩ := o
  obtain ⟨kp, kg, ka⟩ := k
  obtain ⟨qp, qg, qa⟩ := q
  generalize fitsOf (partV G) (liftF mr) ⟨op, og, oa⟩ ⟨kp, kg, ka⟩ right = v1 at h1 hch
  generalize fitsOf (partV G) (liftF mr) ⟨kp, kg, ka⟩ ⟨qp, qg, qa⟩ right = v2 at h2 hch
  generalize fitsOf (partV G) (liftF mr) ⟨op, og, oa⟩ ⟨qp, qg, qa⟩ right = v3 at h3 hch
  unfold c5
  cases v1 <;> cases v2 <;> cases v3 <;> first | (exfalso; exact Bool.noConfusion (hch rfl rfl)) | skip
  all_goals
    repeat' first
      | (with_reducible first|refine Za ?_|refine Zb ?_|refine Zc ?_|refine Zd ?_|refine Ze ?_|refine Zf ?_|refine Zg ?_|refine Zh ?_|refine Zi ?_|refine Zj ?_|refine Zk ?_|refine Zl ?_|refine Zm ?_|refine Zn ?_|refine Zo ?_|refine Zp ?_|refine Zq ?_|refine Zr ?_|refine Zs ?_|refine Zt ?_|refine Zu ?_)|(with_reducible refine Zv (by decide) ?_)|((with_reducible apply Zw);rfl)|((with_reducible apply Zx);rfl;decide)|((with_reducible apply Zy);rfl)|((with_reducible apply Zz);rfl)|((with_reducible apply ZA);rfl)
      | ((with_reducible apply Z1 (f := 20));rfl;rfl;rfl;exact h20;rfl)
      | ((with_reducible apply Z1 (f := 21));rfl;rfl;rfl;exact h21;rfl)
      | ((with_reducible apply Z1 (f := 22));rfl;rfl;rfl;exact h22a;rfl)
      | ((with_reducible apply Z1 (f := 22));rfl;rfl;rfl;exact h22b;rfl)
      | ((with_reducible apply Z1 (f := 22));rfl;rfl;rfl;exact h22c;rfl)
      | ((with_reducible apply Z1 (f := 23));rfl;rfl;rfl;exact h1;rfl)
      | ((with_reducible apply Z1 (f := 23));rfl;rfl;rfl;exact h2;rfl)
      | ((with_reducible apply Z1 (f := 23));rfl;rfl;rfl;exact h3;rfl)
      | (with_reducible first|refine Za ?_|refine Zb ?_|refine Zc ?_|refine Zd ?_|refine Ze ?_|refine Zf ?_|refine Zg ?_|refine Zh ?_|refine Zi ?_|refine Zj ?_|refine Zk ?_|refine Zl ?_|refine Zm ?_|refine Zn ?_|refine Zo ?_|refine Zp ?_|refine Zq ?_|refine Zr ?_|refine Zs ?_|refine Zt ?_|refine Zu ?_)|(with_reducible refine Zv (by decide) ?_)|((with_reducible apply Zw);rfl)|((with_reducible apply Zx);rfl;decide)|((with_reducible apply Zy);rfl)|((with_reducible apply Zz);rfl)|((with_reducible apply ZA);rfl)|refine ZB rfl ?_|refine ZC rfl ?_
    exact ⟨_, rfl, rfl⟩
/-- THE LAW's FUNCTION: true, of any changes, three operators, an end. -/
theorem fitsThrough_ok (m : Int) : PureFn Go.Proofs.Tryd.prog (glb m) 5 T5 := by
  obtain ⟨G, p37, hG⟩ := lexAll m
  have p19 := pok19 (pok47 (pok63 (pok45 (pok46 (.inl p37) hG))))
  exact fam_ok (fn5 m) (callOk_cons (pok20 hG p19) (callOk_cons (pok21 m) (callOk_cons (pok22 m) (callOk_cons (pok23 p19) (callOk_nil _ _))))) (w5 (G := G))
set_option maxRecDepth 8000 in
set_option maxHeartbeats 8000000 in
theorem w6 {G : List DV → Option DV} (x : (Nat × List Chg) × (Op3 × Op3 × Op3) × Bool) (hx : ChgsOk x.1.2 ∧ x.2.1.1.pat.length ≤ big ∧ x.2.1.2.1.pat.length ≤ big ∧ x.2.1.2.2.pat.length ≤ big) : awp (tbl [(20, G20), (21, T21), (22, G22), (23, T23 (partV G))]) c6 (PureQ [.t 6] (.c (.bool true))) ⟨argE 0 (dvArgs [.c (.list x.1.1 (x.1.2.map chgD)), .agg (opD x.2.1.1 ++ opD x.2.1.2.1 ++ opD x.2.1.2.2), .c (.bool x.2.2)]), ⟨0, []⟩⟩ := by
  obtain ⟨⟨sz, l⟩, ⟨a, b, c⟩, right⟩ := x
  obtain ⟨hl, ha, hb, hc⟩ := hx
  simp only at hl ha hb hc ⊢
  obtain ⟨msz, ml, mr, hR, h21⟩ := M21 (sz := sz) hl
  have h20 : G20 [] = some (.c (.bool true)) := rfl
  have h22a := G22_eq ha
  have h22b := G22_eq hb
  have h22c := G22_eq hc
  obtain ⟨ap, ag, aa⟩ := a
  obtain ⟨bp, bg, ba⟩ := b
  obtain ⟨cp, cg, ca⟩ := c
  generalize fitOf ⟨ap, ag, aa⟩ = o at h22a
  generalize fitOf ⟨bp, bg, ba⟩ = k at h22b
  generalize fitOf ⟨cp, cg, ca⟩ = q at h22c
  have h1 := T23_eq (partV G) (liftF mr) o k right
  have h2 := T23_eq (partV G) (liftF mr) k q (!right)
  have h3 := T23_eq (partV G) (liftF mr) o q right
  have hch := fits_chain (part := partV G) hR (a := o) (b := k) (c := q) (right := right) (q := !right)
  obtain ⟨op, og, oa⟩ := o
  obtain ⟨kp, kg, ka⟩ := k
  obtain ⟨qp, qg, qa⟩ := q
  generalize fitsOf (partV G) (liftF mr) ⟨op, og, oa⟩ ⟨kp, kg, ka⟩ right = v1 at h1 hch
  generalize fitsOf (partV G) (liftF mr) ⟨kp, kg, ka⟩ ⟨qp, qg, qa⟩ (!right) = v2 at h2 hch
  generalize fitsOf (partV G) (liftF mr) ⟨op, og, oa⟩ ⟨qp, qg, qa⟩ right = v3 at h3 hch
  unfold c6
  cases v1 <;> cases v2 <;> cases v3 <;> first | (exfalso; exact Bool.noConfusion (hch rfl rfl)) | skip
  all_goals
    repeat' first
      | (with_reducible first|refine Za ?_|refine Zb ?_|refine Zc ?_|refine Zd ?_|refine Ze ?_|refine Zf ?_|refine Zg ?_|refine Zh ?_|refine Zi ?_|refine Zj ?_|refine Zk ?_|refine Zl ?_|refine Zm ?_|refine Zn ?_|refine Zo ?_|refine Zp ?_|refine Zq ?_|refine Zr ?_|refine Zs ?_|refine Zt ?_|refine Zu ?_)|(with_reducible refine Zv (by decide) ?_)|((with_reducible apply Zw);rfl)|((with_reducible apply Zx);rfl;decide)|((with_reducible apply Zy);rfl)|((with_reducible apply Zz);rfl)|((with_reducible apply ZA);rfl)
      | ((with_reducible apply Z1 (f := 20));rfl;rfl;rfl;exact h20;rfl)
      | ((with_reducible apply Z1 (f := 21));rfl;rfl;rfl;exact h21;rfl)
      | ((with_reducible apply Z1 (f := 22));rfl;rfl;rfl;exact h22a;rfl)
      | ((with_reducible apply Z1 (f := 22));rfl;rfl;rfl;exact h22b;rfl)
      | ((with_reducible apply Z1 (f := 22));rfl;rfl;rfl;exact h22c;rfl)
      | ((with_reducible apply Z1 (f := 23));rfl;rfl;rfl;exact h1;rfl)
      | ((with_reducible apply Z1 (f := 23));rfl;rfl;rfl;exact h2;rfl)
      | ((with_reducible apply Z1 (f := 23));rfl;rfl;rfl;exact h3;rfl)
      | (with_reducible first|refine Za ?_|refine Zb ?_|refine Zc ?_|refine Zd ?_|refine Ze ?_|refine Zf ?_|refine Zg ?_|refine Zh ?_|refine Zi ?_|refine Zj ?_|refine Zk ?_|refine Zl ?_|refine Zm ?_|refine Zn ?_|refine Zo ?_|refine Zp ?_|refine Zq ?_|refine Zr ?_|refine Zs ?_|refine Zt ?_|refine Zu ?_)|(with_reducible refine Zv (by decide) ?_)|((with_reducible apply Zw);rfl)|((with_reducible apply Zx);rfl;decide)|((with_reducible apply Zy);rfl)|((with_reducible apply Zz);rfl)|((with_reducible apply ZA);rfl)|refine ZB rfl ?_|refine ZC rfl ?_
    exact ⟨_, rfl, rfl⟩
/-- THE LAW's FUNCTION: true, of any changes, three operators, an end. -/
theorem fitsCross_ok (m : Int) : PureFn Go.Proofs.Tryd.prog (glb m) 6 T5 := by
  obtain ⟨G, p37, hG⟩ := lexAll m
  have p19 := pok19 (pok47 (pok63 (pok45 (pok46 (.inl p37) hG))))
  exact fam_ok (fn6 m) (callOk_cons (pok20 hG p19) (callOk_cons (pok21 m) (callOk_cons (pok22 m) (callOk_cons (pok23 p19) (callOk_nil _ _))))) (w6 (G := G))
noncomputable def T7 : List DV → Option DV := fam (fun x : (Nat × List Chg) × Op3 × Nat => [.c (.list x.1.1 (x.1.2.map chgD)), .agg (opD x.2.1), .c (.int .u8 (x.2.2 : Nat))]) (fun x => ChgsOk x.1.2 ∧ x.2.1.pat.length ≤ big ∧ x.2.2 < 256) (fun _ => .c (.bool true))
theorem T7_eq {sz : Nat} {l : List Chg} {a : Op3} {g : Nat} (h : ChgsOk l) (ha : a.pat.length ≤ big) (hg : g < 256) : T7 [.c (.list sz (l.map chgD)), .agg (opD a), .c (.int .u8 (g : Nat))] = some (.c (.bool true)) :=
  fam_eq (ι := (Nat × List Chg) × Op3 × Nat) ((sz, l), a, g) ⟨h, ha, hg⟩ (fun _ _ _ => rfl)
set_option maxRecDepth 8000 in
set_option maxHeartbeats 8000000 in
theorem w7 {G : List DV → Option DV} (hG : KB R37 G) (x : (Nat × List Chg) × Op3 × Nat) (hx : ChgsOk x.1.2 ∧ x.2.1.pat.length ≤ big ∧ x.2.2 < 256) : awp (tbl [(20, G20), (21, T21), (22, G22), (23, T23 (partV G))]) c7 (PureQ [.t 6] (.c (.bool true))) ⟨argE 0 (dvArgs [.c (.list x.1.1 (x.1.2.map chgD)), .agg (opD x.2.1), .c (.int .u8 (x.2.2 : Nat))]), ⟨0, []⟩⟩ := by
  obtain ⟨⟨sz, l⟩, a, g⟩ := x
  obtain ⟨hl, ha, hg⟩ := hx
  simp only at hl ha hg ⊢
  obtain ⟨msz, ml, mr, hR, h21⟩ := M21 (sz := sz) hl
  have h20 : G20 [] = some (.c (.bool true)) := rfl
  have h22a := G22_eq ha
  obtain ⟨ap, ag, aa⟩ := a
  generalize fitOf ⟨ap, ag, aa⟩ = o at h22a
  obtain ⟨op, og, oa⟩ := o
  have h1 := T23_eq (partV G) (liftF mr) ⟨[95, 43, 95], og, 0⟩ ⟨[91, 95, 93], 1 + (g : Int) % 9, 0⟩ true
  have h2 := T23_eq (partV G) (liftF mr) ⟨[95, 43, 95], og, 0⟩ ⟨[91, 95, 93], 1 + (g : Int) % 9, 0⟩ false
  have h3 := T23_eq (partV G) (liftF mr) ⟨[91, 95, 93], 1 + (g : Int) % 9, 0⟩ ⟨op, og, oa⟩ true
  have h4 := T23_eq (partV G) (liftF mr) ⟨[91, 95, 93], 1 + (g : Int) % 9, 0⟩ ⟨op, og, oa⟩ false
  have h5 := T23_eq (partV G) (liftF mr) ⟨[45, 95], 9, 0⟩ ⟨op, og, oa⟩ false
  have h6 := T23_eq (partV G) (liftF mr) ⟨[95, 33], 9, 0⟩ ⟨op, og, oa⟩ true
  have e1 : fitsOf (partV G) (liftF mr) ⟨[95, 43, 95], og, 0⟩ ⟨[91, 95, 93], 1 + (g : Int) % 9, 0⟩ true = true := by simp only [fitsOf, sh_plus hG, sh_box hG]; simp [fitsV]
  have e2 : fitsOf (partV G) (liftF mr) ⟨[95, 43, 95], og, 0⟩ ⟨[91, 95, 93], 1 + (g : Int) % 9, 0⟩ false = true := by simp only [fitsOf, sh_plus hG, sh_box hG]; simp [fitsV]
  have e3 : fitsOf (partV G) (liftF mr) ⟨[91, 95, 93], 1 + (g : Int) % 9, 0⟩ ⟨op, og, oa⟩ true = false := by simp only [fitsOf, sh_box hG]; cases shapeOf (partV G) op <;> simp [fitsV]
  have e4 : fitsOf (partV G) (liftF mr) ⟨[91, 95, 93], 1 + (g : Int) % 9, 0⟩ ⟨op, og, oa⟩ false = false := by simp only [fitsOf, sh_box hG]; cases shapeOf (partV G) op <;> simp [fitsV]
  have e5 : fitsOf (partV G) (liftF mr) ⟨[45, 95], 9, 0⟩ ⟨op, og, oa⟩ false = false := by simp only [fitsOf, sh_minus hG]; cases shapeOf (partV G) op <;> simp [fitsV]
  have e6 : fitsOf (partV G) (liftF mr) ⟨[95, 33], 9, 0⟩ ⟨op, og, oa⟩ true = false := by simp only [fitsOf, sh_bang hG]; cases shapeOf (partV G) op <;> simp [fitsV]
  rw [e1] at h1
  rw [e2] at h2
  rw [e3] at h3
  rw [e4] at h4
  rw [e5] at h5
  rw [e6] at h6
  unfold c7
  repeat' first
    | (with_reducible first|refine Za ?_|refine Zb ?_|refine Zc ?_|refine Zd ?_|refine Ze ?_|refine Zf ?_|refine Zg ?_|refine Zh ?_|refine Zi ?_|refine Zj ?_|refine Zk ?_|refine Zl ?_|refine Zm ?_|refine Zn ?_|refine Zo ?_|refine Zp ?_|refine Zq ?_|refine Zr ?_|refine Zs ?_|refine Zt ?_|refine Zu ?_)|(with_reducible refine Zv (by decide) ?_)|((with_reducible apply Zw);rfl)|((with_reducible apply Zx);rfl;decide)|((with_reducible apply Zy);rfl)|((with_reducible apply Zz);rfl)|((with_reducible apply ZA);rfl)
    | ((with_reducible apply step_toI); rfl; omega; omega)
    | refine ZB (ev_remN rfl rfl (by omega) (by decide)) ?_
    | ((with_reducible apply ZL); rfl; rfl; omega; omega)
    | ((with_reducible apply Z1 (f := 20));rfl;rfl;rfl;exact h20;rfl)
    | ((with_reducible apply Z1 (f := 21));rfl;rfl;rfl;exact h21;rfl)
    | ((with_reducible apply Z1 (f := 22));rfl;rfl;rfl;exact h22a;rfl)
    | ((with_reducible apply Z1 (f := 23));rfl;rfl;rfl;exact h1;rfl)
    | ((with_reducible apply Z1 (f := 23));rfl;rfl;rfl;exact h2;rfl)
    | ((with_reducible apply Z1 (f := 23));rfl;rfl;rfl;exact h3;rfl)
    | ((with_reducible apply Z1 (f := 23));rfl;rfl;rfl;exact h4;rfl)
    | ((with_reducible apply Z1 (f := 23));rfl;rfl;rfl;exact h5;rfl)
    | ((with_reducible apply Z1 (f := 23));rfl;rfl;rfl;exact h6;rfl)
    | (with_reducible first|refine Za ?_|refine Zb ?_|refine Zc ?_|refine Zd ?_|refine Ze ?_|refine Zf ?_|refine Zg ?_|refine Zh ?_|refine Zi ?_|refine Zj ?_|refine Zk ?_|refine Zl ?_|refine Zm ?_|refine Zn ?_|refine Zo ?_|refine Zp ?_|refine Zq ?_|refine Zr ?_|refine Zs ?_|refine Zt ?_|refine Zu ?_)|(with_reducible refine Zv (by decide) ?_)|((with_reducible apply Zw);rfl)|((with_reducible apply Zx);rfl;decide)|((with_reducible apply Zy);rfl)|((with_reducible apply Zz);rfl)|((with_reducible apply ZA);rfl)|refine ZB rfl ?_|refine ZC rfl ?_
  exact ⟨_, rfl, rfl⟩
/-- THE LAW's FUNCTION: true, of any changes, an operator, a group. -/
theorem fitsClosed_ok (m : Int) : PureFn Go.Proofs.Tryd.prog (glb m) 7 T7 := by
  obtain ⟨G, p37, hG⟩ := lexAll m
  have p19 := pok19 (pok47 (pok63 (pok45 (pok46 (.inl p37) hG))))
  exact fam_ok (fn7 m) (callOk_cons (pok20 hG p19) (callOk_cons (pok21 m) (callOk_cons (pok22 m) (callOk_cons (pok23 p19) (callOk_nil _ _))))) (w7 hG)
end Go.Am
