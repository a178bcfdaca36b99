/-
  OperFirst: the law's function comes to true, whatever it is given.
-/
import Derived.Test.YtgbefhljbdjncaaDoorMR
import Derived.Test.YtgbefhljbdjncaaDoorMT
import Derived.Test.YtgbefhljbdjncaaDoorNI
import Derived.Test.YtgbefhljbdjncaaDoorNC
namespace Go.Am
open Go
/-! ### the sixteen patterns may be -/
def oneB (s : List UInt8) : Bool := match s with
  | [] => false
  | c :: r => (classOf c == 2 && (c :: r).all nameC) || (classOf c == 5 && (c :: r) != [46] && !hasPre (c :: r) [47, 42] && (c :: r).all fun b => (classOf b : Int) == 5) || (classOf c == 6 && (c :: r).length == 1)
theorem oneB_single {s : List UInt8} (h : oneB s = true) : ∃ k, single s k ∧ (k == 1 || k == 2 || k == 6) = true := by
  match s, h with
  | c :: r, h =>
    simp only [oneB, Bool.or_eq_true, Bool.and_eq_true, beq_iff_eq, List.all_eq_true, bne_iff_ne, Bool.not_eq_true'] at h
    rcases h with (⟨h1, h2⟩ | ⟨⟨⟨h1, h2⟩, h3⟩, h4⟩) | ⟨h1, h2⟩
    · exact ⟨1, ⟨c, rfl, .inl ⟨h1, rfl, h2⟩⟩, rfl⟩
    · exact ⟨2, ⟨c, rfl, .inr (.inl ⟨h1, rfl, h2, h3, h4⟩)⟩, rfl⟩
    · exact ⟨6, ⟨c, rfl, .inr (.inr ⟨h1, rfl, h2⟩)⟩, rfl⟩
def oneP (s : List UInt8) : Bool := oneB s && decide (s.length ≤ 40) && !decide (0 ≤ Lib.indexByte s 95) && !hasS bads s
theorem oneP_part {G : List DV → Option DV} (hG : KB R37 G) {s : List UInt8} (h : oneP s = true) : partV G s = true := by
  simp only [oneP, Bool.and_eq_true, decide_eq_true_eq] at h
  obtain ⟨⟨⟨h1, h2⟩, h3⟩, h4⟩ := h
  obtain ⟨k, hk, hk2⟩ := oneB_single h1
  rw [partV_single hG (by unfold room; omega) hk hk2, h3, h4]
  rfl
def fitB (p : List UInt8) : Bool := decide (p.length ≤ 40) && decide (1 ≤ (trim (cutU 95 p)).parts.length) && decide ((trim (cutU 95 p)).parts.length ≤ 4) && (decide ((trim (cutU 95 p)).parts.length ≠ 1) || (trim (cutU 95 p)).left || (trim (cutU 95 p)).right) && (trim (cutU 95 p)).parts.all oneP && (trim (cutU 95 (p ++ [95, 95]))).parts.contains []
theorem fit_all : ∀ i < 16, fitB (fitPats.getD i []) = true := by decide +kernel
theorem fitB_shape {G : List DV → Option DV} (hG : KB R37 G) {p : List UInt8} (h : fitB p = true) : shapeOf (partV G) p = some (trim (cutU 95 p)) ∧ shapeOf (partV G) (p ++ [95, 95]) = none := by
  simp only [fitB, Bool.and_eq_true, decide_eq_true_eq, Bool.or_eq_true, List.all_eq_true] at h
  obtain ⟨⟨⟨⟨⟨h1, h2⟩, h3⟩, h4⟩, h5⟩, h6⟩ := h
  refine ⟨shapeOf_of h1 ?_, shapeOf_no ?_⟩
  · refine mayS_t h2 h3 (fun e => ?_) ?_
    · rcases h4 with (h4 | h4) | h4
      · exact absurd e h4
      · exact .inl h4
      · exact .inr h4
    · unfold badS
      rw [List.any_eq_false]
      intro s hs
      rw [oneP_part hG (h5 s hs)]
      decide
  · have h7 : [] ∈ (trim (cutU 95 (p ++ [95, 95]))).parts := by simpa using h6
    exact mayS_f (.inr (.inr (.inr (badS_nil (partV_nil hG) h7))))
/-- What Fit makes: one that may be. -/
theorem fitOf_may {G : List DV → Option DV} (hG : KB R37 G) (o : Op3) : ∃ (p : List UInt8) (g a : Int) (v : SV), fitOf o = ⟨p, g, a⟩ ∧ p.length ≤ 20 ∧ 1 ≤ g ∧ g ≤ 9 ∧ shapeOf (partV G) p = some v ∧ shapeOf (partV G) (p ++ [95, 95]) = none ∧ (a = 0 ∨ a = 1 ∧ v.left = true ∨ a = 2 ∧ v.right = true) := by
  have hE := fitB_shape kbE (fit_all (sumB o.pat % 16) (by omega))
  have hP := fitB_shape hG (fit_all (sumB o.pat % 16) (by omega))
  have hl := fitPats_len (sumB o.pat % 16) (by omega)
  have hg : ¬ (1 + o.g % 9 < 1 ∨ 10 ≤ 1 + o.g % 9) := by omega
  unfold fitOf
  by_cases hm : mayOf partE (fitPat o.pat) (1 + o.g % 9) (o.a % 3) = 0
  · rw [if_pos hm]
    refine ⟨_, _, _, _, rfl, hl, by omega, by omega, hP.1, hP.2, ?_⟩
    unfold mayOf at hm
    rw [show shapeOf partE (fitPat o.pat) = _ from hE.1] at hm
    simp only [if_neg hg] at hm
    split at hm
    · assumption
    · cases hm
  · rw [if_neg hm]
    exact ⟨_, _, _, _, rfl, hl, by omega, by omega, hP.1, hP.2, .inl rfl⟩
/-! ### bits -/
theorem ev_u8 {op : BinOp} {cl : Call} {e : Env} {h : Hp} {x y : Opd} {a b v : Int} (hx : ev e x = .c (.d (.int .u8 a))) (hy : ev e y = .c (.d (.int .u8 b))) (hs : isShift op = false) (hv : binInt op .u8 a b = some (.int .u8 v)) : eval cl e h (.bin op x y) = some (.c (.d (.int .u8 v)), h) := by
  simp only [eval, hx, hy, binV, binD, hs, Bool.false_eq_true, if_false, if_true, hv]
theorem ev_u8shr {cl : Call} {e : Env} {h : Hp} {x y : Opd} {k : IntKind} {a b v : Int} (hx : ev e x = .c (.d (.int .u8 a))) (hy : ev e y = .c (.d (.int k b))) (hv : shiftInt .shr .u8 a b = some (.int .u8 v)) : eval cl e h (.bin .shr x y) = some (.c (.d (.int .u8 v)), h) := by
  simp only [eval, hx, hy, binV, binD, isShift, if_true, hv]
def andI (a c : Nat) : Int := IntKind.wrap .u8 (BitVec.ofInt 8 (a : Int) &&& BitVec.ofInt 8 (c : Int)).toNat
theorem and_u8 (a c : Nat) : binInt .and .u8 (a : Int) (c : Int) = some (.int .u8 (andI a c)) := rfl
theorem and_bit : ∀ a < 256, (andI a 4 = 0 ∨ andI a 4 = 4) ∧ (andI a 2 = 0 ∨ andI a 2 = 2) ∧ (andI a 1 = 0 ∨ andI a 1 = 1) := by decide +kernel
theorem shr_u8 (a : Nat) : shiftInt .shr .u8 (a : Int) 3 = some (.int .u8 ((a / 8 : Nat) : Int)) := by
  have : ((a : Int).fdiv (2 ^ (Nat.min (Int.toNat 3) (IntKind.bits .u8)))) = ((a / 8 : Nat) : Int) := by
    show (a : Int).fdiv 8 = _
    rw [Int.fdiv_eq_ediv_of_nonneg _ (by decide)]
    rfl
  show some (D.int .u8 ((a : Int).fdiv (2 ^ (Nat.min (Int.toNat 3) (IntKind.bits .u8))))) = _
  rw [this]
noncomputable def T15 : List DV → Option DV := fam (fun x : Op3 × Nat => [.agg (opD x.1), .c (.int .u8 (x.2 : Int))]) (fun x => x.1.pat.length ≤ big ∧ x.2 < 256) (fun _ => .c (.bool true))
theorem T15_eq {o : Op3} {b : Nat} (ho : o.pat.length ≤ big) (hb : b < 256) : T15 [.agg (opD o), .c (.int .u8 (b : Int))] = some (.c (.bool true)) :=
  fam_eq (ι := Op3 × Nat) (o, b) ⟨ho, hb⟩ (fun _ _ _ => rfl)
theorem fn15s (m : Int) : FnOk Go.Proofs.Tryd.prog ⟨[], [], [79, 94, 109], glbS m⟩ 15 38 c15 [.t 4] :=
  ⟨mixedR, Go.Proofs.Tryd.f15, (Go.Proofs.Tryd.f15.body).getD .skip, by kernel_rfl, by kernel_rfl, by kernel_rfl, by kernel_rfl, by kernel_rfl, by kernel_rfl⟩
set_option maxRecDepth 8000 in
set_option maxHeartbeats 8000000 in
theorem w15 {G : List DV → Option DV} (hG : KB R37 G) (x : Op3 × Nat) (hx : x.1.pat.length ≤ big ∧ x.2 < 256) : awp (tbl [(22, G22), (38, G17), (42, G42 (partV G))]) c15 (PureQ [.t 4] (.c (.bool true))) ⟨argE 0 (dvArgs [.agg (opD x.1), .c (.int .u8 (x.2 : Int))]), ⟨0, []⟩⟩ := by
  obtain ⟨o, n⟩ := x
  obtain ⟨ho, hn⟩ := hx
  simp only at ho hn ⊢
  have h38 : G17 [] = some (.c (.bool true)) := rfl
  have h22 := G22_eq ho
  obtain ⟨p, g, a, v, e1, hp, hg1, hg9, hv, hb, ha⟩ := fitOf_may hG o
  rw [e1] at h22
  obtain ⟨op, og, oa⟩ := o
  have hbad : ∀ g a, G42 (partV G) [.agg [.str (p ++ [95, 95]), .int .i64 g, .int .i64 a]] = some (.c (.int .i64 23)) := fun g a => by simp only [G42, mayOf, hb]
  have hg0 : ∀ a, G42 (partV G) [.agg [.str p, .int .i64 0, .int .i64 a]] = some (.c (.int .i64 21)) := fun a => by simp only [G42, mayOf, hv]; rfl
  have hg10 : ∀ a, G42 (partV G) [.agg [.str p, .int .i64 10, .int .i64 a]] = some (.c (.int .i64 21)) := fun a => by simp only [G42, mayOf, hv]; rfl
  have hng : ¬ (g < 1 ∨ 10 ≤ g) := by omega
  have hass : G42 (partV G) [.agg [.str p, .int .i64 g, .int .i64 3]] = some (.c (.int .i64 24)) := by simp only [G42, mayOf, hv, if_neg hng]; simp
  have hok : G42 (partV G) [.agg [.str p, .int .i64 g, .int .i64 a]] = some (.c (.int .i64 0)) := by simp only [G42, mayOf, hv, if_neg hng, if_pos ha]
  obtain ⟨c4, c2, c1⟩ := and_bit n hn
  obtain ⟨-, -, c8⟩ := and_bit (n / 8) (by omega)
  have a4 : binInt .and .u8 (n : Int) 4 = some (.int .u8 (andI n 4)) := and_u8 n 4
  have a2 : binInt .and .u8 (n : Int) 2 = some (.int .u8 (andI n 2)) := and_u8 n 2
  have a1 : binInt .and .u8 (n : Int) 1 = some (.int .u8 (andI n 1)) := and_u8 n 1
  have a8 : binInt .and .u8 ((n / 8 : Nat) : Int) 1 = some (.int .u8 (andI (n / 8) 1)) := and_u8 (n / 8) 1
  have s3 := shr_u8 n
  clear hG hv hb ha e1
  unfold c15
  rcases c4 with e4 | e4 <;> rw [e4] at a4 <;> rcases c2 with e2 | e2 <;> rw [e2] at a2 <;> rcases c1 with e1 | e1 <;> rw [e1] at a1
  all_goals
    rcases c8 with e8 | e8 <;> rw [e8] at a8
  all_goals
         repeat' first
           | (with_reducible first|refine Za ?_|refine Zb ?_|refine Zc ?_|refine Zd ?_|refine Ze ?_|refine Zf ?_|refine Zg ?_|refine Zh ?_|refine Zi ?_|refine Zj ?_|refine Zk ?_|refine Zl ?_|refine Zm ?_|refine Zn ?_|refine Zo ?_|refine Zp ?_|refine Zq ?_|refine Zr ?_|refine Zs ?_|refine Zt ?_|refine Zu ?_)|(with_reducible refine Zv (by decide) ?_)|((with_reducible apply Zw);rfl)|((with_reducible apply Zx);rfl;decide)|((with_reducible apply Zy);rfl)|((with_reducible apply Zz);rfl)|((with_reducible apply ZA);rfl)
           | ((with_reducible apply Z1 (f := 38));rfl;rfl;rfl;exact h38;rfl)
           | ((with_reducible apply Z1 (f := 22));rfl;rfl;rfl;exact h22;rfl)
           | refine ZB (ev_u8 rfl rfl rfl a4) ?_
           | refine ZB (ev_u8 rfl rfl rfl a2) ?_
           | refine ZB (ev_u8 rfl rfl rfl a1) ?_
           | refine ZB (ev_u8 rfl rfl rfl a8) ?_
           | refine ZB (ev_u8shr rfl rfl s3) ?_
           | refine ZB (ev_adds rfl rfl (by simp only [List.length_cons, List.length_nil]; omega)) ?_
           | ((with_reducible apply Z1 (f := 42));rfl;rfl;rfl;exact hbad _ _;rfl)
           | ((with_reducible apply Z1 (f := 42));rfl;rfl;rfl;exact hg0 _;rfl)
           | ((with_reducible apply Z1 (f := 42));rfl;rfl;rfl;exact hg10 _;rfl)
           | ((with_reducible apply Z1 (f := 42));rfl;rfl;rfl;exact hass;rfl)
           | ((with_reducible apply Z1 (f := 42));rfl;rfl;rfl;exact hok;rfl)
           | (with_reducible first|refine Za ?_|refine Zb ?_|refine Zc ?_|refine Zd ?_|refine Ze ?_|refine Zf ?_|refine Zg ?_|refine Zh ?_|refine Zi ?_|refine Zj ?_|refine Zk ?_|refine Zl ?_|refine Zm ?_|refine Zn ?_|refine Zo ?_|refine Zp ?_|refine Zq ?_|refine Zr ?_|refine Zs ?_|refine Zt ?_|refine Zu ?_)|(with_reducible refine Zv (by decide) ?_)|((with_reducible apply Zw);rfl)|((with_reducible apply Zx);rfl;decide)|((with_reducible apply Zy);rfl)|((with_reducible apply Zz);rfl)|((with_reducible apply ZA);rfl)|refine ZB rfl ?_|refine ZC rfl ?_
         exact ⟨_, rfl, rfl⟩
/-- THE LAW's FUNCTION: true, of any operator and any byte. -/
theorem operFirst_ok (m : Int) : PureFn Go.Proofs.Tryd.prog (glbS m) 15 T15 := by
  obtain ⟨G, p37, hG⟩ := lexAll m
  have p46 := pok46 (.inl p37) hG
  have p19 := (pok19 (pok47 (pok63 (pok45 p46)))).s
  have p42 := pok42 p19
  have p38 : PureOk Go.Proofs.Tryd.prog (glbS m) 38 G17 := pure_ok (fn38 m) (callOk_cons (pok40 m) (callOk_cons p42 (callOk_nil _ _))) (w38 hG)
  exact fam_ok (fn15s m) (callOk_cons (pok22 m).s (callOk_cons p38 (callOk_cons p42 (callOk_nil _ _)))) (w15 (G := G) hG)
end Go.Am
