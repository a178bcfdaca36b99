/-
  DeclEdges: the law's function comes to true, whatever it is given.
-/
import Derived.Test.YtnhalnblbfgbkaaDoorADC
import Derived.Test.YtnhalnblbfgbkaaDoorADD
namespace Go.Am
open Go
theorem lk_num {d X : List UInt8} {v : Int} (hd : d ≠ []) (hc : ∀ b ∈ d, classOf b = 4) (hv : numF 0 d = some v) (hX : stopR 4 X = true) : lexK (d ++ X) = (4, d) :: lexK X := by
  cases d with
  | nil => exact absurd rfl hd
  | cons c w => exact lexK_num (hc c (by simp)) (fun b hb => hc b (by simp [hb])) hX hv
theorem lk_edge (X : List UInt8) : lexK (101 :: 100 :: 103 :: 101 :: 40 :: X) = (1, [101, 100, 103, 101]) :: (6, [40]) :: lexK X := by
  have h := lexK_name (c := 101) (w := [100, 103, 101]) (r := 40 :: X) (by decide) (by decide) rfl
  rw [lexK_solo (c := 40) (by decide)] at h
  exact h
def edgeS (n m : Nat) : List UInt8 := ((([58, 45, 32, 101, 100, 103, 101, 40] ++ digits n) ++ [44]) ++ digits m) ++ [41, 46]
theorem lk_edgeS {n m : Nat} (hn : n ≤ 2147483647) (hm : m ≤ 2147483647) : lexK (edgeS n m) = [(2, [58, 45]), (1, [101, 100, 103, 101]), (6, [40]), (4, digits n), (6, [44]), (4, digits m), (6, [41]), (7, [46])] := by
  have e : edgeS n m = 58 :: 45 :: 32 :: 101 :: 100 :: 103 :: 101 :: 40 :: (digits n ++ (44 :: (digits m ++ [41, 46]))) := by simp [edgeS]
  rw [e]
  exact tr1 (lk_dir _) (tr2 (lk_edge _) (tr1 (lk_num (digits_ne n) digits_class (digits_val hn) rfl) (tr1 (lexK_solo (by decide)) (tr1 (lk_num (digits_ne m) digits_class (digits_val hm) rfl) (show lexK [41, 46] = [(6, [41]), (7, [46])] by decide +kernel)))))
theorem numI_digits {n : Nat} (h : n ≤ 2147483647) : numI (digits n) = (n : Int) := by
  have hr : runOf 4 (digits n) = (digits n).length := by
    have := runOf_app (k := 4) (w := digits n) (r := []) (fun b hb => by rw [digits_class b hb]; rfl) rfl
    rwa [List.append_nil] at this
  have hl := List.length_pos_iff.2 (digits_ne n)
  unfold numI numOf
  rw [hr, if_neg (by omega), List.take_length, digits_val h]
def edgeD (n m : Nat) : List D := [.int .i64 3, .str [], .int .i64 0, .int .i64 0, .int .i64 (n : Nat), .int .i64 (m : Nat)]
theorem decl_edge {n m : Nat} (hn : n ≤ 2147483647) (hm : m ≤ 2147483647) : declOf (lexT (edgeS n m)) = (edgeD n m, 0) := by
  rw [declOf_lex (lk_edgeS hn hm)]
  have e : declOf (([(2, [58, 45]), (1, [101, 100, 103, 101]), (6, [40]), (4, digits n), (6, [44]), (4, digits m), (6, [41]), (7, [46])] : List (Int × List UInt8)).map toK) = ([.int .i64 3, .str [], .int .i64 0, .int .i64 0, .int .i64 (numI (digits n)), .int .i64 (numI (digits m))], 0) := by
    unfold declOf
    rw [if_neg (by rintro h; have := rowB_len h; simp at this), if_pos (by rfl)]
    rfl
  rw [e, numI_digits hn, numI_digits hm]
  rfl
theorem edgeS_len (n m : Nat) : (edgeS n m).length ≤ 40 := by
  have := digits_len n
  have := digits_len m
  simp only [edgeS, List.length_append, List.length_cons, List.length_nil]
  omega
theorem lexT_len {n m : Nat} (hn : n ≤ 2147483647) (hm : m ≤ 2147483647) : (lexT (edgeS n m)).length = 8 := by
  have := congrArg List.length (lexT_K (edgeS n m))
  rw [lk_edgeS hn hm, List.length_map] at this
  simpa using this
theorem decl_none {l : List Tk5} (h : l.length = 7 ∨ l.length = 9) : declOf l = (decl0, 20) := by
  have hn : ∀ w s, s.length = 8 ∨ s.length = 6 ∨ s.length = 1 → ¬ rowB l w s = true := fun w s hs hr => by
    have := rowB_len hr
    omega
  unfold declOf
  rw [if_neg (hn _ _ (.inl rfl)), if_neg (hn _ _ (.inr (.inl rfl))), if_neg (hn _ _ (.inr (.inr rfl))), if_neg (hn _ _ (.inr (.inr rfl)))]
theorem decl_begin : declOf (lexT [58, 45, 32, 98, 101, 103, 105, 110, 46]) = ([.int .i64 4, .str [], .int .i64 0, .int .i64 0, .int .i64 0, .int .i64 0], 0) := by kernel_rfl
theorem decl_end : declOf (lexT [58, 45, 32, 101, 110, 100, 46]) = ([.int .i64 5, .str [], .int .i64 0, .int .i64 0, .int .i64 0, .int .i64 0], 0) := by kernel_rfl
theorem andM_int {a : Nat} (ha : a < 4294967296) : binInt .and .i64 (a : Int) 2147483647 = some (.int .i64 ((a % 2147483648 : Nat) : Int)) := by
  have h1 : (BitVec.ofInt 64 (2147483647 : Int)).toNat = 2147483647 := by decide
  show some (D.int .i64 (IntKind.wrap .i64 (((BitVec.ofInt 64 (a : Int) &&& BitVec.ofInt 64 (2147483647 : Int)).toNat : Nat) : Int))) = _
  rw [BitVec.toNat_and, h1, bv_nat (by omega), show (2147483647 : Nat) = 2 ^ 31 - 1 from rfl, Nat.and_two_pow_sub_one_eq_mod, wrap64 (by omega) (by omega)]
theorem and8_nat : ∀ w < 256, IntKind.wrap .u8 (((BitVec.ofInt 8 (w : Nat) &&& BitVec.ofInt 8 (1 : Int)).toNat : Nat) : Int) = ((w % 2 : Nat) : Int) := by decide +kernel
theorem shr8_nat : ∀ w < 256, ((w : Nat) : Int).fdiv (2 ^ 1) = ((w / 2 : Nat) : Int) := by decide +kernel
section
variable {cl : Call} {env : Env} {h : Hp} {x y : Opd} {nx : Nat} {ob : List (Nat × Ob)}
theorem ev_andM {a : Nat} (hx : ev env x = .c (.d (.int .i64 (a : Nat)))) (hy : ev env y = .c (.d (.int .i64 2147483647))) (ha : a < 4294967296) : eval cl env h (.bin .and x y) = some (.c (.d (.int .i64 ((a % 2147483648 : Nat) : Int))), h) := by
  simp only [eval, hx, hy, binV, binD, isShift, andM_int ha]
  rfl
theorem ev_and8 {w : Nat} (hx : ev env x = .c (.d (.int .u8 (w : Nat)))) (hy : ev env y = .c (.d (.int .u8 1))) (hw : w < 256) : eval cl env h (.bin .and x y) = some (.c (.d (.int .u8 ((w % 2 : Nat) : Int))), h) := by
  have e : binInt .and .u8 (w : Int) 1 = some (.int .u8 ((w % 2 : Nat) : Int)) := by rw [← and8_nat w hw]; rfl
  simp only [eval, hx, hy, binV, binD, isShift, e]
  rfl
theorem ev_shr8 {w : Nat} (hx : ev env x = .c (.d (.int .u8 (w : Nat)))) (hy : ev env y = .c (.d (.int .u64 1))) (hw : w < 256) : eval cl env h (.bin .shr x y) = some (.c (.d (.int .u8 ((w / 2 : Nat) : Int))), h) := by
  have e : shiftInt .shr .u8 (w : Int) 1 = some (.int .u8 ((w / 2 : Nat) : Int)) := by
    rw [← shr8_nat w hw]
    rfl
  simp only [eval, hx, hy, binV, binD, isShift, e]
  rfl
theorem ev_toI64 {k : IntKind} {n : Nat} (hx : ev env x = .c (.d (.int k (n : Nat)))) (h1 : n < 9223372036854775808) : eval cl env h (.toInt .i64 x) = some (.c (.d (.int .i64 (n : Nat))), h) := toInt_64 hx (by omega) (by omega)
theorem ev_lit_d {sz sz' n' : Nat} {l l' ys : List (List D)} (hx : ev env x = .c (.lit sz l)) (hy : ev env y = .c (.d (.list sz' ys))) (hz : sz' = sz) (hne : 0 < ys.length) (hr : l.length + ys.length ≤ room) (hl' : l ++ ys = l') (hn' : l'.length = n') :
    eval cl env ⟨nx, ob⟩ (.append x y sz) = some (.c (.own nx n'), ⟨nx + 1, (nx, .row sz l') :: ob⟩) := by
  subst hz hl' hn'
  have h1 : sized sz' sz' ys = true := by simp [sized]
  have h2 : True ∧ l.length + ys.length ≤ room := ⟨trivial, hr⟩
  have h3 : ys.isEmpty = false := by
    cases ys with
    | nil => exact absurd hne (Nat.lt_irrefl 0)
    | cons _ _ => rfl
  simp only [eval, hy, C.lst, C.toD, h1, hx]
  rw [if_pos h2, h3]
  rfl
theorem ev_lit_n {sz sz' : Nat} {l : List (List D)} (hx : ev env x = .c (.lit sz l)) (hy : ev env y = .c (.d (.list sz' []))) (hr : l.length ≤ room) : eval cl env h (.append x y sz) = some (.c (.lit sz l), h) := by
  obtain ⟨nx, ob⟩ := h
  have h2 : True ∧ l.length + ([] : List (List D)).length ≤ room := ⟨trivial, by simpa using hr⟩
  simp only [eval, hy, C.lst, C.toD, sized, List.isEmpty_nil, Bool.or_true, hx]
  rw [if_pos h2]
  rfl
theorem ev_same {ks : List Nat} {cs : List C} {ds : List D} (hx : ev env x = .agg cs) (hy : ev env y = .agg cs) (hd : flatDs cs = some ds) (hs : sameFs ks ds ds = some true) : eval cl env h (.eqA false ks x y) = some (.c (.d (.bool true)), h) := by
  simp only [eval, hx, hy, hd, hs]
end
theorem same_edge (n m : Nat) : sameFs [0, 1, 0, 0, 0, 0] (edgeD n m) (edgeD n m) = some true := by simp [sameFs, sameF, edgeD]
noncomputable def clG : Call := tbl [(19, onB FAll), (18, G305), (20, T306), (21, T307), (23, T309)]
def declC (k : Int) (n m : Nat) : List C := [.d (.int .i64 k), .d (.str []), .d (.int .i64 0), .d (.int .i64 0), .d (.int .i64 (n : Nat)), .d (.int .i64 (m : Nat))]
set_option maxRecDepth 8000 in
set_option maxHeartbeats 8000000 in
theorem w301f {g h : Nat} (hg : g < 4294967296) (hh : h < 4294967296) {o : List Tk5} (ho : o.length = 7 ∨ o.length = 9) (hs : ∀ t ∈ o, t.s.length ≤ 1000) {z : Nat} (hz : z = 3 ∨ z = 4) :
    awp clG (c301.tail 13) (PureQ [.t 6] (.c (.bool true))) ⟨[(0, .c (.d (.int .u32 (g : Nat)))), (1, .c (.d (.int .u32 (h : Nat)))), (7, .c (.d (.bool true))), (13, .c (.ptr 0 0)), (14, .c (.d (.int .i64 0))), (15, .c (.ptr 1 0)), (16, .c (.d (.int .i64 0))), (17, .c (.ptr 2 0)), (18, .c (.d (.int .i64 0))), (20, .c (.own z (o.map tkD).length))],
      ⟨5, [(z, .row 5 (o.map tkD)), (2, .cells (declC 5 0 0)), (1, .cells (declC 4 0 0)), (0, .cells (declC 3 (g % 2147483648) (h % 2147483648)))]⟩⟩ := by
  have q := T306_eq (a := 0) (b := 0) (f := 0) (sz := 5) (l := o) ⟨by omega, hs⟩
  rw [decl_none ho] at q
  unfold pieceD declR decl0 at q
  simp only at q
  have hsm := same_edge (g % 2147483648) (h % 2147483648)
  unfold edgeD at hsm
  unfold declC
  generalize o.map tkD = l at q ⊢
  have e0 : ∀ ob : List (Nat × Ob), ∀ z, C.toD ⟨5, (z, .row 5 l) :: ob⟩ (.own z l.length) = some (.list 5 l) := fun ob z => by simp [C.toD, look]
  unfold clG c301
  dsimp only [ACode.tail]
  rcases hz with rfl | rfl
  all_goals
    have e1 := fun ob => e0 ob 3
    have e2 := fun ob => e0 ob 4
    have hd : ∀ (c : C) (ob : Hp), C.toD ob c = some (.list 5 l) → toDVs ob [.agg [.d (.int .i64 0), .d (.int .i64 0), .d (.int .i64 0), c]] = some [.agg [.int .i64 0, .int .i64 0, .int .i64 0, .list 5 l]] := fun c ob hc => by
      have h0 : ∀ x, C.toD ob (.d x) = some x := fun _ => rfl
      simp only [toDVs, V.toDV, toDs, h0, hc]
    repeat' first
      | refine GoH ?_
      | refine ZB (ev_pcallF rfl (hd _ _ (by first | exact e1 _ | exact e2 _)) q rfl rfl) ?_
      | refine ZB (ev_toI64 rfl (by omega)) ?_
      | refine ZB (ev_andM rfl rfl (by omega)) ?_
      | refine ZB (ev_same rfl rfl rfl hsm) ?_
      | refine ZB rfl ?_|refine ZC rfl ?_
    exact ⟨_, rfl, rfl⟩
set_option maxRecDepth 8000 in
set_option maxHeartbeats 8000000 in
theorem w301m {g h w at_ : Nat} (hg : g < 4294967296) (hh : h < 4294967296) (hw : w < 256) (hat : at_ < 8) {l : List Tk5} (hl : l.length = 8) (hs : ∀ t ∈ l, t.s.length ≤ 1000) :
    awp clG (c301.tail 11) (PureQ [.t 6] (.c (.bool true))) ⟨[(0, .c (.d (.int .u32 (g : Nat)))), (1, .c (.d (.int .u32 (h : Nat)))), (2, .c (.d (.int .u8 (w : Nat)))), (7, .c (.d (.bool true))), (12, .c (.d (.list 5 (l.map tkD)))), (13, .c (.ptr 0 0)), (14, .c (.d (.int .i64 0))), (15, .c (.ptr 1 0)), (16, .c (.d (.int .i64 0))), (17, .c (.ptr 2 0)), (18, .c (.d (.int .i64 0))), (19, .c (.d (.int .i64 (at_ : Nat))))],
      ⟨3, [(2, .cells (declC 5 0 0)), (1, .cells (declC 4 0 0)), (0, .cells (declC 3 (g % 2147483648) (h % 2147483648)))]⟩⟩ := by
  have hml : (l.map tkD).length = 8 := by rw [List.length_map, hl]
  have hroom : (1000 : Nat) ≤ room := by unfold room; omega
  have f0 := w301f hg hh (o := l.take at_ ++ l.drop (at_ + 1)) (.inl (by simp; omega)) (fun t ht => by
    rcases List.mem_append.1 ht with ht | ht
    · exact hs t (List.mem_of_mem_take ht)
    · exact hs t (List.mem_of_mem_drop ht)) (z := 3) (.inl rfl)
  have f1 := w301f hg hh (o := l.take (at_ + 1) ++ l.drop at_) (.inr (by simp; omega)) (fun t ht => by
    rcases List.mem_append.1 ht with ht | ht
    · exact hs t (List.mem_of_mem_take ht)
    · exact hs t (List.mem_of_mem_drop ht)) (z := 4) (.inr rfl)
  rw [List.map_append, List.map_take, List.map_drop] at f0 f1
  generalize l.map tkD = m at hml f0 f1 ⊢
  have s1 : (m.take ((at_ : Nat) : Int).toNat).drop (0 : Int).toNat = m.take at_ := by simp
  have s2 : (m.take ((m.length : Nat) : Int).toNat).drop ((at_ : Int) + 1).toNat = m.drop (at_ + 1) := by
    rw [Int.toNat_natCast, List.take_length]; congr 1
  have s3 : (m.take ((at_ : Int) + 1).toNat).drop (0 : Int).toNat = m.take (at_ + 1) := by
    rw [show ((at_ : Int) + 1).toNat = at_ + 1 by omega]; simp
  have s4 : (m.take ((m.length : Nat) : Int).toNat).drop ((at_ : Nat) : Int).toNat = m.drop at_ := by
    rw [Int.toNat_natCast, Int.toNat_natCast, List.take_length]
  have l1 : (m.take at_).length = at_ := by rw [List.length_take]; omega
  have l2 : (m.drop (at_ + 1)).length = 7 - at_ := by rw [List.length_drop]; omega
  have l3 : (m.take (at_ + 1)).length = at_ + 1 := by rw [List.length_take]; omega
  have l4 : (m.drop at_).length = 8 - at_ := by rw [List.length_drop]; omega
  have key : ∀ (z nx : Nat) (r : List (Nat × Ob)), z = 3 ∧ nx = 4 → (r = [(2, .cells (declC 5 0 0)), (1, .cells (declC 4 0 0)), (0, .cells (declC 3 (g % 2147483648) (h % 2147483648)))]) →
      awp clG (c301.tail 12) (PureQ [.t 6] (.c (.bool true))) ⟨[(0, .c (.d (.int .u32 (g : Nat)))), (1, .c (.d (.int .u32 (h : Nat)))), (2, .c (.d (.int .u8 (w : Nat)))), (7, .c (.d (.bool true))), (12, .c (.d (.list 5 m))), (13, .c (.ptr 0 0)), (14, .c (.d (.int .i64 0))), (15, .c (.ptr 1 0)), (16, .c (.d (.int .i64 0))), (17, .c (.ptr 2 0)), (18, .c (.d (.int .i64 0))), (19, .c (.d (.int .i64 (at_ : Nat)))), (20, .c (.own z (m.take at_ ++ m.drop (at_ + 1)).length))],
        ⟨nx, (z, .row 5 (m.take at_ ++ m.drop (at_ + 1))) :: r⟩⟩ := by
    rintro _ _ _ ⟨rfl, rfl⟩ rfl
    by_cases hodd : w % 2 = 1
    · have hsub : ∀ y o, look [(4, Ob.row 5 (m.take (at_ + 1) ++ m.drop at_)), (2, .cells (declC 5 0 0)), (1, .cells (declC 4 0 0)), (0, .cells (declC 3 (g % 2147483648) (h % 2147483648)))] y = some o →
          look [(4, Ob.row 5 (m.take (at_ + 1) ++ m.drop at_)), (3, .row 5 (m.take at_ ++ m.drop (at_ + 1))), (2, .cells (declC 5 0 0)), (1, .cells (declC 4 0 0)), (0, .cells (declC 3 (g % 2147483648) (h % 2147483648)))] y = some o := fun y o hy => by
        simp only [look] at hy ⊢
        by_cases h4 : 4 = y
        · rw [if_pos h4] at hy ⊢; exact hy
        · rw [if_neg h4] at hy ⊢
          by_cases h3 : 3 = y
          · subst h3; simp at hy
          · rw [if_neg h3]; exact hy
      generalize declC 5 0 0 = u5 at *
      generalize declC 4 0 0 = u4 at *
      generalize declC 3 (g % 2147483648) (h % 2147483648) = u3 at *
      unfold clG c301 at *
      dsimp only [ACode.tail] at *
      repeat' first
        | ((with_reducible apply weak_drop [0, 1, 7, 13, 14, 15, 16, 17, 18, 20]); rfl; exact hsub; (show (5 : Nat) ≤ 5; omega); exact f1)
        | refine GoH ?_
        | refine ZB (ev_and8 rfl rfl hw) ?_
        | refine ZB (ev_eql_t rfl rfl (by omega)) ?_
        | (with_reducible first | apply ZS | apply ZT)
        | refine ZX rfl (ev_add rfl rfl (by omega) (by omega)) ?_
        | refine dstep_all (fun h => ev_slice_d (a := 0) (b := (at_ : Int) + 1) rfl (.inl rfl) rfl rfl (by omega) (by omega) (by omega) s3) ?_
        | refine dstep_all (fun h => ev_slice_d (a := (at_ : Int)) (b := (m.length : Int)) rfl (.inl rfl) rfl rfl (by omega) (by omega) (by omega) s4) ?_
        | refine ZZ (Z0 (ev_lit_d (l' := m.take (at_ + 1)) (n' := at_ + 1) rfl rfl rfl (by omega) (by show 0 + (m.take (at_ + 1)).length ≤ room; omega) rfl l3) ⟨rfl, rfl⟩) (by (repeat' first|exact True.intro|refine ⟨?_, ?_⟩|exact .inl rfl|exact .inr (.inl rfl)|exact .inr (.inr rfl)|rfl)) ?_
        | refine ZZ (Z0 (ev_app_d (l' := m.take (at_ + 1) ++ m.drop at_) (n' := (m.take (at_ + 1) ++ m.drop at_).length) rfl rfl (.inl rfl) look_hd l3.symm (by omega) rfl rfl put_hd) ⟨rfl, rfl⟩) (by (repeat' first|exact True.intro|refine ⟨?_, ?_⟩|exact .inl rfl|exact .inr (.inl rfl)|exact .inr (.inr rfl)|rfl)) ?_
        | (with_reducible first|apply ZS|apply ZT)|((with_reducible apply ZU);rfl)|((with_reducible apply ZV);rfl;decide)|((with_reducible apply ZW);rfl)|refine ZX rfl rfl ?_|refine ZY rfl (by (repeat' first|exact True.intro|refine ⟨?_, ?_⟩|exact .inl rfl|exact .inr (.inl rfl)|exact .inr (.inr rfl)|rfl)) ?_|refine ZZ (Z0 rfl ⟨rfl, rfl⟩) (by (repeat' first|exact True.intro|refine ⟨?_, ?_⟩|exact .inl rfl|exact .inr (.inl rfl)|exact .inr (.inr rfl)|rfl)) ?_
        | refine ZB rfl ?_|refine ZC rfl ?_
    · have hsub : ∀ y o, look [(3, Ob.row 5 (m.take at_ ++ m.drop (at_ + 1))), (2, .cells (declC 5 0 0)), (1, .cells (declC 4 0 0)), (0, .cells (declC 3 (g % 2147483648) (h % 2147483648)))] y = some o →
          look [(3, Ob.row 5 (m.take at_ ++ m.drop (at_ + 1))), (2, .cells (declC 5 0 0)), (1, .cells (declC 4 0 0)), (0, .cells (declC 3 (g % 2147483648) (h % 2147483648)))] y = some o := fun y o hy => hy
      generalize declC 5 0 0 = u5 at *
      generalize declC 4 0 0 = u4 at *
      generalize declC 3 (g % 2147483648) (h % 2147483648) = u3 at *
      unfold clG c301 at *
      dsimp only [ACode.tail] at *
      repeat' first
        | ((with_reducible apply weak_drop [0, 1, 7, 13, 14, 15, 16, 17, 18, 20]); rfl; exact hsub; (show (4 : Nat) ≤ 5; omega); exact f0)
        | refine GoH ?_
        | refine ZB (ev_and8 rfl rfl hw) ?_
        | refine ZB (ev_eql_f rfl rfl (by omega)) ?_
        | refine ZB rfl ?_|refine ZC rfl ?_
  generalize declC 5 0 0 = u5 at *
  generalize declC 4 0 0 = u4 at *
  generalize declC 3 (g % 2147483648) (h % 2147483648) = u3 at *
  by_cases h0 : at_ = 0
  · have t0 : m.take at_ = [] := by rw [h0]; rfl
    have kk := key 3 4 _ ⟨rfl, rfl⟩ rfl
    rw [t0] at kk s1
    have e8 : ([] ++ m.drop (at_ + 1)).length = 7 - at_ := by rw [List.nil_append, l2]
    unfold clG c301 at *
    dsimp only [ACode.tail] at *
    repeat' first
      | ((with_reducible apply weak_keep [0, 1, 2, 7, 12, 13, 14, 15, 16, 17, 18, 19, 20]); rfl; exact kk)
      | refine GoH ?_
      | (with_reducible first | apply ZS | apply ZT)
      | refine ZX rfl (ev_add rfl rfl (by omega) (by omega)) ?_
      | refine dstep_all (fun h => ev_slice_d (a := 0) (b := (at_ : Int)) rfl (.inl rfl) rfl rfl (by omega) (by omega) (by omega) s1) ?_
      | refine dstep_all (fun h => ev_slice_d (a := (at_ : Int) + 1) (b := (m.length : Int)) rfl (.inl rfl) rfl rfl (by omega) (by omega) (by omega) s2) ?_
      | refine dstep_all (fun h => ev_lit_n rfl rfl (Nat.zero_le _)) ?_
      | refine ZZ (Z0 (ev_lit_d (l' := [] ++ m.drop (at_ + 1)) (n' := ([] ++ m.drop (at_ + 1)).length) rfl rfl rfl (by omega) (by show 0 + (m.drop (at_ + 1)).length ≤ room; omega) rfl rfl) ⟨rfl, rfl⟩) (by (repeat' first|exact True.intro|refine ⟨?_, ?_⟩|exact .inl rfl|exact .inr (.inl rfl)|exact .inr (.inr rfl)|rfl)) ?_
      | (with_reducible first|apply ZS|apply ZT)|((with_reducible apply ZU);rfl)|((with_reducible apply ZV);rfl;decide)|((with_reducible apply ZW);rfl)|refine ZX rfl rfl ?_|refine ZY rfl (by (repeat' first|exact True.intro|refine ⟨?_, ?_⟩|exact .inl rfl|exact .inr (.inl rfl)|exact .inr (.inr rfl)|rfl)) ?_|refine ZZ (Z0 rfl ⟨rfl, rfl⟩) (by (repeat' first|exact True.intro|refine ⟨?_, ?_⟩|exact .inl rfl|exact .inr (.inl rfl)|exact .inr (.inr rfl)|rfl)) ?_
      | refine ZB rfl ?_|refine ZC rfl ?_
  · have kk := key 3 4 _ ⟨rfl, rfl⟩ rfl
    unfold clG c301 at *
    dsimp only [ACode.tail] at *
    repeat' first
      | ((with_reducible apply weak_keep [0, 1, 2, 7, 12, 13, 14, 15, 16, 17, 18, 19, 20]); rfl; exact kk)
      | refine GoH ?_
      | (with_reducible first | apply ZS | apply ZT)
      | refine ZX rfl (ev_add rfl rfl (by omega) (by omega)) ?_
      | refine dstep_all (fun h => ev_slice_d (a := 0) (b := (at_ : Int)) rfl (.inl rfl) rfl rfl (by omega) (by omega) (by omega) s1) ?_
      | refine dstep_all (fun h => ev_slice_d (a := (at_ : Int) + 1) (b := (m.length : Int)) rfl (.inl rfl) rfl rfl (by omega) (by omega) (by omega) s2) ?_
      | refine ZZ (Z0 (ev_lit_d (l' := m.take at_) (n' := at_) rfl rfl rfl (by omega) (by show 0 + (m.take at_).length ≤ room; omega) rfl l1) ⟨rfl, rfl⟩) (by (repeat' first|exact True.intro|refine ⟨?_, ?_⟩|exact .inl rfl|exact .inr (.inl rfl)|exact .inr (.inr rfl)|rfl)) ?_
      | refine ZZ (Z0 (ev_app_d (l' := m.take at_ ++ m.drop (at_ + 1)) (n' := (m.take at_ ++ m.drop (at_ + 1)).length) rfl rfl (.inl rfl) look_hd l1.symm (by omega) rfl rfl put_hd) ⟨rfl, rfl⟩) (by (repeat' first|exact True.intro|refine ⟨?_, ?_⟩|exact .inl rfl|exact .inr (.inl rfl)|exact .inr (.inr rfl)|rfl)) ?_
      | (with_reducible first|apply ZS|apply ZT)|((with_reducible apply ZU);rfl)|((with_reducible apply ZV);rfl;decide)|((with_reducible apply ZW);rfl)|refine ZX rfl rfl ?_|refine ZY rfl (by (repeat' first|exact True.intro|refine ⟨?_, ?_⟩|exact .inl rfl|exact .inr (.inl rfl)|exact .inr (.inr rfl)|rfl)) ?_|refine ZZ (Z0 rfl ⟨rfl, rfl⟩) (by (repeat' first|exact True.intro|refine ⟨?_, ?_⟩|exact .inl rfl|exact .inr (.inl rfl)|exact .inr (.inr rfl)|rfl)) ?_
      | refine ZB rfl ?_|refine ZC rfl ?_
set_option maxRecDepth 8000 in
set_option maxHeartbeats 8000000 in
theorem w301 (x : (Nat × Nat) × Nat) (hx : x.1.1 < 4294967296 ∧ x.1.2 < 4294967296 ∧ x.2 < 256) : awp clG c301 (PureQ [.t 6] (.c (.bool true))) ⟨argE 0 (dvArgs [.c (.int .u32 (x.1.1 : Nat)), .c (.int .u32 (x.1.2 : Nat)), .c (.int .u8 (x.2 : Nat))]), ⟨0, []⟩⟩ := by
  obtain ⟨⟨g, h⟩, w⟩ := x
  obtain ⟨hg, hh, hw⟩ := hx
  simp only at hg hh hw ⊢
  have hn : g % 2147483648 ≤ 2147483647 := by omega
  have hm : h % 2147483648 ≤ 2147483647 := by omega
  have h305 : G305 [] = some (.c (.bool true)) := rfl
  have p1 := T309_eq hn
  have p2 := T309_eq hm
  have hS := edgeS_len (g % 2147483648) (h % 2147483648)
  have hdn := digits_len (g % 2147483648)
  have hdm := digits_len (h % 2147483648)
  have hroom : (edgeS (g % 2147483648) (h % 2147483648)).length ≤ room := by unfold room; omega
  have hlex : onB FAll [.c (.list 1 (encB (edgeS (g % 2147483648) (h % 2147483648))))] = some (.c (.list 5 ((lexT (edgeS (g % 2147483648) (h % 2147483648))).map tkD))) := by rw [← FAll_T]; exact onB_eq (.inl rfl) hroom
  have hb := allOf_bds (edgeS (g % 2147483648) (h % 2147483648))
  have hlen := lexT_len hn hm
  have hts : ∀ t ∈ lexT (edgeS (g % 2147483648) (h % 2147483648)), t.s.length ≤ 1000 := fun t ht => Nat.le_trans (hb.2 t ht) (by omega)
  have q := T306_eq (a := 0) (b := 0) (f := 0) (sz := 5) (l := lexT (edgeS (g % 2147483648) (h % 2147483648))) ⟨by omega, hts⟩
  rw [decl_edge hn hm] at q
  unfold pieceD declR edgeD at q
  simp only at q
  have b1 := T307_eq (s := [58, 45, 32, 98, 101, 103, 105, 110, 46]) (by decide)
  have b2 := T307_eq (s := [58, 45, 32, 101, 110, 100, 46]) (by decide)
  rw [decl_begin] at b1
  rw [decl_end] at b2
  have fin := w301m hg hh hw (at_ := w / 2 % 8) (Nat.mod_lt _ (by omega)) hlen hts
  have hml : ((lexT (edgeS (g % 2147483648) (h % 2147483648))).map tkD).length = 8 := by rw [List.length_map, hlen]
  unfold declC at fin
  generalize (lexT _).map tkD = m at hlex q fin hml
  unfold edgeS at hlex hroom
  clear hn hm hS hb hlen hts
  unfold clG c301 at *
  dsimp only [ACode.tail] at *
  repeat' first
    | ((with_reducible apply weak_keep [0, 1, 2, 7, 12, 13, 14, 15, 16, 17, 18, 19]); rfl; exact fin)
    | refine GoH ?_
    | ((with_reducible apply Z1 (f := 18));rfl;rfl;rfl;exact h305;rfl)
    | ((with_reducible apply Z1 (f := 23));rfl;rfl;rfl;exact p1;rfl)
    | ((with_reducible apply Z1 (f := 23));rfl;rfl;rfl;exact p2;rfl)
    | ((with_reducible apply Z1 (f := 19));rfl;rfl;rfl;exact hlex;rfl)
    | ((with_reducible apply Z1 (f := 20));rfl;rfl;rfl;exact q;rfl)
    | ((with_reducible apply Z1 (f := 21));rfl;rfl;rfl;exact b1;rfl)
    | ((with_reducible apply Z1 (f := 21));rfl;rfl;rfl;exact b2;rfl)
    | refine ZB (ev_shr8 rfl rfl hw) ?_
    | refine ZB (ev_remN2 (b := 8) rfl rfl (by omega)) ?_
    | refine ZB (ev_toI64 rfl (by omega)) ?_
    | refine ZB (ev_andM rfl rfl (by omega)) ?_
    | refine ZB (ev_neq_f rfl rfl (by omega)) ?_
    | refine ZB (ev_s2b0 rfl hroom) ?_
    | refine ZB (ev_adds rfl rfl (by simp only [List.length_cons, List.length_nil, List.length_append]; omega)) ?_
    | ((with_reducible apply ZR); rfl)
    | refine ZB rfl ?_|refine ZC rfl ?_
noncomputable def T301 : List DV → Option DV := fam (fun x : (Nat × Nat) × Nat => [.c (.int .u32 (x.1.1 : Nat)), .c (.int .u32 (x.1.2 : Nat)), .c (.int .u8 (x.2 : Nat))]) (fun x => x.1.1 < 4294967296 ∧ x.1.2 < 4294967296 ∧ x.2 < 256) (fun _ => .c (.bool true))
theorem T301_eq {g h w : Nat} (hg : g < 4294967296) (hh : h < 4294967296) (hw : w < 256) : T301 [.c (.int .u32 (g : Nat)), .c (.int .u32 (h : Nat)), .c (.int .u8 (w : Nat))] = some (.c (.bool true)) :=
  fam_eq (ι := (Nat × Nat) × Nat) ((g, h), w) ⟨hg, hh, hw⟩ (fun _ _ _ => rfl)
theorem declEdges_ok (m : Int) : PureFn Go.Proofs.Tryd.prog (glbS m) 5 T301 :=
  fam_ok (fn301 m) (callOk_cons (pe37 m).s (callOk_cons (pok305 m) (callOk_cons (pok306 m) (callOk_cons (pok307 m) (callOk_cons (pok309 m) (callOk_nil _ _)))))) w301
end Go.Am
