/-
  digits.Put.
-/
import Derived.Test.YtnhalnblbfgbkaaDoorADB
namespace Go.Am
open Go
def digR : Nat → Nat → List UInt8
  | 0, _ => []
  | f + 1, n => UInt8.ofNat (48 + n % 10) :: (if n / 10 = 0 then [] else digR f (n / 10))
def digits (n : Nat) : List UInt8 := (digR 11 n).reverse
theorem digR_len : ∀ f n, (digR f n).length ≤ f
  | 0, _ => Nat.le_refl _
  | f + 1, n => by
    unfold digR
    simp only [List.length_cons]
    split
    · simp
    · have := digR_len f (n / 10); omega
theorem digR_ne (f n : Nat) : digR (f + 1) n ≠ [] := by unfold digR; simp
theorem dig_val {d : Nat} (h : d < 10) : (UInt8.ofNat (48 + d)).toNat = 48 + d := by
  rw [UInt8.toNat_ofNat']; omega
theorem dig_class {d : Nat} (h : d < 10) : classOf (UInt8.ofNat (48 + d)) = 4 := by
  have : ∀ d < 10, classOf (UInt8.ofNat (48 + d)) = 4 := by decide +kernel
  exact this d h
theorem digR_class : ∀ f n, ∀ b ∈ digR f n, classOf b = 4
  | 0, _, b, hb => by cases hb
  | f + 1, n, b, hb => by
    unfold digR at hb
    rcases List.mem_cons.1 hb with rfl | hb
    · exact dig_class (Nat.mod_lt _ (by omega))
    · split at hb
      · cases hb
      · exact digR_class f _ b hb
theorem numF_app : ∀ (a b : List UInt8) (v : Int), numF v (a ++ b) = match numF v a with | some u => numF u b | none => none
  | [], b, v => rfl
  | x :: a, b, v => by
    simp only [List.cons_append, numF]
    split
    · rfl
    · exact numF_app a b _
theorem digR_val : ∀ (f n : Nat), n < 10 ^ f → n ≤ 2147483647 → numF 0 (digR f n).reverse = some (n : Int)
  | 0, n, h, _ => by
    have : n = 0 := by simpa using h
    subst this
    rfl
  | f + 1, n, h, hb => by
    unfold digR
    rw [List.reverse_cons, numF_app]
    have hd := dig_val (Nat.mod_lt n (show 0 < 10 by omega))
    have hmod := Nat.div_add_mod n 10
    have key : ∀ u : Int, u * 10 + (n % 10 : Nat) = (n : Int) → numF u [UInt8.ofNat (48 + n % 10)] = some (n : Int) := fun u hu => by
      simp only [numF, hd]
      rw [if_neg (by omega)]
      congr 1
      omega
    by_cases h0 : n / 10 = 0
    · rw [if_pos h0]
      show (match numF 0 [] with | some u => numF u _ | none => none) = _
      exact key 0 (by omega)
    · rw [if_neg h0]
      rw [digR_val f (n / 10) (by rw [Nat.pow_succ] at h; omega) (by omega)]
      exact key _ (by omega)
theorem digits_val {n : Nat} (h : n ≤ 2147483647) : numF 0 (digits n) = some (n : Int) := digR_val 11 n (by omega) h
theorem digits_class {n : Nat} : ∀ b ∈ digits n, classOf b = 4 := fun b hb => digR_class 11 n b (List.mem_reverse.1 hb)
theorem digits_ne (n : Nat) : digits n ≠ [] := by unfold digits; simp [digR_ne]
theorem digits_len (n : Nat) : (digits n).length ≤ 11 := by unfold digits; rw [List.length_reverse]; exact digR_len 11 n
noncomputable def T309 : List DV → Option DV := fam (fun n : Nat => [.c (.int .i64 (n : Nat))]) (fun n => n ≤ 2147483647) (fun n => .tup [.c (.list 1 (encB (digits n))), .c (.int .i64 0)])
theorem T309_eq {n : Nat} (h : n ≤ 2147483647) : T309 [.c (.int .i64 (n : Nat))] = some (.tup [.c (.list 1 (encB (digits n))), .c (.int .i64 0)]) := by
  refine fam_eq (ι := Nat) n h ?_
  intro n' _ e
  simp only [List.cons.injEq, DV.c.injEq, D.int.injEq, true_and, and_true] at e
  have : n' = n := by omega
  rw [this]
theorem encB_app2 (a b : List UInt8) : encB a ++ encB b = encB (a ++ b) := by unfold encB; rw [List.map_append]
def halfR (l : List UInt8) (i k : Nat) : List UInt8 := l.reverse.take i ++ ((l.drop i).take (k + 1 - i) ++ l.reverse.drop (k + 1))
theorem halfR_len {l : List UInt8} {i k : Nat} (h : i + k + 1 = l.length) (hik : i ≤ k + 1) : (halfR l i k).length = l.length := by
  unfold halfR
  simp only [List.length_append, List.length_take, List.length_drop, List.length_reverse]
  omega
theorem halfR_get {l : List UInt8} {i k : Nat} (h : i + k + 1 = l.length) (hik : i ≤ k + 1) (j : Nat) : (halfR l i k)[j]? = if j < i ∨ k < j then l.reverse[j]? else l[j]? := by
  unfold halfR
  have e1 : (l.reverse.take i).length = i := by rw [List.length_take, List.length_reverse]; omega
  have e2 : ((l.drop i).take (k + 1 - i)).length = k + 1 - i := by rw [List.length_take, List.length_drop]; omega
  rw [List.getElem?_append, e1]
  by_cases h1 : j < i
  · rw [if_pos h1, if_pos (.inl h1), List.getElem?_take, if_pos h1]
  · rw [if_neg h1, List.getElem?_append, e2]
    by_cases h2 : k < j
    · rw [if_neg (by omega), if_pos (.inr h2), List.getElem?_drop]
      congr 1
      omega
    · rw [if_pos (by omega), if_neg (by omega), List.getElem?_take, if_pos (by omega), List.getElem?_drop]
      congr 1
      omega
theorem halfR_step {l : List UInt8} {i k : Nat} (h : i + k + 1 = l.length) (hik : i < k) {x y : UInt8} (hx : l[i]? = some x) (hy : l[k]? = some y) : ((halfR l i k).set i y).set k x = halfR l (i + 1) (k - 1) := by
  apply List.ext_getElem?
  intro j
  have hl := halfR_len h (by omega)
  rw [List.getElem?_set, List.getElem?_set, halfR_get (l := l) (i := i + 1) (k := k - 1) (by omega) (by omega), halfR_get h (by omega), List.length_set, hl]
  by_cases h1 : k = j
  · subst h1
    rw [if_pos rfl, if_pos (by omega), if_pos (by omega), List.getElem?_reverse (by omega), ← hx]
    congr 1
    omega
  · rw [if_neg h1]
    by_cases h2 : i = j
    · subst h2
      rw [if_pos rfl, if_pos (by omega), if_pos (by omega), List.getElem?_reverse (by omega), ← hy]
      congr 1
      omega
    · rw [if_neg h2]
      by_cases h3 : j < i ∨ k < j
      · rw [if_pos h3, if_pos (by omega)]
      · rw [if_neg h3, if_neg (by omega)]
theorem halfR_end {l : List UInt8} {i k : Nat} (h : i + k + 1 = l.length) (hik : k ≤ i) (hik2 : i ≤ k + 1) : halfR l i k = l.reverse := by
  apply List.ext_getElem?
  intro j
  rw [halfR_get h hik2]
  by_cases h3 : j < i ∨ k < j
  · rw [if_pos h3]
  · rw [if_neg h3]
    have hj : j = i := by omega
    have : k = i := by omega
    rw [List.getElem?_reverse (by omega)]
    congr 1
    omega
theorem encB_getQ (s : List UInt8) (i : Nat) : (encB s)[i]? = (s[i]?).map fun b => [.int .u8 (b.toNat : Nat)] := by unfold encB; rw [List.getElem?_map]
theorem encB_set (s : List UInt8) (i : Nat) (b : UInt8) : (encB s).set i [.int .u8 (b.toNat : Nat)] = encB (s.set i b) := by unfold encB; rw [List.map_set]
section
variable {cl : Call} {env : Env} {h : Hp} {x y : Opd}
theorem ev_u8 {n : Nat} {k : IntKind} (hx : ev env x = .c (.d (.int k (n : Nat)))) (hn : n < 256) : eval cl env h (.toInt .u8 x) = some (.c (.d (.int .u8 (n : Nat))), h) := by
  simp only [eval, hx, wrapB (n := (n : Int)) (by omega) (by omega)]
theorem ev_quoN {a b : Nat} (hx : ev env x = .c (.d (.int .i64 (a : Nat)))) (hy : ev env y = .c (.d (.int .i64 (b : Nat)))) (hb : 0 < b) (ha : a ≤ 9223372036854775807) : eval cl env h (.bin .quo x y) = some (.c (.d (.int .i64 ((a / b : Nat) : Int))), h) := by
  have h0 : ¬ ((b : Int) = 0) := by omega
  have e : (a : Int).tdiv (b : Int) = ((a / b : Nat) : Int) := by
    rw [Int.tdiv_eq_ediv_of_nonneg (by omega)]; rfl
  have hle : a / b ≤ a := Nat.div_le_self ..
  simp only [eval, hx, hy, binV, binD, isShift, binInt, Bool.false_eq_true, if_false, if_true, if_neg h0, e]
  generalize a / b = q at hle
  rw [wrap64 (by omega) (by omega)]
theorem ev_remN2 {a b : Nat} (hx : ev env x = .c (.d (.int .i64 (a : Nat)))) (hy : ev env y = .c (.d (.int .i64 (b : Nat)))) (hb : 0 < b) : eval cl env h (.bin .rem x y) = some (.c (.d (.int .i64 ((a % b : Nat) : Int))), h) := by
  rw [ev_remN hx hy (by omega) (by omega), Int.natCast_emod]
theorem ev_addN2 {a b : Nat} (hx : ev env x = .c (.d (.int .i64 (a : Nat)))) (hy : ev env y = .c (.d (.int .i64 (b : Nat)))) (hb : a + b ≤ 9223372036854775807) : eval cl env h (.bin .add x y) = some (.c (.d (.int .i64 ((a + b : Nat) : Int))), h) := by
  have := ev_add (cl := cl) (h := h) hx hy (by omega) (by omega)
  rw [this, Int.natCast_add]
end
set_option maxRecDepth 8000 in
set_option maxHeartbeats 4000000 in
theorem w309 (n : Nat) (h : n ≤ 2147483647) : awp (tbl []) c309 (PureQ [.t 2, .t 3] (.tup [.c (.list 1 (encB (digits n))), .c (.int .i64 0)])) ⟨argE 0 (dvArgs [.c (.int .i64 (n : Nat))]), ⟨0, []⟩⟩ := by
  have hdl := digR_len 11 n
  have hdn := List.length_pos_iff.2 (digR_ne 10 n)
  unfold c309
  repeat' first | refine GoH ?_ | refine ZB (ev_lss_f rfl rfl (by omega)) ?_ | refine ZB (ev_gtr_f rfl rfl (by omega)) ?_ | refine ZB rfl ?_|refine ZC rfl ?_
  refine awp_loop (fun q st => ∃ (f v : Nat) (a : List UInt8), f < q ∧ v < 10 ^ f ∧ a.length + f ≤ 11 ∧ v ≤ 2147483647 ∧ digR 11 n = a ++ digR f v ∧
    st = ⟨[(0, .c (.d (.int .i64 (v : Nat)))), (4, .c (.own 0 (encB a).length)), (5, .c (.d (.bool (decide (0 < f)))))], ⟨1, [(0, .row 1 (encB a))]⟩⟩) 12 ?_ (by rintro st ⟨f, _, _, h, _⟩; omega) ?_
  · exact weak_keep [0, 4, 5] rfl ⟨11, n, [], by omega, by omega, by simp, h, rfl, rfl⟩
  · rintro q K hK st ⟨f, v, a, hq, hv, hal, hvm, hd, rfl⟩
    have hea := encB_length a
    cases f with
    | succ f =>
      have hd2 : digR 11 n = (a ++ [UInt8.ofNat (48 + v % 10)]) ++ (if v / 10 = 0 then [] else digR f (v / 10)) := by rw [hd]; simp [digR]
      have hval := dig_val (Nat.mod_lt v (show 0 < 10 by omega))
      have hmod : v % 10 < 10 := Nat.mod_lt _ (by omega)
      have happ : encB a ++ [[.int .u8 ((48 + v % 10 : Nat) : Int)]] = encB (a ++ [UInt8.ofNat (48 + v % 10)]) := by
        rw [← encB_app2]
        show _ = encB a ++ [[.int .u8 ((UInt8.ofNat (48 + v % 10)).toNat : Nat)]]
        rw [hval]
      have hdec : decide (0 < f + 1) = true := decide_eq_true (by omega)
      rw [hdec]
      have hgt : ∀ env hp (x y : Opd), ev env x = .c (.d (.int .i64 ((v / 10 : Nat) : Int))) → ev env y = .c (.d (.int .i64 0)) → eval (tbl []) env hp (.bin .gtr x y) = some (.c (.d (.bool (decide (0 < v / 10)))), hp) := fun env hp x y hx hy => by
        by_cases h0 : 0 < v / 10
        · rw [decide_eq_true h0]; exact ev_gtr_t hx hy (by omega)
        · rw [decide_eq_false h0]; exact ev_gtr_f hx hy (by omega)
      repeat' first
        | refine GoH ?_
        | refine ZB (ev_remN2 (b := 10) rfl rfl (by omega)) ?_
        | refine ZB (ev_addN2 (a := 48) rfl rfl (by omega)) ?_
        | refine ZB (ev_u8 rfl (by omega)) ?_
        | refine ZB (ev_app_d rfl rfl (.inl rfl) look_hd rfl (by show (encB a).length + 1 ≤ room; unfold room; omega) happ rfl put_hd) ?_
        | refine ZB (ev_quoN (b := 10) rfl rfl (by omega) (by omega)) ?_
        | refine ZB (hgt _ _ _ _ rfl rfl) ?_
        | refine ZB rfl ?_|refine ZC rfl ?_
      by_cases h0 : v / 10 = 0
      · rw [if_pos h0] at hd2
        exact hK _ (weak_keep [0, 4, 5] rfl ⟨0, v / 10, a ++ [UInt8.ofNat (48 + v % 10)], by omega, by rw [h0]; decide, by simp; omega, by omega, by rw [hd2]; simp [digR], by rw [decide_eq_false (show ¬ 0 < v / 10 by omega)]; rfl⟩)
      · rw [if_neg h0] at hd2
        have hp : v / 10 < 10 ^ f := by rw [Nat.pow_succ] at hv; omega
        have hf : 0 < f := by
          rcases Nat.eq_zero_or_pos f with rfl | hf
          · simp at hp; omega
          · exact hf
        exact hK _ (weak_keep [0, 4, 5] rfl ⟨f, v / 10, a ++ [UInt8.ofNat (48 + v % 10)], by omega, hp, by simp; omega, by omega, hd2, by rw [decide_eq_true (show 0 < v / 10 by omega), decide_eq_true hf]; rfl⟩)
    | zero =>
      have ha : digR 11 n = a := by rw [hd]; simp [digR]
      have hpos : 0 < a.length := by rw [← ha]; exact hdn
      clear hd hK
      repeat' first | refine GoH ?_ | refine ZB (ev_len_own rfl look_hd rfl) ?_ | refine ZB (ev_sub rfl rfl (by omega) (by omega)) ?_ | refine ZB rfl ?_|refine ZC rfl ?_
      refine awp_loop (fun q st => ∃ (i k : Nat), i + k + 1 = a.length ∧ i ≤ k + 1 ∧ k < q ∧
        st = ⟨[(4, .c (.own 0 (encB a).length)), (6, .c (.d (.int .i64 (i : Nat)))), (7, .c (.d (.int .i64 (k : Nat))))], ⟨1, [(0, .row 1 (encB (halfR a i k)))]⟩⟩) 12 ?_ (by rintro st ⟨i, k, _, _, h, _⟩; omega) ?_
      · refine weak_keep [4, 6, 7] rfl ⟨0, a.length - 1, by omega, by omega, by omega, ?_⟩
        have e1 : halfR a 0 (a.length - 1) = a := by
          unfold halfR
          rw [show a.length - 1 + 1 - 0 = a.length by omega, show a.length - 1 + 1 = a.length by omega]
          simp
        rw [e1, show ((a.length - 1 : Nat) : Int) = ((encB a).length : Int) - 1 by omega]
        rfl
      · rintro q2 K hK st ⟨i, k, hik, hle, hq2, rfl⟩
        have hH := halfR_len hik hle
        have heH := encB_length (halfR a i k)
        by_cases hlt : i < k
        · have hx : a[i]? = some a[i] := List.getElem?_eq_getElem (by omega)
          have hy : a[k]? = some a[k] := List.getElem?_eq_getElem (by omega)
          have gx : (encB (halfR a i k))[i]? = some [.int .u8 (a[i].toNat : Nat)] := by rw [encB_getQ, halfR_get hik hle, if_neg (by omega), hx]; rfl
          have gy : (encB (halfR a i k))[k]? = some [.int .u8 (a[k].toNat : Nat)] := by rw [encB_getQ, halfR_get hik hle, if_neg (by omega), hy]; rfl
          have gy2 : ((encB (halfR a i k)).set i [.int .u8 (a[k].toNat : Nat)])[k]? = some [.int .u8 (a[k].toNat : Nat)] := by rw [List.getElem?_set_ne (by omega), gy]
          have hst := halfR_step hik hlt hx hy
          have hset : ((encB (halfR a i k)).set i [.int .u8 (a[k].toNat : Nat)]).set k [.int .u8 (a[i].toNat : Nat)] = encB (halfR a (i + 1) (k - 1)) := by rw [encB_set, encB_set, hst]
          have hl2 : ((encB (halfR a i k)).set i [.int .u8 (a[k].toNat : Nat)]).length = (encB (halfR a i k)).length := List.length_set
          generalize a[i] = xx at *
          generalize a[k] = yy at *
          generalize hR : encB (halfR a i k) = R at *
          repeat' first
            | refine GoH ?_
            | (with_reducible first | apply ZS | apply ZT)
            | refine ZB (ev_lss_t rfl rfl (by omega)) ?_
            | refine ZX rfl rfl ?_
            | refine ZY (ev_idx_own k rfl rfl rfl look_hd (by omega) (by omega)) (by (repeat' first|exact True.intro|refine ⟨?_, ?_⟩|exact .inl rfl|exact .inr (.inl rfl)|exact .inr (.inr rfl)|rfl)) ?_
            | refine ZY (ev_idx_own i rfl rfl rfl look_hd (by omega) (by omega)) (by (repeat' first|exact True.intro|refine ⟨?_, ?_⟩|exact .inl rfl|exact .inr (.inl rfl)|exact .inr (.inr rfl)|rfl)) ?_
            | refine ZY (ev_load_own rfl look_hd (by omega) gy rfl) (by (repeat' first|exact True.intro|refine ⟨?_, ?_⟩|exact .inl rfl|exact .inr (.inl rfl)|exact .inr (.inr rfl)|rfl)) ?_
            | refine ZY (ev_load_own rfl look_hd (by omega) gx rfl) (by (repeat' first|exact True.intro|refine ⟨?_, ?_⟩|exact .inl rfl|exact .inr (.inl rfl)|exact .inr (.inr rfl)|rfl)) ?_
            | refine ZZ (Z0 (ev_store_own rfl rfl rfl rfl rfl look_hd (by omega) gx rfl put_hd) ⟨rfl, rfl⟩) (by (repeat' first|exact True.intro|refine ⟨?_, ?_⟩|exact .inl rfl|exact .inr (.inl rfl)|exact .inr (.inr rfl)|rfl)) ?_
            | refine ZZ (Z0 (ev_store_own rfl rfl rfl rfl rfl look_hd (by omega) gy2 rfl put_hd) ⟨rfl, rfl⟩) (by (repeat' first|exact True.intro|refine ⟨?_, ?_⟩|exact .inl rfl|exact .inr (.inl rfl)|exact .inr (.inr rfl)|rfl)) ?_
            | refine ZB (ev_add rfl rfl (by omega) (by omega)) ?_
            | refine ZB (ev_sub rfl rfl (by omega) (by omega)) ?_
            | refine ZB rfl ?_|refine ZC rfl ?_
          exact hK _ (weak_keep [4, 6, 7] rfl ⟨i + 1, k - 1, by omega, by omega, by omega, by rw [← hset, show ((k - 1 : Nat) : Int) = (k : Int) - 1 by omega, show ((i + 1 : Nat) : Int) = (i : Int) + 1 by omega]; rfl⟩)
        · have hend := halfR_end hik (by omega) hle
          rw [hend] at *
          have hres : digits n = a.reverse := by unfold digits; rw [ha]
          have hlen : (encB a).length = (encB a.reverse).length := by rw [encB_length, encB_length, List.length_reverse]
          rw [hres, hlen]
          repeat' first | refine GoH ?_ | refine ZB (ev_lss_f rfl rfl (by omega)) ?_ | refine ZB rfl ?_|refine ZC rfl ?_
          have e : look [(0, Ob.row 1 (encB a.reverse))] 0 = some (.row 1 (encB a.reverse)) := rfl
          refine ⟨_, rfl, ?_⟩
          show V.toDVt ⟨1, [(0, .row 1 (encB a.reverse))]⟩ (.tup [.c (.own 0 (encB a.reverse).length), .c (.d (.int .i64 0))]) = _
          simp [V.toDVt, toDVs, V.toDV, C.toD, e]
theorem pok309 (m : Int) : PureOk Go.Proofs.Tryd.prog (glbS m) 23 T309 := .inl (fam_ok (fn309 m) (callOk_nil _ _) w309)
end Go.Am
