/-
  The laws of shapes.
-/
import Derived.Test.YtgbefhljbdjncaaDoorProg
import Derived.Shelf.Strings.OnBuilder
import Derived.Test.YtgbefhljbdjncaaDoorMI
import Derived.Test.YtgbefhljbdjncaaDoorMG
import Derived.Test.YtgbefhljbdjncaaDoorMD
namespace Go.Proofs
open Go.Shelf
def Tryd.lays156_ren : Go.Shelf.Ren := ⟨fun | 156 => 59 | 165 => 75 | 166 => 76 | 169 => 77 | 240 => 88 | 241 => 89 | 276 => 105 | 277 => 106 | n => n, fun | 31 => 24 | 9 => 9 | 3 => 3 | 4 => 4 | 0 => 0 | 20 => 20 | 72 => 113 | 76 => 117 | 70 => 111 | 37 => 63 | 75 => 116 | 127 => 134 | 164 => 145 | 5 => 5 | 80 => 119 | n => n, fun | n => n⟩
theorem Tryd.lays156 : Go.Proofs.Lays.n156 Tryd.prog Tryd.lays156_ren := {
  mixed := by kernel_rfl
  f156 := Tryd.func59.trans (congrArg some (by kernel_rfl))
  f165 := Tryd.func75.trans (congrArg some (by kernel_rfl))
  f166 := Tryd.func76.trans (congrArg some (by kernel_rfl))
  f169 := Tryd.func77.trans (congrArg some (by kernel_rfl))
  f240 := Tryd.func88.trans (congrArg some (by kernel_rfl))
  f241 := Tryd.func89.trans (congrArg some (by kernel_rfl))
  f276 := Tryd.func105.trans (congrArg some (by kernel_rfl))
  f277 := Tryd.func106.trans (congrArg some (by kernel_rfl))
  t0 := Tryd.underlying0
  a0 := Tryd.isAgg0
  z0 := Tryd.sizeOf0
  v0 := Tryd.zeroValue0
  t3 := Tryd.underlying3
  a3 := Tryd.isAgg3
  z3 := Tryd.sizeOf3
  v3 := Tryd.zeroValue3
  t4 := Tryd.underlying4
  a4 := Tryd.isAgg4
  z4 := Tryd.sizeOf4
  v4 := Tryd.zeroValue4
  t9 := Tryd.underlying9
  a9 := Tryd.isAgg9
  z9 := Tryd.sizeOf9
  v9 := Tryd.zeroValue9
  t20 := Tryd.underlying20
  a20 := Tryd.isAgg20
  z20 := Tryd.sizeOf20
  v20 := Tryd.zeroValue20
  t31 := Tryd.underlying24
  a31 := Tryd.isAgg24
  z31 := Tryd.sizeOf24
  v31 := Tryd.zeroValue24
  t37 := Tryd.underlying63
  a37 := Tryd.isAgg63
  z37 := Tryd.sizeOf63
  v37 := Tryd.zeroValue63
  t70 := Tryd.underlying111
  a70 := Tryd.isAgg111
  z70 := Tryd.sizeOf111
  v70 := Tryd.zeroValue111
  t72 := Tryd.underlying113
  a72 := Tryd.isAgg113
  z72 := Tryd.sizeOf113
  v72 := Tryd.zeroValue113
  t75 := Tryd.underlying116
  a75 := Tryd.isAgg116
  z75 := Tryd.sizeOf116
  v75 := Tryd.zeroValue116
  t76 := Tryd.underlying117
  a76 := Tryd.isAgg117
  z76 := Tryd.sizeOf117
  v76 := Tryd.zeroValue117
  t127 := Tryd.underlying134
  a127 := Tryd.isAgg134
  z127 := Tryd.sizeOf134
  v127 := Tryd.zeroValue134
  t164 := Tryd.underlying145
  a164 := Tryd.isAgg145
  z164 := Tryd.sizeOf145
  v164 := Tryd.zeroValue145 }
theorem Tryd.extra156 : Builder.Extra Tryd.prog Tryd.lays156_ren :=
  ⟨⟨by kernel_rfl, by kernel_rfl⟩, Tryd.underlying5, Tryd.isAgg5, Tryd.sizeOf5, Tryd.zeroValue5, by kernel_rfl, by kernel_rfl, by kernel_rfl, by decide⟩
end Go.Proofs
namespace Go.Am
open Go
theorem ev_min {cl : Call} {e : Env} {h : Hp} {x y : Opd} {k k' : IntKind} {a b : Int} (hx : ev e x = .c (.d (.int k a))) (hy : ev e y = .c (.d (.int k' b))) : eval cl e h (.min x y) = some (.c (.d (.int k (if b < a then b else a))), h) := by
  simp only [eval, hx, hy]
theorem ev_adds {cl : Call} {e : Env} {h : Hp} {x y : Opd} {s t : List UInt8} (hx : ev e x = .c (.d (.str s))) (hy : ev e y = .c (.d (.str t))) (hl : s.length + t.length ≤ 9223372036854775807) : eval cl e h (.bin .add x y) = some (.c (.d (.str (s ++ t))), h) := by
  simp only [eval, hx, hy, binV, binD, binStr, if_pos hl]
def joinOf (ss : List (List UInt8)) (sep : List UInt8) : List UInt8 := Lib.join ss sep
def joinOk (ss : List (List UInt8)) (sep : List UInt8) : Bool := decide (ss.length ≤ room) && decide ((joinOf ss sep).length ≤ room)
def textOf (v : SV) : List UInt8 := (if v.left then [95] else []) ++ joinOf v.parts [95] ++ (if v.right then [95] else [])
end Go.Am
namespace Go.Am
open Go
/-! ### Plain laws: texts of shapes -/
theorem join_cons2 (x y : List UInt8) (r : List (List UInt8)) : joinOf (x :: y :: r) [95] = x ++ 95 :: joinOf (y :: r) [95] := by
  simp [joinOf, Lib.join, List.intercalate, List.intersperse]
theorem join_single (x : List UInt8) : joinOf [x] [95] = x := by
  simp [joinOf, Lib.join, List.intercalate, List.intersperse]
theorem join_cut : ∀ s : List UInt8, joinOf (cutU 95 s) [95] = s
  | [] => by simp [cutU, join_single]
  | b :: r => by
    have ih := join_cut r
    unfold cutU
    by_cases h : b = 95
    · rw [if_pos h]
      cases hr : cutU 95 r with
      | nil => exact absurd hr (cutU_ne _ _)
      | cons x y =>
        rw [hr] at ih
        rw [join_cons2, ih, h]
        rfl
    · rw [if_neg h]
      cases hr : cutU 95 r with
      | nil => exact absurd hr (cutU_ne _ _)
      | cons x y =>
        rw [hr] at ih
        simp only
        cases y with
        | nil => rw [join_single] at ih ⊢; rw [ih]
        | cons z w => rw [join_cons2] at ih ⊢; rw [List.cons_append, ih]
theorem join_app : ∀ (q : List (List UInt8)), q ≠ [] → joinOf (q ++ [[]]) [95] = joinOf q [95] ++ [95]
  | [], h => (h rfl).elim
  | [x], _ => by rw [List.singleton_append, join_cons2, join_single, join_single]
  | x :: y :: r, _ => by
    have ih := join_app (y :: r) (by simp)
    rw [List.cons_append, List.cons_append, join_cons2, join_cons2]
    rw [List.cons_append] at ih
    rw [ih]
    simp
theorem text_trim {s : List UInt8} (h : (trim (cutU 95 s)).parts ≠ []) : textOf (trim (cutU 95 s)) = s := by
  have hj := join_cut s
  generalize hP : cutU 95 s = P at *
  cases P with
  | nil => exact absurd hP (cutU_ne _ _)
  | cons p0 rest =>
    unfold trim at h ⊢
    simp only at h ⊢
    have hL : (stripL (p0 :: rest)).2 ≠ [] → s = (if (stripL (p0 :: rest)).1 then [95] else []) ++ joinOf (stripL (p0 :: rest)).2 [95] := by
      intro hne
      rw [stripL_cons] at hne ⊢
      by_cases h0 : p0 = []
      · rw [if_pos h0] at hne ⊢
        simp only at hne ⊢
        cases rest with
        | nil => exact absurd rfl hne
        | cons y r => rw [h0, join_cons2] at hj; rw [← hj]; rfl
      · rw [if_neg h0]
        simp only
        rw [hj]
        rfl
    unfold textOf
    simp only
    rcases stripR_cases (stripL (p0 :: rest)).2 with ⟨q, hq1, hq2⟩ | hq
    · rw [hq2] at h ⊢
      simp only at h ⊢
      rw [hL (by rw [hq1]; simp), hq1, join_app q h]
      simp
    · rw [hq] at h ⊢
      simp only at h ⊢
      rw [hL h]
      simp
theorem shape_text {part : List UInt8 → Bool} {s : List UInt8} {v : SV} (h : shapeOf part s = some v) : textOf v = s := by
  obtain ⟨h1, h2, h3⟩ := shapeOf_some h
  rw [← h2]
  refine text_trim ?_
  rw [h2]
  obtain ⟨p, l, r⟩ := v
  obtain ⟨m1, _⟩ := mayS_inv h3
  intro e
  simp only at e
  rw [e] at m1
  simp at m1
theorem trim_sub {P : List (List UInt8)} {q : List UInt8} (h : q ∈ (trim P).parts) : q ∈ P := by
  have h1 : q ∈ (stripL P).2 := by
    unfold trim at h
    simp only at h
    rcases stripR_cases (stripL P).2 with ⟨w, h1, h2⟩ | h1
    · rw [h2] at h; rw [h1]; simp only at h; simp [h]
    · rw [h1] at h; exact h
  cases P with
  | nil => exact h1
  | cons p0 rest =>
    rw [stripL_cons] at h1
    by_cases h0 : p0 = []
    · rw [if_pos h0] at h1; simp only at h1; simp [h1]
    · rw [if_neg h0] at h1; exact h1
theorem text_len (v : SV) : (joinOf v.parts [95]).length ≤ (textOf v).length := by
  unfold textOf
  simp only [List.length_append]
  omega
theorem partV_inv {G : List DV → Option DV} (hG : KB R37 G) {s : List UInt8} (hr : s.length ≤ room) (h : partV G s = true) : ∃ kind a b code : Int, G [.c (.list 1 (encB s))] = some (.c (.list 5 [[.int .i64 kind, .int .i64 a, .int .i64 b, .str s, .int .i64 code]])) ∧ (kind = 1 ∨ kind = 2 ∨ kind = 6) ∧ Lib.indexByte s 95 < 0 := by
  obtain ⟨r, h1, l, rfl, htok, _, _⟩ := hG 1 s (.inl rfl) hr
  match l, htok with
  | [], _ => simp only [partV, h1] at h; cases h
  | x :: y :: l', _ => simp only [partV, h1] at h; cases h
  | [x], htok =>
    obtain ⟨kind, a, b, code, text, rfl⟩ := htok x (by simp)
    rw [partV_one h1] at h
    simp only [Bool.and_eq_true, Bool.or_eq_true, beq_iff_eq, Bool.not_eq_true', decide_eq_false_iff_not] at h
    obtain ⟨⟨⟨e, hi⟩, hk⟩, _⟩ := h
    subst e
    exact ⟨kind, a, b, code, h1, by rcases hk with (h | h) | h <;> simp [h], by omega⟩

/-! ### which operators may be -/
def mayOf (part : List UInt8 → Bool) (pat : List UInt8) (g a : Int) : Int := match shapeOf part pat with
  | none => 23
  | some v => if g < 1 ∨ 10 ≤ g then 21 else if a = 0 ∨ (a = 1 ∧ v.left = true) ∨ (a = 2 ∧ v.right = true) then 0 else 24
end Go.Am
namespace Go.Am
open Go
theorem cutU_none : ∀ s : List UInt8, (∀ b ∈ s, b ≠ 95) → cutU 95 s = [s]
  | [], _ => rfl
  | b :: r, h => by
    have ih := cutU_none r (fun b hb => h b (by simp [hb]))
    simp only [cutU]
    rw [if_neg (h b (by simp)), ih]
theorem cutU_sep : ∀ (x t : List UInt8), (∀ b ∈ x, b ≠ 95) → cutU 95 (x ++ 95 :: t) = x :: cutU 95 t
  | [], t, _ => by simp [cutU]
  | b :: r, t, h => by
    have ih := cutU_sep r t (fun b hb => h b (by simp [hb]))
    simp only [List.cons_append, cutU]
    rw [if_neg (h b (by simp)), ih]
theorem cutU_join : ∀ ss : List (List UInt8), ss ≠ [] → (∀ s ∈ ss, ∀ b ∈ s, b ≠ 95) → cutU 95 (joinOf ss [95]) = ss
  | [], h, _ => (h rfl).elim
  | [x], _, h => by rw [join_single, cutU_none x (h x (by simp))]
  | x :: y :: r, _, h => by
    rw [join_cons2, cutU_sep x _ (h x (by simp)), cutU_join (y :: r) (by simp) (fun s hs => h s (by simp at hs ⊢; exact .inr hs))]
theorem cut_text {ss : List (List UInt8)} {l r : Bool} (hne : ss ≠ []) (h : ∀ s ∈ ss, s ≠ [] ∧ ∀ b ∈ s, b ≠ 95) : trim (cutU 95 (textOf ⟨ss, l, r⟩)) = ⟨ss, l, r⟩ := by
  have hj := cutU_join ss hne (fun s hs => (h s hs).2)
  have e1 : cutU 95 (joinOf ss [95] ++ (if r = true then [95] else [])) = ss ++ (if r = true then [[]] else []) := by
    cases r
    · simp [hj]
    · simp only [if_true]
      rw [cutU_app, hj]
  have e2 : cutU 95 (textOf ⟨ss, l, r⟩) = (if l = true then [[]] else []) ++ (ss ++ (if r = true then [[]] else [])) := by
    unfold textOf
    simp only [List.append_assoc]
    cases l
    · simp only [Bool.false_eq_true, if_false, List.nil_append]
      exact e1
    · simp only [if_true, List.singleton_append, cutU]
      rw [e1]
  rw [e2]
  have hL : stripL ((if l = true then [[]] else []) ++ (ss ++ (if r = true then [[]] else []))) = (l, ss ++ (if r = true then [[]] else [])) := by
    cases l
    · simp only [Bool.false_eq_true, if_false, List.nil_append]
      cases ss with
      | nil => exact (hne rfl).elim
      | cons x y =>
        rw [List.cons_append, stripL_cons, if_neg (h x (by simp)).1]
    · rfl
  have hR : stripR (ss ++ (if r = true then [[]] else [])) = (r, ss) := by
    cases r
    · simp only [Bool.false_eq_true, if_false, List.append_nil]
      rcases List.eq_nil_or_concat ss with rfl | ⟨q, last, rfl⟩
      · exact (hne rfl).elim
      · rw [List.concat_eq_append, stripR_app, if_neg (h last (by simp)).1]
    · simp only [if_true]
      rw [stripR_app]
      rfl
  unfold trim
  rw [hL]
  simp only [hR]
end Go.Am
namespace Go.Am
open Go
/-- What stands behind the first n parts of a code. -/
def ACode.tail : Nat → ACode → ACode
  | 0, c => c
  | n + 1, .seq _ b => b.tail n
  | _ + 1, c => c
section
variable {cl : Call} {e : Env} {h : Hp} {nx : Nat} {ob ob' : List (Nat × Ob)} {x y : Opd}
/-- An element of an owned row. -/
theorem ev_idx_own {k : IntKind} {z n sz : Nat} {v : Int} (i : Nat) {l : List (List D)} (hx : ev e x = .c (.own z n)) (hy : ev e y = .c (.d (.int k v))) (hv : v = (i : Int)) (hl : look h.obs z = some (.row sz l)) (hn : n = l.length) (hi : i < l.length) : eval cl e h (.idxAddr sz x y) = some (.c (.rptr z n i 0), h) := by
  subst hv
  have h1 : True ∧ n = l.length ∧ (0 : Int) ≤ (i : Int) ∧ (i : Int) < (n : Int) := ⟨trivial, hn, by omega, by omega⟩
  simp only [eval, hy, asInt, hx, hl, if_pos h1, Int.toNat_natCast]
theorem ev_load_own {z m i off n : Nat} {sz : Nat} {agg : Bool} {l : List (List D)} {el : List D} {v : V} (hx : ev e x = .c (.rptr z m i off)) (hl : look ob z = some (.row sz l)) (hm : m = l.length) (hg : l[i]? = some el) (hv : mkV agg (mapD (sub el off n)) = some v) : eval cl e ⟨nx, ob⟩ (.load x n agg) = some (v, ⟨nx, ob⟩) := by
  simp only [eval, hx, hl, if_pos hm, hg, hv]
theorem ev_store_own {z m i off n sz : Nat} {l : List (List D)} {el el' ds : List D} {vs : List C} (hv : (ev e y).cells = some vs) (hn : vs.length = n) (hx : ev e x = .c (.rptr z m i off)) (hd : toDs ⟨nx, ob⟩ vs = some ds) (hs : shedCs ob vs = ob) (hl : look ob z = some (.row sz l)) (hm : m = l.length) (hg : l[i]? = some el) (hsp : splice el off ds = some el') (hp : put ob z (.row sz (l.set i el')) = some ob') : eval cl e ⟨nx, ob⟩ (.store x y n) = some (.tup [], ⟨nx, ob'⟩) := by
  simp only [eval, hv, if_pos hn, hx, hd, hs, hl, if_pos hm, hg, hsp, hp]
theorem ev_len_own {z n sz : Nat} {l : List (List D)} (hx : ev e x = .c (.own z n)) (hl : look h.obs z = some (.row sz l)) (hn : n = l.length) : eval cl e h (.len x) = some (.c (.d (.int .i64 (n : Nat))), h) := by
  subst hn
  simp only [eval, hx, C.lst, toD_own hl rfl]
/-- A slice of data. -/
theorem ev_slice_d {lo hi : Option Opd} {sz sz' : Nat} {l l' : List (List D)} {a b : Int} (hx : ev e x = .c (.d (.list sz' l))) (hs : sz' = sz ∨ l = []) (hl : loOf e lo = some a) (hh : hiOf e l.length hi = some b) (h0 : 0 ≤ a) (h1 : a ≤ b) (h2 : b ≤ l.length) (hr : (l.take b.toNat).drop a.toNat = l') :
    eval cl e h (.slice sz x lo hi none) = some (.c (.d (.list sz l')), h) := by
  obtain ⟨nx, ob⟩ := h
  have hs' : sized sz' sz l = true := by
    rcases hs with rfl | rfl
    · simp [sized]
    · simp [sized]
  simp only [eval, hx, C.lst, C.toD, hs', bounds_of hl hh h0 h1 h2, hr]
  rfl
/-- A slice of an owned row: it goes out of hand. -/
theorem ev_slice_o {lo hi : Option Opd} {z n sz : Nat} {l l' : List (List D)} {a b : Int} (hx : ev e x = .c (.own z n)) (hl : look ob z = some (.row sz l)) (hn : n = l.length) (hlo : loOf e lo = some a) (hh : hiOf e l.length hi = some b) (h0 : 0 ≤ a) (h1 : a ≤ b) (h2 : b ≤ l.length) (hr : (l.take b.toNat).drop a.toNat = l') (hd : del ob z = ob') :
    eval cl e ⟨nx, ob⟩ (.slice sz x lo hi none) = some (.c (.d (.list sz l')), ⟨nx, ob'⟩) := by
  rw [ev_slice_own hx hl hn (bounds_of hlo hh h0 h1 h2), hr, ← hd]
  rfl
/-- Data put behind an owned row. -/
theorem ev_app_d {z n n' sz sz' : Nat} {l l' ys : List (List D)} (hx : ev e x = .c (.own z n)) (hy : ev e y = .c (.d (.list sz' ys))) (hz : sz' = sz ∨ ys = []) (hl : look ob z = some (.row sz l)) (hn : n = l.length) (hr : l.length + ys.length ≤ room) (hl' : l ++ ys = l') (hn' : l'.length = n') (hp : put ob z (.row sz l') = some ob') :
    eval cl e ⟨nx, ob⟩ (.append x y sz) = some (.c (.own z n'), ⟨nx, ob'⟩) := by
  subst hl'
  have h1 : sized sz' sz ys = true := by
    rcases hz with rfl | rfl
    · simp [sized]
    · simp [sized]
  have h2 : True ∧ n = l.length ∧ l.length + ys.length ≤ room := ⟨trivial, hn, hr⟩
  simp only [eval, hy, C.lst, C.toD, h1, hx, hl]
  rw [if_pos h2, hp, hn']
/-- The place of an element of an array. -/
theorem ev_arrv {k : IntKind} {z o sz len : Nat} {v : Int} (i : Nat) (hx : ev e x = .c (.ptr z o)) (hy : ev e y = .c (.d (.int k v))) (hv : v = (i : Int)) (hi : i < len) : eval cl e h (.arrAddr x y sz len) = some (.c (.ptr z (o + i * sz)), h) := by
  subst hv
  have h1 : (0 : Int) ≤ (i : Int) ∧ (i : Int) < ((len : Nat) : Int) := by omega
  simp only [eval, hy, asInt, if_pos h1, hx, Int.toNat_natCast]
theorem ev_remT {a b : Int} (hx : ev e x = .c (.d (.int .i64 a))) (hy : ev e y = .c (.d (.int .i64 b))) (hb : b ≠ 0) : eval cl e h (.bin .rem x y) = some (.c (.d (.int .i64 (a.tmod b))), h) := by
  simp [eval, hx, hy, binV, binD, isShift, binInt, hb]
theorem ev_remN {a b : Int} (hx : ev e x = .c (.d (.int .i64 a))) (hy : ev e y = .c (.d (.int .i64 b))) (h0 : 0 ≤ a) (hb : b ≠ 0) : eval cl e h (.bin .rem x y) = some (.c (.d (.int .i64 (a % b))), h) := by
  rw [ev_remT hx hy hb, Int.tmod_eq_emod_of_nonneg h0]
/-- One byte of a text. -/
theorem ev_sub1 {s : List UInt8} {c : UInt8} {i : Nat} {a b : Int} {lo hi : Opd} (hx : ev e x = .c (.d (.str s))) (hlo : ev e lo = .c (.d (.int .i64 a))) (hhi : ev e hi = .c (.d (.int .i64 b))) (ha : a = (i : Int)) (hb : b = (i : Int) + 1) (hc : s[i]? = some c) : eval cl e h (.substr x (some lo) (some hi)) = some (.c (.d (.str [c])), h) := by
  have hlt := (List.getElem?_eq_some_iff.1 hc).1
  rw [ev_sub_s hx (show loOf e (some lo) = some a by show asInt (ev e lo) = _; rw [hlo]; rfl) (show hiOf e s.length (some hi) = some b by show asInt (ev e hi) = _; rw [hhi]; rfl) (by omega) (by omega) (by omega)]
  have e1 : b.toNat = i + 1 := by omega
  have e2 : a.toNat = i := by omega
  rw [e1, e2, List.take_add_one, hc, List.drop_append_of_le_length (by rw [List.length_take]; omega), List.drop_take]
  simp
end
theorem tmod_bd (a : Int) {b : Int} (hb : 0 < b) : -b < a.tmod b ∧ a.tmod b < b := by
  rcases Int.le_total 0 a with h | h
  · rw [Int.tmod_eq_emod_of_nonneg h]
    have h1 := Int.emod_nonneg a (show b ≠ 0 by omega)
    have h2 := Int.emod_lt_of_pos a hb
    omega
  · obtain ⟨c, rfl⟩ : ∃ c, a = -c := ⟨-a, by omega⟩
    rw [Int.neg_tmod, Int.tmod_eq_emod_of_nonneg (by omega)]
    have h1 := Int.emod_nonneg c (show b ≠ 0 by omega)
    have h2 := Int.emod_lt_of_pos c hb
    omega
theorem tmod9 (a : Int) : (a.tmod 9 + 9) % 9 = a % 9 := by
  have := Int.tmod_def a 9
  omega
theorem tmod3 (a : Int) : (a.tmod 3 + 3) % 3 = a % 3 := by
  have := Int.tmod_def a 3
  omega
theorem toDVt_own1 {h : Hp} {x n sz : Nat} {l : List (List D)} (hl : look h.obs x = some (.row sz l)) (hn : n = l.length) : V.toDVt h (.c (.own x n)) = some (.c (.list sz l)) := by
  simp [V.toDVt, V.toDV, C.toD, hl, hn]
/-! ### operators -/
structure Op3 where
  pat : List UInt8
  g : Int
  a : Int
def opD (o : Op3) : List D := [.str o.pat, .int .i64 o.g, .int .i64 o.a]
theorem opD_inj {a b : Op3} (h : opD a = opD b) : a = b := by
  cases a
  cases b
  simp only [opD, List.cons.injEq, D.str.injEq, D.int.injEq, true_and, and_true] at h
  obtain ⟨rfl, rfl, rfl⟩ := h
  rfl
theorem map_inj {α β : Type} {f : α → β} (hf : ∀ a b, f a = f b → a = b) : ∀ {l l' : List α}, l.map f = l'.map f → l = l'
  | [], [], _ => rfl
  | [], b :: r, h => by cases h
  | a :: r, [], h => by cases h
  | a :: r, b :: q, h => by
    simp only [List.map_cons, List.cons.injEq] at h
    rw [hf a b h.1, map_inj hf h.2]
theorem ops_inj {l l' : List Op3} (h : l.map opD = l'.map opD) : l = l' := map_inj (fun _ _ => opD_inj) h
end Go.Am
namespace Go.Am
open Go
/-! ### plain rows -/
def startF (g : Nat) : Nat := if 1 ≤ g ∧ g ≤ 5 then 2 ^ g - 2 else 0
def edgeF (f : Nat → Nat) (g h : Nat) (x : Nat) : Nat := if x = g ∨ (f x).testBit g = true then f x ||| f h ||| 2 ^ h else f x
/-- Rows that may be: ten numbers of ten bits, of which none is tighter than itself, and what is tighter than a tighter one is tighter. -/
structure RowsOk (f : Nat → Nat) : Prop where
  lt : ∀ x, f x < 1024
  irr : ∀ x, (f x).testBit x = false
  trans : ∀ x y z, (f x).testBit y = true → (f y).testBit z = true → (f x).testBit z = true
theorem startF_bit : ∀ x y : Nat, (startF x).testBit y = decide (1 ≤ x ∧ x ≤ 5 ∧ 1 ≤ y ∧ y < x) := by
  intro x y
  by_cases hx : 1 ≤ x ∧ x ≤ 5
  · by_cases hy : y < 10
    · have : ∀ x < 6, ∀ y < 10, (startF x).testBit y = decide (1 ≤ x ∧ x ≤ 5 ∧ 1 ≤ y ∧ y < x) := by decide +kernel
      exact this x (by omega) y hy
    · have hl : startF x < 2 ^ y := by
        have h1 : startF x < 2 ^ 10 := by
          have : ∀ x < 6, startF x < 2 ^ 10 := by decide +kernel
          exact this x (by omega)
        exact Nat.lt_of_lt_of_le h1 (Nat.pow_le_pow_right (by omega) (by omega))
      rw [Nat.testBit_lt_two_pow hl]
      simp
      omega
  · unfold startF
    rw [if_neg hx, Nat.zero_testBit]
    simp
    omega
theorem start_ok : RowsOk startF := by
  refine ⟨fun x => ?_, fun x => ?_, fun x y z h1 h2 => ?_⟩
  · unfold startF
    split
    · rename_i h
      have : ∀ x < 6, 2 ^ x - 2 < 1024 := by decide +kernel
      exact this x (by omega)
    · omega
  · rw [startF_bit]; simp
  · rw [startF_bit] at *
    simp only [decide_eq_true_eq] at *
    omega
theorem edgeF_bit (f : Nat → Nat) (g h x y : Nat) : (edgeF f g h x).testBit y = ((f x).testBit y || ((decide (x = g) || (f x).testBit g) && ((f h).testBit y || decide (h = y)))) := by
  unfold edgeF
  by_cases hc : x = g ∨ (f x).testBit g = true
  · rw [if_pos hc, Nat.testBit_or, Nat.testBit_or, Nat.testBit_two_pow]
    have : (decide (x = g) || (f x).testBit g) = true := by simpa using hc
    rw [this]
    simp [Bool.or_assoc]
  · rw [if_neg hc]
    have : (decide (x = g) || (f x).testBit g) = false := by
      rw [Bool.eq_false_iff]
      intro h
      exact hc (by simpa using h)
    rw [this]
    simp
theorem edge_ok {f : Nat → Nat} (hf : RowsOk f) {g h : Nat} (hh : h < 10) (hne : g ≠ h) (hno : (f h).testBit g = false) : RowsOk (edgeF f g h) := by
  refine ⟨fun x => ?_, fun x => ?_, fun x y z h1 h2 => ?_⟩
  · unfold edgeF
    split
    · exact Nat.or_lt_two_pow (n := 10) (Nat.or_lt_two_pow (n := 10) (hf.lt x) (hf.lt h)) (Nat.pow_lt_pow_right (by omega) hh)
    · exact hf.lt x
  · rw [edgeF_bit, hf.irr x]
    rw [Bool.eq_false_iff]
    intro hc
    simp only [Bool.false_or, Bool.and_eq_true, Bool.or_eq_true, decide_eq_true_eq] at hc
    obtain ⟨h1 | h1, h2 | h2⟩ := hc
    · subst h1; rw [hno] at h2; cases h2
    · exact hne (h1.symm.trans h2.symm)
    · rw [hf.trans h x g h2 h1] at hno; cases hno
    · subst h2; rw [h1] at hno; cases hno
  · rw [edgeF_bit] at *
    simp only [Bool.and_eq_true, Bool.or_eq_true, decide_eq_true_eq] at *
    rcases h1 with h1 | ⟨h1, h3⟩
    · rcases h2 with h2 | ⟨h2, h4⟩
      · exact .inl (hf.trans x y z h1 h2)
      · refine .inr ⟨.inr ?_, h4⟩
        rcases h2 with rfl | h2
        · exact h1
        · exact hf.trans x y g h1 h2
    · rcases h2 with h2 | ⟨h2, h4⟩
      · refine .inr ⟨h1, .inl ?_⟩
        rcases h3 with h3 | rfl
        · exact hf.trans h y z h3 h2
        · exact h2
      · exfalso
        have : (f h).testBit g = true := by
          rcases h3 with h3 | rfl
          · rcases h2 with rfl | h2
            · exact h3
            · exact hf.trans h y g h3 h2
          · rcases h2 with rfl | h2
            · exact (hne rfl).elim
            · exact h2
        rw [hno] at this
        cases this
/-! ### rows as data -/
def rowsD (f : Nat → Int) : List D := [.int .i64 (f 0), .int .i64 (f 1), .int .i64 (f 2), .int .i64 (f 3), .int .i64 (f 4), .int .i64 (f 5), .int .i64 (f 6), .int .i64 (f 7), .int .i64 (f 8), .int .i64 (f 9)]
def rowsC (f : Nat → Int) : List C := (rowsD f).map .d
theorem ten {i : Nat} (h : i < 10) : i = 0 ∨ i = 1 ∨ i = 2 ∨ i = 3 ∨ i = 4 ∨ i = 5 ∨ i = 6 ∨ i = 7 ∨ i = 8 ∨ i = 9 := by omega
theorem rows_at (f : Nat → Int) {i : Nat} (h : i < 10) : sub (rowsC f) (i * 1) 1 = some [.d (.int .i64 (f i))] := by
  rcases ten h with rfl | rfl | rfl | rfl | rfl | rfl | rfl | rfl | rfl | rfl <;> rfl
theorem rows_ld (f : Nat → Int) {i : Nat} (h : i < 10) : mkV false (sub (rowsC f) (0 + i * 1) 1) = some (.c (.d (.int .i64 (f i)))) := by
  rw [Nat.zero_add, rows_at f h]
  rfl
theorem rows_ld1 (f : Nat → Int) {c : C} {i : Nat} (h : i < 10) : mkV false (sub (c :: rowsC f) (0 + 1 + i * 1) 1) = some (.c (.d (.int .i64 (f i)))) := by
  rw [show 0 + 1 + i * 1 = i * 1 + 1 by omega]
  show mkV false (sub (rowsC f) (i * 1) 1) = _
  rw [rows_at f h]
  rfl
def setI (f : Nat → Int) (i : Nat) (v : Int) (x : Nat) : Int := if x = i then v else f x
theorem rows_set (f : Nat → Int) {i : Nat} (v : Int) (h : i < 10) : splice (rowsC f) (0 + i * 1) [.d (.int .i64 v)] = some (rowsC (setI f i v)) := by
  rcases ten h with rfl | rfl | rfl | rfl | rfl | rfl | rfl | rfl | rfl | rfl <;> rfl
theorem rowsD_eq {f f' : Nat → Int} (h : ∀ x, x < 10 → f x = f' x) : rowsD f = rowsD f' := by
  unfold rowsD
  rw [h 0 (by omega), h 1 (by omega), h 2 (by omega), h 3 (by omega), h 4 (by omega), h 5 (by omega), h 6 (by omega), h 7 (by omega), h 8 (by omega), h 9 (by omega)]
theorem rowsC_eq {f f' : Nat → Int} (h : ∀ x, x < 10 → f x = f' x) : rowsC f = rowsC f' := by
  unfold rowsC
  rw [rowsD_eq h]
theorem rowsD_inj {f f' : Nat → Int} (h : rowsD f = rowsD f') : ∀ x, x < 10 → f x = f' x := by
  intro x hx
  simp only [rowsD, List.cons.injEq, D.int.injEq, true_and, and_true] at h
  rcases ten hx with rfl | rfl | rfl | rfl | rfl | rfl | rfl | rfl | rfl | rfl <;> omega
/-! ### operations upon bits -/
def bitI (x : Int) (h : Nat) : Bool := decide (x.fdiv (2 ^ h) % 2 = 1)
theorem bitI_nat (a h : Nat) : bitI (a : Int) h = a.testBit h := by
  unfold bitI
  rw [Nat.testBit_eq_decide_div_mod_eq, decide_eq_decide, Int.fdiv_eq_ediv_of_nonneg _ (Int.pow_nonneg (by omega))]
  have : ((2 : Int) ^ h) = ((2 ^ h : Nat) : Int) := by simp
  rw [this]
  omega
theorem bv_nat {a : Nat} (ha : a < 18446744073709551616) : (BitVec.ofInt 64 (a : Int)).toNat = a := by
  rw [BitVec.ofInt_natCast, BitVec.toNat_ofNat]
  exact Nat.mod_eq_of_lt ha
theorem or_int {a b : Nat} (ha : a < 1024) (hb : b < 1024) : binInt .or .i64 (a : Int) (b : Int) = some (.int .i64 ((a ||| b : Nat) : Int)) := by
  have hl : a ||| b < 1024 := Nat.or_lt_two_pow (n := 10) ha hb
  show some (D.int .i64 (IntKind.wrap .i64 (((BitVec.ofInt 64 (a : Int) ||| BitVec.ofInt 64 (b : Int)).toNat : Nat) : Int))) = _
  rw [BitVec.toNat_or, bv_nat (show a < 18446744073709551616 by omega), bv_nat (show b < 18446744073709551616 by omega), wrap64 (by omega) (by omega)]
theorem and1_int (a : Int) : binInt .and .i64 a 1 = some (.int .i64 (a % 2)) := by
  have h1 : (BitVec.ofInt 64 (1 : Int)).toNat = 1 := by decide
  show some (D.int .i64 (IntKind.wrap .i64 (((BitVec.ofInt 64 a &&& BitVec.ofInt 64 (1 : Int)).toNat : Nat) : Int))) = _
  rw [BitVec.toNat_and, h1, Nat.and_one_is_mod, BitVec.toNat_ofInt]
  have e : (((a % ((2 ^ 64 : Nat) : Int)).toNat % 2 : Nat) : Int) = a % 2 := by
    have : ((2 ^ 64 : Nat) : Int) = 18446744073709551616 := by decide
    rw [this]
    omega
  rw [e, wrap64 (by omega) (by omega)]
theorem shl_int {h : Nat} (hh : h < 10) : shiftInt .shl .i64 1 (h : Int) = some (.int .i64 ((2 ^ h : Nat) : Int)) := by
  rcases ten hh with rfl | rfl | rfl | rfl | rfl | rfl | rfl | rfl | rfl | rfl <;> rfl
theorem shr_int {a : Int} {h : Nat} (hh : h < 10) : shiftInt .shr .i64 a (h : Int) = some (.int .i64 (a.fdiv (2 ^ h))) := by
  rcases ten hh with rfl | rfl | rfl | rfl | rfl | rfl | rfl | rfl | rfl | rfl <;> rfl
section
variable {cl : Call} {env e : Env} {h : Hp} {x y : Opd} {d : Nat} {r : List AOper} {K : St → Prop} {nx : Nat} {ob : List (Nat × Ob)}
theorem ev_or {a b : Nat} (hx : ev e x = .c (.d (.int .i64 (a : Int)))) (hy : ev e y = .c (.d (.int .i64 (b : Int)))) (ha : a < 1024) (hb : b < 1024) : eval cl e h (.bin .or x y) = some (.c (.d (.int .i64 ((a ||| b : Nat) : Int))), h) := by
  simp only [eval, hx, hy, binV, binD, isShift, or_int ha hb]
  rfl
theorem ev_and1 {a : Int} (hx : ev e x = .c (.d (.int .i64 a))) (hy : ev e y = .c (.d (.int .i64 1))) : eval cl e h (.bin .and x y) = some (.c (.d (.int .i64 (a % 2))), h) := by
  simp only [eval, hx, hy, binV, binD, isShift, and1_int a]
  rfl
theorem ev_shl1 {k : IntKind} {b : Nat} (hx : ev e x = .c (.d (.int .i64 1))) (hy : ev e y = .c (.d (.int k (b : Int)))) (hb : b < 10) : eval cl e h (.bin .shl x y) = some (.c (.d (.int .i64 ((2 ^ b : Nat) : Int))), h) := by
  simp only [eval, hx, hy, binV, binD, isShift, shl_int hb]
  rfl
theorem ev_shr {k : IntKind} {a : Int} {b : Nat} (hx : ev e x = .c (.d (.int .i64 a))) (hy : ev e y = .c (.d (.int k (b : Int)))) (hb : b < 10) : eval cl e h (.bin .shr x y) = some (.c (.d (.int .i64 (a.fdiv (2 ^ b)))), h) := by
  simp only [eval, hx, hy, binV, binD, isShift, shr_int hb]
  rfl
/-- The place of an element of an array. -/
theorem ev_arrn {k : IntKind} {z o i sz len : Nat} (hx : ev e x = .c (.ptr z o)) (hy : ev e y = .c (.d (.int k (i : Int)))) (hi : i < len) : eval cl e h (.arrAddr x y sz len) = some (.c (.ptr z (o + i * sz)), h) := by
  have h1 : (0 : Int) ≤ (i : Int) ∧ (i : Int) < ((len : Nat) : Int) := by omega
  simp only [eval, hy, asInt, if_pos h1, hx, Int.toNat_natCast]
end
/-! ### functions known at a family of arguments -/
open Classical in
noncomputable def fam {ι : Type} (arg : ι → List DV) (Pre : ι → Prop) (res : ι → DV) (ds : List DV) : Option DV := if h : ∃ i, Pre i ∧ arg i = ds then some (res (Classical.choose h)) else none
theorem fam_eq {ι : Type} {arg : ι → List DV} {Pre : ι → Prop} {res : ι → DV} (i : ι) (hp : Pre i) (inj : ∀ j, Pre j → arg j = arg i → res j = res i) : fam arg Pre res (arg i) = some (res i) := by
  have h : ∃ j, Pre j ∧ arg j = arg i := ⟨i, hp, rfl⟩
  unfold fam
  rw [dif_pos h]
  obtain ⟨h1, h2⟩ := Classical.choose_spec h
  rw [inj _ h1 h2]
theorem fam_ok {P : Program} {H : Hint} {cl : Call} {f : FuncId} {n : Nat} {ac : ACode} {rs : List ARes} {ι : Type} {arg : ι → List DV} {Pre : ι → Prop} {res : ι → DV} (fok : FnOk P H f n ac rs) (ok : CallOk P H.glob cl)
    (hw : ∀ i, Pre i → awp cl ac (PureQ rs (res i)) ⟨argE 0 (dvArgs (arg i)), ⟨0, []⟩⟩) : PureFn P H.glob f (fam arg Pre res) := by
  refine pure_fn fok ok (fun ds r h => ?_)
  unfold fam at h
  split at h
  · rename_i hx
    obtain ⟨h1, h2⟩ := Classical.choose_spec hx
    cases h
    have h3 := hw _ h1
    rw [h2] at h3
    exact h3
  · cases h
/-! ### runs of closed code -/
def resOf (st : St) (rs : List ARes) : Option DV := match resV st rs with | some v => v.toDVt st.hp | none => none
def runD (cl : Call) (n : Nat) (c : ACode) (rs : List ARes) (st : St) : Option DV := match exec cl n c st with
  | some (.ret, st') => resOf st' rs
  | some (.normal, st') => resOf st' rs
  | _ => none
theorem resOf_q {st : St} {rs : List ARes} {r : DV} (h : resOf st rs = some r) : ∃ v, resV st rs = some v ∧ v.toDVt st.hp = some r := by
  unfold resOf at h
  split at h
  · rename_i v hv; exact ⟨v, hv, h⟩
  · cases h
theorem run_pure {cl : Call} {n : Nat} {c : ACode} {rs : List ARes} {st : St} {r : DV} (h : runD cl n c rs st = some r) : awp cl c (PureQ rs r) st := by
  unfold runD at h
  split at h
  · rename_i st' he; exact (exec_wp n c st st' _ he (resOf_q h)).1
  · rename_i st' he; exact (exec_wp n c st st' _ he (resOf_q h)).1
  · cases h
end Go.Am
