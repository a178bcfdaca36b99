/-
  The abstract machine: the rest of a function's code; owned rows read, written, handed over; slices.
-/
import Derived.Test.YtjcllhljkfhjjaaGreatDoorSMG
namespace Go.Am
open Go
def ACode.tail : Nat → ACode → ACode
  | 0, c => c
  | n + 1, .seq _ b => b.tail n
  | _ + 1, c => c
section
variable {cl : Call} {e : Env} {h : Hp} {nx : Nat} {ob ob' : List (Nat × Ob)} {x y : Opd}
theorem ev_idx_own {k : IntKind} {z n sz : Nat} {v : Int} (i : Nat) {l : List (List D)} (hx : ev e x = .c (.own z n)) (hy : ev e y = .c (.d (.int k v))) (hv : v = (i : Int)) (hl : look h.obs z = some (.row sz l)) (hn : n = l.length) (hi : i < l.length) : eval cl e h (.idxAddr sz x y) = some (.c (.rptr z n i 0), h) := by
  subst hv
  have h1 : True ∧ n = l.length ∧ (0 : Int) ≤ (i : Int) ∧ (i : Int) < (n : Int) := ⟨trivial, hn, by omega, by omega⟩
  simp only [eval, hy, asInt, hx, hl, if_pos h1, Int.toNat_natCast]
theorem ev_load_own {z m i off n : Nat} {sz : Nat} {agg : Bool} {l : List (List D)} {el : List D} {v : V} (hx : ev e x = .c (.rptr z m i off)) (hl : look ob z = some (.row sz l)) (hm : m = l.length) (hg : l[i]? = some el) (hv : mkV agg (mapD (sub el off n)) = some v) : eval cl e ⟨nx, ob⟩ (.load x n agg) = some (v, ⟨nx, ob⟩) := by
  simp only [eval, hx, hl, if_pos hm, hg, hv]
theorem ev_store_own {z m i off n sz : Nat} {l : List (List D)} {el el' ds : List D} {vs : List C} (hv : (ev e y).cells = some vs) (hn : vs.length = n) (hx : ev e x = .c (.rptr z m i off)) (hd : toDs ⟨nx, ob⟩ vs = some ds) (hs : shedCs ob vs = ob) (hl : look ob z = some (.row sz l)) (hm : m = l.length) (hg : l[i]? = some el) (hsp : splice el off ds = some el') (hp : put ob z (.row sz (l.set i el')) = some ob') : eval cl e ⟨nx, ob⟩ (.store x y n) = some (.tup [], ⟨nx, ob'⟩) := by
  simp only [eval, hv, if_pos hn, hx, hd, hs, hl, if_pos hm, hg, hsp, hp]
theorem ev_len_own {z n sz : Nat} {l : List (List D)} (hx : ev e x = .c (.own z n)) (hl : look h.obs z = some (.row sz l)) (hn : n = l.length) : eval cl e h (.len x) = some (.c (.d (.int .i64 (n : Nat))), h) := by
  subst hn
  simp only [eval, hx, C.lst, toD_own hl rfl]
theorem ev_slice_d {lo hi : Option Opd} {sz sz' : Nat} {l l' : List (List D)} {a b : Int} (hx : ev e x = .c (.d (.list sz' l))) (hs : sz' = sz ∨ l = []) (hl : loOf e lo = some a) (hh : hiOf e l.length hi = some b) (h0 : 0 ≤ a) (h1 : a ≤ b) (h2 : b ≤ l.length) (hr : (l.take b.toNat).drop a.toNat = l') :
    eval cl e h (.slice sz x lo hi none) = some (.c (.d (.list sz l')), h) := by
  obtain ⟨nx, ob⟩ := h
  have hs' : sized sz' sz l = true := by
    rcases hs with rfl | rfl
    · simp [sized]
    · simp [sized]
  simp only [eval, hx, C.lst, C.toD, hs', bounds_of hl hh h0 h1 h2, hr]
  rfl
theorem ev_slice_o {lo hi : Option Opd} {z n sz : Nat} {l l' : List (List D)} {a b : Int} (hx : ev e x = .c (.own z n)) (hl : look ob z = some (.row sz l)) (hn : n = l.length) (hlo : loOf e lo = some a) (hh : hiOf e l.length hi = some b) (h0 : 0 ≤ a) (h1 : a ≤ b) (h2 : b ≤ l.length) (hr : (l.take b.toNat).drop a.toNat = l') (hd : del ob z = ob') :
    eval cl e ⟨nx, ob⟩ (.slice sz x lo hi none) = some (.c (.d (.list sz l')), ⟨nx, ob'⟩) := by
  rw [ev_slice_own hx hl hn (bounds_of hlo hh h0 h1 h2), hr, ← hd]
  rfl
theorem ev_app_d {z n n' sz sz' : Nat} {l l' ys : List (List D)} (hx : ev e x = .c (.own z n)) (hy : ev e y = .c (.d (.list sz' ys))) (hz : sz' = sz ∨ ys = []) (hl : look ob z = some (.row sz l)) (hn : n = l.length) (hr : l.length + ys.length ≤ room) (hl' : l ++ ys = l') (hn' : l'.length = n') (hp : put ob z (.row sz l') = some ob') :
    eval cl e ⟨nx, ob⟩ (.append x y sz) = some (.c (.own z n'), ⟨nx, ob'⟩) := by
  subst hl'
  have h1 : sized sz' sz ys = true := by
    rcases hz with rfl | rfl
    · simp [sized]
    · simp [sized]
  have h2 : True ∧ n = l.length ∧ l.length + ys.length ≤ room := ⟨trivial, hn, hr⟩
  simp only [eval, hy, C.lst, C.toD, h1, hx, hl]
  rw [if_pos h2, hp, hn']
theorem ev_arrv {k : IntKind} {z o sz len : Nat} {v : Int} (i : Nat) (hx : ev e x = .c (.ptr z o)) (hy : ev e y = .c (.d (.int k v))) (hv : v = (i : Int)) (hi : i < len) : eval cl e h (.arrAddr x y sz len) = some (.c (.ptr z (o + i * sz)), h) := by
  subst hv
  have h1 : (0 : Int) ≤ (i : Int) ∧ (i : Int) < ((len : Nat) : Int) := by omega
  simp only [eval, hy, asInt, if_pos h1, hx, Int.toNat_natCast]
theorem ev_remT {a b : Int} (hx : ev e x = .c (.d (.int .i64 a))) (hy : ev e y = .c (.d (.int .i64 b))) (hb : b ≠ 0) : eval cl e h (.bin .rem x y) = some (.c (.d (.int .i64 (a.tmod b))), h) := by
  simp [eval, hx, hy, binV, binD, isShift, binInt, hb]
theorem ev_remN {a b : Int} (hx : ev e x = .c (.d (.int .i64 a))) (hy : ev e y = .c (.d (.int .i64 b))) (h0 : 0 ≤ a) (hb : b ≠ 0) : eval cl e h (.bin .rem x y) = some (.c (.d (.int .i64 (a % b))), h) := by
  rw [ev_remT hx hy hb, Int.tmod_eq_emod_of_nonneg h0]
theorem ev_sub1 {s : List UInt8} {c : UInt8} {i : Nat} {a b : Int} {lo hi : Opd} (hx : ev e x = .c (.d (.str s))) (hlo : ev e lo = .c (.d (.int .i64 a))) (hhi : ev e hi = .c (.d (.int .i64 b))) (ha : a = (i : Int)) (hb : b = (i : Int) + 1) (hc : s[i]? = some c) : eval cl e h (.substr x (some lo) (some hi)) = some (.c (.d (.str [c])), h) := by
  have hlt := (List.getElem?_eq_some_iff.1 hc).1
  rw [ev_sub_s hx (show loOf e (some lo) = some a by show asInt (ev e lo) = _; rw [hlo]; rfl) (show hiOf e s.length (some hi) = some b by show asInt (ev e hi) = _; rw [hhi]; rfl) (by omega) (by omega) (by omega)]
  have e1 : b.toNat = i + 1 := by omega
  have e2 : a.toNat = i := by omega
  rw [e1, e2, List.take_add_one, hc, List.drop_append_of_le_length (by rw [List.length_take]; omega), List.drop_take]
  simp
end
theorem tmod_bd (a : Int) {b : Int} (hb : 0 < b) : -b < a.tmod b ∧ a.tmod b < b := by
  rcases Int.le_total 0 a with h | h
  · rw [Int.tmod_eq_emod_of_nonneg h]
    have h1 := Int.emod_nonneg a (show b ≠ 0 by omega)
    have h2 := Int.emod_lt_of_pos a hb
    omega
  · obtain ⟨c, rfl⟩ : ∃ c, a = -c := ⟨-a, by omega⟩
    rw [Int.neg_tmod, Int.tmod_eq_emod_of_nonneg (by omega)]
    have h1 := Int.emod_nonneg c (show b ≠ 0 by omega)
    have h2 := Int.emod_lt_of_pos c hb
    omega
theorem tmod9 (a : Int) : (a.tmod 9 + 9) % 9 = a % 9 := by
  have := Int.tmod_def a 9
  omega
theorem tmod3 (a : Int) : (a.tmod 3 + 3) % 3 = a % 3 := by
  have := Int.tmod_def a 3
  omega
theorem toDVt_own1 {h : Hp} {x n sz : Nat} {l : List (List D)} (hl : look h.obs x = some (.row sz l)) (hn : n = l.length) : V.toDVt h (.c (.own x n)) = some (.c (.list sz l)) := by
  simp [V.toDVt, V.toDV, C.toD, hl, hn]
structure Op3 where
  pat : List UInt8
  g : Int
  a : Int
def opD (o : Op3) : List D := [.str o.pat, .int .i64 o.g, .int .i64 o.a]
theorem opD_inj {a b : Op3} (h : opD a = opD b) : a = b := by
  cases a
  cases b
  simp only [opD, List.cons.injEq, D.str.injEq, D.int.injEq, true_and, and_true] at h
  obtain ⟨rfl, rfl, rfl⟩ := h
  rfl
theorem map_inj {α β : Type} {f : α → β} (hf : ∀ a b, f a = f b → a = b) : ∀ {l l' : List α}, l.map f = l'.map f → l = l'
  | [], [], _ => rfl
  | [], b :: r, h => by cases h
  | a :: r, [], h => by cases h
  | a :: r, b :: q, h => by
    simp only [List.map_cons, List.cons.injEq] at h
    rw [hf a b h.1, map_inj hf h.2]
theorem ops_inj {l l' : List Op3} (h : l.map opD = l'.map opD) : l = l' := map_inj (fun _ _ => opD_inj) h
end Go.Am
