/-
  The abstract machine: the rest of a function's code; owned rows read, written, handed over; slices.
-/
import Derived.Test.YtnhalnblbfgbkaaDoorAMG
namespace Go.Am
open Go
def ACode.tail : Nat → ACode → ACode
  | 0, c => c
  | n + 1, .seq _ b => b.tail n
  | _ + 1, c => c
section
variable {cl : Call} {e : Env} {h : Hp} {nx : Nat} {ob ob' : List (Nat × Ob)} {x y : Opd}
theorem ev_idx_own {k : IntKind} {z n sz : Nat} {v : Int} (i : Nat) {l : List (List D)} (hx : ev e x = .c (.own z n)) (hy : ev e y = .c (.d (.int k v))) (hv : v = (i : Int)) (hl : look h.obs z = some (.row sz l)) (hn : n = l.length) (hi : i < l.length) : eval cl e h (.idxAddr sz x y) = some (.c (.rptr z n i 0), h) := by
  subst hv
  have h1 : True ∧ n = l.length ∧ (0 : Int) ≤ (i : Int) ∧ (i : Int) < (n : Int) := ⟨trivial, hn, by omega, by omega⟩
  simp only [eval, hy, asInt, hx, hl, if_pos h1, Int.toNat_natCast]
theorem ev_load_own {z m i off n : Nat} {sz : Nat} {agg : Bool} {l : List (List D)} {el : List D} {v : V} (hx : ev e x = .c (.rptr z m i off)) (hl : look ob z = some (.row sz l)) (hm : m = l.length) (hg : l[i]? = some el) (hv : mkV agg (mapD (sub el off n)) = some v) : eval cl e ⟨nx, ob⟩ (.load x n agg) = some (v, ⟨nx, ob⟩) := by
  simp only [eval, hx, hl, if_pos hm, hg, hv]
theorem ev_store_own {z m i off n sz : Nat} {l : List (List D)} {el el' ds : List D} {vs : List C} (hv : (ev e y).cells = some vs) (hn : vs.length = n) (hx : ev e x = .c (.rptr z m i off)) (hd : toDs ⟨nx, ob⟩ vs = some ds) (hs : shedCs ob vs = ob) (hl : look ob z = some (.row sz l)) (hm : m = l.length) (hg : l[i]? = some el) (hsp : splice el off ds = some el') (hp : put ob z (.row sz (l.set i el')) = some ob') : eval cl e ⟨nx, ob⟩ (.store x y n) = some (.tup [], ⟨nx, ob'⟩) := by
  simp only [eval, hv, if_pos hn, hx, hd, hs, hl, if_pos hm, hg, hsp, hp]
theorem ev_len_own {z n sz : Nat} {l : List (List D)} (hx : ev e x = .c (.own z n)) (hl : look h.obs z = some (.row sz l)) (hn : n = l.length) : eval cl e h (.len x) = some (.c (.d (.int .i64 (n : Nat))), h) := by
  subst hn
  simp only [eval, hx, C.lst, toD_own hl rfl]
theorem ev_slice_d {lo hi : Option Opd} {sz sz' : Nat} {l l' : List (List D)} {a b : Int} (hx : ev e x = .c (.d (.list sz' l))) (hs : sz' = sz ∨ l = []) (hl : loOf e lo = some a) (hh : hiOf e l.length hi = some b) (h0 : 0 ≤ a) (h1 : a ≤ b) (h2 : b ≤ l.length) (hr : (l.take b.toNat).drop a.toNat = l') :
    eval cl e h (.slice sz x lo hi none) = some (.c (.d (.list sz l')), h) := by
  obtain ⟨nx, ob⟩ := h
  have hs' : sized sz' sz l = true := by
    rcases hs with rfl | rfl
    · simp [sized]
    · simp [sized]
  simp only [eval, hx, C.lst, C.toD, hs', bounds_of hl hh h0 h1 h2, hr]
  rfl
theorem ev_app_d {z n n' sz sz' : Nat} {l l' ys : List (List D)} (hx : ev e x = .c (.own z n)) (hy : ev e y = .c (.d (.list sz' ys))) (hz : sz' = sz ∨ ys = []) (hl : look ob z = some (.row sz l)) (hn : n = l.length) (hr : l.length + ys.length ≤ room) (hl' : l ++ ys = l') (hn' : l'.length = n') (hp : put ob z (.row sz l') = some ob') :
    eval cl e ⟨nx, ob⟩ (.append x y sz) = some (.c (.own z n'), ⟨nx, ob'⟩) := by
  subst hl'
  have h1 : sized sz' sz ys = true := by
    rcases hz with rfl | rfl
    · simp [sized]
    · simp [sized]
  have h2 : True ∧ n = l.length ∧ l.length + ys.length ≤ room := ⟨trivial, hn, hr⟩
  simp only [eval, hy, C.lst, C.toD, h1, hx, hl]
  rw [if_pos h2, hp, hn']
theorem ev_remT {a b : Int} (hx : ev e x = .c (.d (.int .i64 a))) (hy : ev e y = .c (.d (.int .i64 b))) (hb : b ≠ 0) : eval cl e h (.bin .rem x y) = some (.c (.d (.int .i64 (a.tmod b))), h) := by
  simp [eval, hx, hy, binV, binD, isShift, binInt, hb]
theorem ev_remN {a b : Int} (hx : ev e x = .c (.d (.int .i64 a))) (hy : ev e y = .c (.d (.int .i64 b))) (h0 : 0 ≤ a) (hb : b ≠ 0) : eval cl e h (.bin .rem x y) = some (.c (.d (.int .i64 (a % b))), h) := by
  rw [ev_remT hx hy hb, Int.tmod_eq_emod_of_nonneg h0]
end
structure Op3 where
  pat : List UInt8
  g : Int
  a : Int
end Go.Am
