/-
  The abstract machine: the rest of a function's code; owned rows read, written, handed over; slices.
-/
import Derived.Test.YtpidbhbmamjbpaaDoorSMG
namespace Go.Am
open Go
def ACode.tail : Nat → ACode → ACode
  | 0, c => c
  | n + 1, .seq _ b => b.tail n
  | _ + 1, c => c
section
variable {cl : Call} {e : Env} {h : Hp} {nx : Nat} {ob ob' : List (Nat × Ob)} {x y : Opd}
theorem ev_idx_own {k : IntKind} {z n sz : Nat} {v : Int} (i : Nat) {l : List (List D)} (hx : ev e x = .c (.own z n)) (hy : ev e y = .c (.d (.int k v))) (hv : v = (i : Int)) (hl : look h.obs z = some (.row sz l)) (hn : n = l.length) (hi : i < l.length) : eval cl e h (.idxAddr sz x y) = some (.c (.rptr z n i 0), h) := by
  subst hv
  have h1 : True ∧ n = l.length ∧ (0 : Int) ≤ (i : Int) ∧ (i : Int) < (n : Int) := ⟨trivial, hn, by omega, by omega⟩
  simp only [eval, hy, asInt, hx, hl, if_pos h1, Int.toNat_natCast]
theorem ev_load_own {z m i off n : Nat} {sz : Nat} {agg : Bool} {l : List (List D)} {el : List D} {v : V} (hx : ev e x = .c (.rptr z m i off)) (hl : look ob z = some (.row sz l)) (hm : m = l.length) (hg : l[i]? = some el) (hv : mkV agg (mapD (sub el off n)) = some v) : eval cl e ⟨nx, ob⟩ (.load x n agg) = some (v, ⟨nx, ob⟩) := by
  simp only [eval, hx, hl, if_pos hm, hg, hv]
theorem ev_store_own {z m i off n sz : Nat} {l : List (List D)} {el el' ds : List D} {vs : List C} (hv : (ev e y).cells = some vs) (hn : vs.length = n) (hx : ev e x = .c (.rptr z m i off)) (hd : toDs ⟨nx, ob⟩ vs = some ds) (hs : shedCs ob vs = ob) (hl : look ob z = some (.row sz l)) (hm : m = l.length) (hg : l[i]? = some el) (hsp : splice el off ds = some el') (hp : put ob z (.row sz (l.set i el')) = some ob') : eval cl e ⟨nx, ob⟩ (.store x y n) = some (.tup [], ⟨nx, ob'⟩) := by
  simp only [eval, hv, if_pos hn, hx, hd, hs, hl, if_pos hm, hg, hsp, hp]
theorem ev_len_own {z n sz : Nat} {l : List (List D)} (hx : ev e x = .c (.own z n)) (hl : look h.obs z = some (.row sz l)) (hn : n = l.length) : eval cl e h (.len x) = some (.c (.d (.int .i64 (n : Nat))), h) := by
  subst hn
  simp only [eval, hx, C.lst, toD_own hl rfl]
theorem ev_remT {a b : Int} (hx : ev e x = .c (.d (.int .i64 a))) (hy : ev e y = .c (.d (.int .i64 b))) (hb : b ≠ 0) : eval cl e h (.bin .rem x y) = some (.c (.d (.int .i64 (a.tmod b))), h) := by
  simp [eval, hx, hy, binV, binD, isShift, binInt, hb]
theorem ev_remN {a b : Int} (hx : ev e x = .c (.d (.int .i64 a))) (hy : ev e y = .c (.d (.int .i64 b))) (h0 : 0 ≤ a) (hb : b ≠ 0) : eval cl e h (.bin .rem x y) = some (.c (.d (.int .i64 (a % b))), h) := by
  rw [ev_remT hx hy hb, Int.tmod_eq_emod_of_nonneg h0]
end
structure Op3 where
  pat : List UInt8
  g : Int
  a : Int
def opD (o : Op3) : List D := [.str o.pat, .int .i64 o.g, .int .i64 o.a]
theorem opD_inj {a b : Op3} (h : opD a = opD b) : a = b := by
  cases a
  cases b
  simp only [opD, List.cons.injEq, D.str.injEq, D.int.injEq, true_and, and_true] at h
  obtain ⟨rfl, rfl, rfl⟩ := h
  rfl
theorem map_inj {α β : Type} {f : α → β} (hf : ∀ a b, f a = f b → a = b) : ∀ {l l' : List α}, l.map f = l'.map f → l = l'
  | [], [], _ => rfl
  | [], b :: r, h => by cases h
  | a :: r, [], h => by cases h
  | a :: r, b :: q, h => by
    simp only [List.map_cons, List.cons.injEq] at h
    rw [hf a b h.1, map_inj hf h.2]
theorem ops_inj {l l' : List Op3} (h : l.map opD = l'.map opD) : l = l' := map_inj (fun _ _ => opD_inj) h
end Go.Am
