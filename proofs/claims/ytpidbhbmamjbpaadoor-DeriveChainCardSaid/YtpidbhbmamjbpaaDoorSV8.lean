/-
  derive's deriver: below.
-/
import Derived.Test.YtpidbhbmamjbpaaDoorSV7
namespace Go.Am
open Go
def OwnL (l : List (List D)) (nx : Nat) (v : V) (h : Hp) : Prop := (l = [] ∧ v = .c .nil) ∨ ∃ z, nx ≤ z ∧ z < h.next ∧ v = .c (.own z l.length) ∧ look h.obs z = some (.row 5 l)
def RTr (X : DX) (nx : Nat) (ob : List (Nat × Ob)) (l : List Nd5) (v : V) (h : Hp) : Prop :=
  nx ≤ h.next ∧ (∃ es', DH X es' h.next h.obs) ∧ (∀ y, y < nx → y ≠ X.my → look h.obs y = look ob y) ∧ ∃ z, nx ≤ z ∧ z < h.next ∧ v = .c (.own z (l.map ndD).length) ∧ look h.obs z = some (.row 5 (l.map ndD))
def RB (X : DX) (nx : Nat) (ob : List (Nat × Ob)) (kb : Nat) (cs : List C) (l : List Nd5) (v : V) (h : Hp) : Prop :=
  nx ≤ h.next ∧ (∃ es', DH X es' h.next h.obs) ∧ (∀ y, y < nx → y ≠ X.my → y ≠ kb → look h.obs y = look ob y) ∧ look h.obs kb = some (.cells cs) ∧ OwnL (l.map ndD) nx v h
def Q321 (m : Nat) : Prop := ∀ (X : DX) (es : List (D × C)) (nx : Nat) (ob : List (Nat × Ob)), DXok X → DH X es nx ob → ∀ (a b : Nat) (o : Int) (on : Nat) (outer right : Bool), a < b → b ≤ X.c.toks.length → (outer = true → o = (on : Int) ∧ on < X.c.ops.length) → 0 < X.c.A on outer right a b → 64 * (b - a) + 55 ≤ m →
  wpOf (clD m) c321 [.t 10] [.c (.ptr X.x 0), .c (.d (.int .i64 (a : Nat))), .c (.d (.int .i64 (b : Nat))), .c (.d (.int .i64 o)), .agg [.d (.bool outer), .d (.bool right)]] ⟨nx, ob⟩ (RTr X nx ob (X.c.Tr a b on outer right))
def Q338 (m : Nat) : Prop := ∀ (X : DX) (es : List (D × C)) (nx : Nat) (ob : List (Nat × Ob)), DXok X → DH X es nx ob → ∀ (a b k p i : Nat) (done : Bool) (kb n0 : Nat) (u0 u1 u2 u3 : C), a < b → b ≤ X.c.toks.length → k < X.c.ops.length → p ≤ (X.c.sh k).parts.length → a ≤ i → i ≤ b →
  look ob kb = some (.cells [u0, u1, u2, u3, .d (.int .i64 (n0 : Nat))]) → kb < nx → kb ≠ X.my → kb ≠ X.x → kb ≠ X.sx → n0 + fuelOf (X.c.sh k) p done ≤ 100 → 0 < X.c.W k a b p done i → 64 * (b - a) + fuelOf (X.c.sh k) p done ≤ m →
  wpOf (clD m) c338 [.t 12] [.c (.ptr X.x 0), .agg [.d (.int .i64 (a : Nat)), .d (.int .i64 (b : Nat)), .d (.int .i64 (k : Nat))], .c (.d (.int .i64 (p : Nat))), .c (.d (.int .i64 (iD done))), .c (.d (.int .i64 (i : Nat))), .c (.ptr kb 4)] ⟨nx, ob⟩
    (RB X nx ob kb [u0, u1, u2, u3, .d (.int .i64 ((n0 + (X.c.Bl a b k p done i).2 : Nat) : Int))] (X.c.Bl a b k p done i).1)
theorem evalR_h {cl : Call} {e : Env} {hp : Hp} {f : Nat} {args : List Opd} {T : List V → Hp → (V → Hp → Prop) → Prop} {v : V} {h' : Hp} (hT : cl.heap f = some T) (h : T (evs e args) hp (fun v2 h2 => v2 = v ∧ h2 = h')) : evalR cl e hp (.hcall f args) v h' := by
  show (match cl.heap f with | some T => _ | none => False)
  rw [hT]
  exact h
def stB (X : DX) (p i kb b1 b2 b3 : Nat) (op : Bool) (nx : Nat) (ob : List (Nat × Ob)) : St :=
  ⟨[(0, .c (.ptr X.x 0)), (2, .c (.d (.int .i64 (p : Nat)))), (4, .c (.d (.int .i64 (i : Nat)))), (5, .c (.ptr kb 4)), (7, .c (.ptr b1 0)), (13, .c (.ptr b2 0)), (14, .c (.ptr b3 0)), (15, .c (.d (.bool op)))], ⟨nx, ob⟩⟩
set_option maxRecDepth 8000 in
set_option maxHeartbeats 8000000 in
theorem w338s {n : Nat} (h338 : Q338 n) {X : DX} (ok : DXok X) {a b k p i : Nat} {done : Bool} (hab : a < b) (hb : b ≤ X.c.toks.length) (hk : k < X.c.ops.length) (hp : p ≤ (X.c.sh k).parts.length) (hai : a ≤ i) (_hib : i ≤ b) (hm : 64 * (b - a) + fuelOf (X.c.sh k) p done ≤ n + 1)
    (ho : opn (X.c.sh k) p done = none) {o r : Bool} {sz b1 b2 b3 kb n0 : Nat} {u0 u1 u2 u3 : C} {es : List (D × C)} {nx0 nx : Nat} {ob0 ob : List (Nat × Ob)} (W : WS X a b k o r sz b1 b2 b3 es nx ob) (hn : nx0 ≤ nx) (hf : ∀ y, y < nx0 → y ≠ X.my → look ob y = look ob0 y)
    (hkb : look ob kb = some (.cells [u0, u1, u2, u3, .d (.int .i64 (n0 : Nat))])) (hk1 : kb < nx0) (hk2 : kb ≠ X.my) (hk3 : kb ≠ X.x) (hk4 : kb ≠ X.sx) (hn0 : n0 + fuelOf (X.c.sh k) p done ≤ 100) (hpos : 0 < X.c.W k a b p done i) :
    awp (clD (n + 1)) (c338.tail 3) (HeapQ [.t 12] (RB X nx0 ob0 kb [u0, u1, u2, u3, .d (.int .i64 ((n0 + (X.c.Bl a b k p done i).2 : Nat) : Int))] (X.c.Bl a b k p done i).1)) (stB X p i kb b1 b2 b3 false nx ob) := by
  have htoks := ok.toks
  have hw := Bl_shut (c := X.c) (a := a) (b := b) (i := i) ho hp
  have hlen := ofStrs_len (X.c.sh k).parts
  have hlp := sh_len X.c k
  have g1 := W.h1
  have g2 := W.h2
  unfold stB c338
  dsimp only [ACode.tail]
  by_cases hpl : p = (X.c.sh k).parts.length
  · rw [if_pos hpl] at hw
    rw [hw]
    repeat' first
      | refine GoH ?_
      | refine ZB (ev_load rfl g1 rfl) ?_
      | refine ZB (ev_load rfl g2 rfl) ?_
      | refine ZB (ev_eql_t rfl rfl (by omega)) ?_
      | refine ZB rfl ?_|refine ZC rfl ?_
    exact ⟨_, rfl, hn, ⟨es, W.dh⟩, fun y hy hm _ => hf y hy hm, hkb, .inl ⟨rfl, rfl⟩⟩
  · rw [if_neg hpl] at hw
    rw [W_shut ho hp, if_neg hpl] at hpos
    have hib2 : i < b := by
      split at hpos
      · rename_i h; exact h.1
      · cases hpos
    have hpos2 : 0 < X.c.W k a b (p + 1) false (i + 1) := by
      split at hpos
      · exact hpos
      · cases hpos
    rw [hw]
    have hfu : fuelOf (X.c.sh k) (p + 1) false < fuelOf (X.c.sh k) p done := by unfold fuelOf; simp; split <;> omega
    repeat' first
      | refine GoH ?_
      | refine ZB (ev_load rfl g1 rfl) ?_
      | refine ZB (ev_load rfl g2 rfl) ?_
      | refine ZB (ev_eql_f rfl rfl (by omega)) ?_
      | refine ZB (ev_add1N rfl rfl (by omega)) ?_
      | (refine step_hR rfl (fineD _) (h338 X es nx ob ok W.dh a b k (p + 1) (i + 1) false kb n0 u0 u1 u2 u3 hab hb hk (by omega) (by omega) (by omega) hkb (by omega) hk2 hk3 hk4 (by omega) hpos2 (by omega)) ?_; rintro v nx1 ob1 ⟨e1, e2, e3, e4, (⟨e5, rfl⟩ | ⟨z, e6, e7, rfl, e8⟩)⟩)
      | refine ZB rfl ?_|refine ZC rfl ?_
    · exact ⟨_, rfl, (by show nx0 ≤ nx1; have : nx ≤ nx1 := e1; omega), e2, fun y hy hm hq => (e3 y (by omega) hm hq).trans (hf y hy hm), e4, .inl ⟨e5, rfl⟩⟩
    · exact ⟨_, rfl, (by show nx0 ≤ nx1; have : nx ≤ nx1 := e1; omega), e2, fun y hy hm hq => (e3 y (by omega) hm hq).trans (hf y hy hm), e4, .inr ⟨z, by omega, e7, rfl, e8⟩⟩
theorem cut_of {c : Drv} {a b k p i : Nat} {o r : Bool} (hai : a ≤ i) (ho : opn (c.sh k) p false = some (o, r)) (hp : p ≤ (c.sh k).parts.length) (h : 0 < c.W k a b p false i) : ∃ j, c.cut a b k p i o r = some j ∧ j < b - i ∧ ∀ x, x < j → ¬ (x + 1 < b - a ∧ 0 < c.W k a b p true (i + 1 + x) ∧ 0 < c.A k o r i (i + 1 + x)) := by
  cases hc : c.cut a b k p i o r with
  | some j =>
    obtain ⟨_, h2, _, h4⟩ := firstT_some hc
    exact ⟨j, rfl, by omega, fun x hx => of_decide_eq_false (h4 x (Nat.zero_le _) hx)⟩
  | none =>
    exfalso
    have hn := firstT_none hc
    rw [W_open ho hp] at h
    obtain ⟨j, h1, h2⟩ := sum_pos (f := fun j => if j + 1 = b - a then 0 else c.W k a b p true (i + 1 + j) * c.A k o r i (i + 1 + j)) (n := b - i) (by omega)
    have := of_decide_eq_false (hn j (Nat.zero_le _) (by omega))
    split at h2
    · cases h2
    · have hmul := Nat.pos_of_mul_pos_left h2
      have hmul2 := Nat.pos_of_mul_pos_right h2
      exact this ⟨by omega, by omega, by omega⟩
theorem ev_app_own2 {cl : Call} {e : Env} {x y : Opd} {nx z z2 n sz : Nat} {ob ob' : List (Nat × Ob)} {l l2 : List (List D)} (hx : ev e x = .c (.own z n)) (hn : n = l.length) (hy : ev e y = .c (.own z2 l2.length)) (hl : look ob z = some (.row sz l)) (hl2 : look ob z2 = some (.row sz l2)) (hr : l.length + l2.length ≤ room) (hp : put ob z (.row sz (l ++ l2)) = some ob') :
    eval cl e ⟨nx, ob⟩ (.append x y sz) = some (.c (.own z (l ++ l2).length), ⟨nx, ob'⟩) := by
  have h1 : sized sz sz l2 = true := by simp [sized]
  have h2 : True ∧ n = l.length ∧ l.length + l2.length ≤ room := ⟨trivial, hn, hr⟩
  simp only [eval, hy, C.lst, C.toD, hl2, if_true, h1, hx, hl]
  rw [if_pos h2, hp]
theorem ev_app_nil {cl : Call} {e : Env} {x y : Opd} {nx z n sz : Nat} {ob ob' : List (Nat × Ob)} {l : List (List D)} (hx : ev e x = .c (.own z n)) (hn : n = l.length) (hy : ev e y = .c .nil) (hl : look ob z = some (.row sz l)) (hr : l.length ≤ room) (hp : put ob z (.row sz (l ++ [])) = some ob') :
    eval cl e ⟨nx, ob⟩ (.append x y sz) = some (.c (.own z (l ++ []).length), ⟨nx, ob'⟩) := by
  have h2 : True ∧ n = l.length ∧ l.length + ([] : List (List D)).length ≤ room := ⟨trivial, hn, by simpa using hr⟩
  simp only [eval, hy, C.lst, C.toD, sized, List.isEmpty_nil, Bool.or_true, hx, hl]
  rw [if_pos h2, hp]
theorem ev_appB {cl : Call} {e : Env} {x y : Opd} {nx nx0 z : Nat} {ob ob' : List (Nat × Ob)} {l l2 : List (List D)} {v2 : V} (hx : ev e x = .c (.own z l.length)) (hy : ev e y = v2) (ho : OwnL l2 nx0 v2 ⟨nx, ob⟩) (hl : look ob z = some (.row 5 l)) (hr : l.length + l2.length ≤ room) (hp : put ob z (.row 5 (l ++ l2)) = some ob') :
    eval cl e ⟨nx, ob⟩ (.append x y 5) = some (.c (.own z (l ++ l2).length), ⟨nx, ob'⟩) := by
  rcases ho with ⟨rfl, rfl⟩ | ⟨z2, _, _, rfl, hz2⟩
  · exact ev_app_nil hx rfl hy hl (by simpa using hr) hp
  · exact ev_app_own2 hx rfl hy hl hz2 hr hp
theorem DH.but {X : DX} {es : List (D × C)} {nx q : Nat} {ob ob' : List (Nat × Ob)} (Dh : DH X es nx ob) (h : ∀ y, y ≠ q → look ob' y = look ob y) (h1 : q ≠ X.x) (h2 : q ≠ X.sx) (h3 : q ≠ X.my) : DH X es nx ob' :=
  ⟨(h _ (Ne.symm h1)).trans Dh.hx, fun h0 => ⟨(Dh.hs h0).1, (h _ (Ne.symm h2)).trans (Dh.hs h0).2⟩, (h _ (Ne.symm h3)).trans Dh.hm, Dh.he, Dh.lx, Dh.ls, Dh.lm, Dh.xm, Dh.sm⟩
end Go.Am
