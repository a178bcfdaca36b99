/-
  derive's deriver: what lies in memory; its functions solo, fits; step.
-/
import Derived.Test.YtpidbhbmamjbpaaDoorSV1
import Derived.Test.YtpidbhbmamjbpaaDoorSCE
import Derived.Test.YtpidbhbmamjbpaaDoorSQU
import Derived.Test.YtpidbhbmamjbpaaDoorSNC
namespace Go.Am
open Go
theorem put_of_look {α : Type} : ∀ {l : List (Nat × α)} {x : Nat} {o : α} (o' : α), look l x = some o → ∃ l', put l x o' = some l'
  | [], _, _, _, h => by cases h
  | (k, a) :: r, x, o, o', h => by
    unfold put
    by_cases hk : k = x
    · rw [if_pos hk]; exact ⟨_, rfl⟩
    · rw [if_neg hk]
      unfold look at h
      rw [if_neg hk] at h
      obtain ⟨l', hl⟩ := put_of_look o' h
      rw [hl]
      exact ⟨_, rfl⟩
section
variable {cl : Call} {d : Nat} {r : List AOper} {K : St → Prop} {env : Env} {nx : Nat} {ob : List (Nat × Ob)} {x y : Opd}
theorem step_boxA {cs : List C} (hx : (ev env x).cells = some cs) (hk : ∀ ob', look ob' nx = some (.cells cs) → (∀ y, y < nx → look ob' y = look ob y) → opsWp cl r K ⟨(d, .c (.ptr nx 0)) :: env, ⟨nx + 1, ob'⟩⟩) :
    opsWp cl (⟨some d, .box x, none⟩ :: r) K ⟨env, ⟨nx, ob⟩⟩ :=
  ZB (v := .c (.ptr nx 0)) (by simp only [eval, hx]) (hk _ look_hd (fun y hy => look_tl (by omega) rfl))
theorem step_allocA {cs : List C} (hk : ∀ ob', look ob' nx = some (.cells cs) → (∀ y, y < nx → look ob' y = look ob y) → opsWp cl r K ⟨(d, .c (.ptr nx 0)) :: env, ⟨nx + 1, ob'⟩⟩) :
    opsWp cl (⟨some d, .alloc cs, none⟩ :: r) K ⟨env, ⟨nx, ob⟩⟩ :=
  ZB (v := .c (.ptr nx 0)) rfl (hk _ look_hd (fun y hy => look_tl (by omega) rfl))
theorem step_storeA {z off n : Nat} {cs cs' vs : List C} (hv : (ev env y).cells = some vs) (hn : vs.length = n) (hx : ev env x = .c (.ptr z off)) (hl : look ob z = some (.cells cs)) (hs : splice cs off vs = some cs')
    (hk : ∀ ob', look ob' z = some (.cells cs') → (∀ y, y ≠ z → look ob' y = look ob y) → opsWp cl r K ⟨env, ⟨nx, ob'⟩⟩) : opsWp cl (⟨none, .store x y n, none⟩ :: r) K ⟨env, ⟨nx, ob⟩⟩ := by
  obtain ⟨ob', hp⟩ := put_of_look (.cells cs') hl
  exact ZC (ev_store hv hn hx hl hs hp) (hk ob' (look_put_same hp) (fun y hy => look_put_other hp hy))
theorem ev_addN {hp : Hp} {a b : Nat} (hx : ev env x = .c (.d (.int .i64 (a : Nat)))) (hy : ev env y = .c (.d (.int .i64 (b : Nat)))) (h : a + b ≤ 9223372036854775807) : eval cl env hp (.bin .add x y) = some (.c (.d (.int .i64 ((a + b : Nat) : Int))), hp) := by
  have := ev_add (cl := cl) (h := hp) hx hy (by omega) (by omega)
  rw [this, Int.natCast_add]
theorem ev_mulN {hp : Hp} {a b : Nat} (hx : ev env x = .c (.d (.int .i64 (a : Nat)))) (hy : ev env y = .c (.d (.int .i64 (b : Nat)))) (h : a * b ≤ 9223372036854775807) : eval cl env hp (.bin .mul x y) = some (.c (.d (.int .i64 ((a * b : Nat) : Int))), hp) := by
  have e : (a : Int) * (b : Int) = ((a * b : Nat) : Int) := by simp
  have hw : IntKind.i64.wrap ((a * b : Nat) : Int) = ((a * b : Nat) : Int) := by
    have h0 : (0 : Int) ≤ ((a * b : Nat) : Int) := Int.natCast_nonneg _
    exact wrap64 (by omega) (by omega)
  simp only [eval, hx, hy, binV, binD, isShift, binInt, Bool.false_eq_true, if_false, if_true, e, hw]
theorem ev_min2 {hp : Hp} {a : Nat} (hx : ev env x = .c (.d (.int .i64 (a : Nat)))) (hy : ev env y = .c (.d (.int .i64 2))) : eval cl env hp (.min x y) = some (.c (.d (.int .i64 ((min 2 a : Nat) : Int))), hp) := by
  simp only [eval, hx, hy]
  have : (if (2 : Int) < (a : Int) then (2 : Int) else (a : Int)) = ((min 2 a : Nat) : Int) := by
    by_cases h : 2 < a
    · rw [if_pos (by omega), Nat.min_eq_left (by omega)]; rfl
    · rw [if_neg (by omega), Nat.min_eq_right (by omega)]
  rw [this]
theorem step_hR {f : Nat} {args : List Opd} {T : List V → Hp → (V → Hp → Prop) → Prop} {R : V → Hp → Prop} (hT : cl.heap f = some T) (fine : Fine cl) (hR : T (evs env args) ⟨nx, ob⟩ R)
    (hk : ∀ v nx' ob', R v ⟨nx', ob'⟩ → opsWp cl r K ⟨(d, v) :: env, ⟨nx', ob'⟩⟩) : opsWp cl (⟨some d, .hcall f args, none⟩ :: r) K ⟨env, ⟨nx, ob⟩⟩ := by
  obtain ⟨v, ⟨nx', ob'⟩, k1, k2⟩ := fine f T hT _ _ _ hR
  exact step_hcall hT (k2 _ (hk v nx' ob' k1))
end
def wpOf (cl : Call) (c : ACode) (rs : List ARes) : List V → Hp → (V → Hp → Prop) → Prop := fun xs h K => awp cl c (HeapQ rs K) ⟨argE 0 xs, h⟩
theorem wpOf_one {cl : Call} {c : ACode} {rs : List ARes} (fine : Fine cl) {xs : List V} {h : Hp} {K : V → Hp → Prop} (hk : wpOf cl c rs xs h K) : ∃ v h', K v h' ∧ ∀ K' : V → Hp → Prop, K' v h' → wpOf cl c rs xs h K' := by
  obtain ⟨e, s, k1, k2⟩ := awp_det fine c hk
  cases e with
  | normal => obtain ⟨v, h1, h2⟩ := k1; exact ⟨v, s.hp, h2, fun K' h => k2 _ ⟨v, h1, h⟩⟩
  | ret => obtain ⟨v, h1, h2⟩ := k1; exact ⟨v, s.hp, h2, fun K' h => k2 _ ⟨v, h1, h⟩⟩
  | _ => exact k1.elim
theorem wpOf_ok {P : Program} {H : Hint} {cl : Call} {f : FuncId} {n : Nat} {ac : ACode} {rs : List ARes} (fok : FnOk P H f n ac rs) (ok : CallOk P H.glob cl) : HeapOk P H.glob f (wpOf cl ac rs) := heap_ok fok ok fun _ _ _ h => h
def shD (part : List UInt8 → Bool) (o : Op3) : List D := match shapeOf part o.pat with
  | some ⟨ps, l, r⟩ => [.list 1 (ofStrs ps), .bool l, .bool r]
  | none => [.list 0 [], .bool false, .bool false]
theorem shD_eq (part : List UInt8 → Bool) (o : Op3) : ∃ sz, shD part o = [.list sz (ofStrs (shOf part o).parts), .bool (shOf part o).left, .bool (shOf part o).right] ∧ (sz = 1 ∨ (shOf part o).parts = []) := by
  unfold shD shOf
  cases shapeOf part o.pat with
  | none => exact ⟨0, rfl, .inr rfl⟩
  | some v => exact ⟨1, rfl, .inl rfl⟩
theorem shOf_len (part : List UInt8 → Bool) (o : Op3) : (shOf part o).parts.length ≤ 4 := by
  unfold shOf
  cases h : shapeOf part o.pat with
  | none => exact Nat.zero_le _
  | some v => exact (mayS_inv (shapeOf_some h).2.2).2.1
structure DX where
  c : Drv
  f : Nat → Int
  esz : Nat
  tsz : Nat
  x : Nat
  sx : Nat
  my : Nat
  sc : C
def DX.cells (X : DX) : List C := .d (.list X.esz (X.c.ops.map opD)) :: (rowsC X.f ++ [.d (.list X.tsz (X.c.toks.map tkD)), X.sc, .map X.my])
structure DXok (X : DX) : Prop where
  part : X.c.part = partE
  fit : X.c.fit = fitsOf partE X.f
  lf : X.c.lf = fun t => leafB t.k (entsOf partE X.f t.s X.c.ops).isEmpty
  ops : X.c.ops.length ≤ 1000
  toks : X.c.toks.length ≤ 1000
structure DH (X : DX) (es : List (D × C)) (nx : Nat) (ob : List (Nat × Ob)) : Prop where
  hx : look ob X.x = some (.cells X.cells)
  hs : 0 < X.c.ops.length → X.sc = .own X.sx (X.c.ops.map (shD X.c.part)).length ∧ look ob X.sx = some (.row 3 (X.c.ops.map (shD X.c.part)))
  hm : look ob X.my = some (.map es)
  he : EsOk X.c es
  lx : X.x < nx
  ls : X.sx < nx
  lm : X.my < nx
  xm : X.x ≠ X.my
  sm : X.sx ≠ X.my
theorem DH.keep {X : DX} {es : List (D × C)} {nx nx' : Nat} {ob ob' : List (Nat × Ob)} (D : DH X es nx ob) (hn : nx ≤ nx') (h : ∀ y, y < nx → look ob' y = look ob y) : DH X es nx' ob' :=
  ⟨(h _ D.lx).trans D.hx, fun h0 => ⟨(D.hs h0).1, (h _ D.ls).trans (D.hs h0).2⟩, (h _ D.lm).trans D.hm, D.he, by have := D.lx; omega, by have := D.ls; omega, by have := D.lm; omega, D.xm, D.sm⟩
def RD (X : DX) (nx : Nat) (ob : List (Nat × Ob)) (v0 : V) (v : V) (h : Hp) : Prop :=
  v = v0 ∧ nx ≤ h.next ∧ (∃ es', DH X es' h.next h.obs) ∧ ∀ y, y < nx → y ≠ X.my → look h.obs y = look ob y
def topOk (c : Drv) (t : Option Nat) : Prop := ∀ k, t = some k → k < c.ops.length
theorem tk_at {c : Drv} {i : Nat} (h : i < c.toks.length) : (c.toks.map tkD)[((i : Nat) : Int).toNat]? = some (tkD (c.tk i)) := by
  have : c.tk i = c.toks[i] := by unfold Drv.tk; rw [List.getD_eq_getElem?_getD, List.getElem?_eq_getElem h]; rfl
  rw [this, Int.toNat_natCast, List.getElem?_map, List.getElem?_eq_getElem h]
  rfl
theorem op_at {c : Drv} {i : Nat} (h : i < c.ops.length) : (c.ops.map opD)[((i : Nat) : Int).toNat]? = some (opD (c.op i)) := by
  have : c.op i = c.ops[i] := by unfold Drv.op; rw [List.getD_eq_getElem?_getD, List.getElem?_eq_getElem h]; rfl
  rw [this, Int.toNat_natCast, List.getElem?_map, List.getElem?_eq_getElem h]
  rfl
theorem sh_at {c : Drv} {i : Nat} (h : i < c.ops.length) : (c.ops.map (shD c.part))[i]? = some (shD c.part (c.op i)) := by
  have : c.op i = c.ops[i] := by unfold Drv.op; rw [List.getD_eq_getElem?_getD, List.getElem?_eq_getElem h]; rfl
  rw [this, List.getElem?_map, List.getElem?_eq_getElem h]
  rfl
set_option maxRecDepth 8000 in
theorem w335 {cl : Call} {X : DX} {es : List (D × C)} {nx : Nat} {ob : List (Nat × Ob)} (D : DH X es nx ob) {i : Nat} (hi : i < X.c.toks.length) (s : List UInt8) :
    wpOf cl c335 [.t 6] [.c (.ptr X.x 0), .c (.d (.int .i64 (i : Nat))), .c (.d (.str s))] ⟨nx, ob⟩ (RD X nx ob (.c (.d (.bool (X.c.solo i s))))) := by
  have hx := D.hx
  have ht := tk_at hi
  have fin : ∀ b, RD X nx ob (.c (.d (.bool b))) (.c (.d (.bool b))) ⟨nx, ob⟩ := fun b => ⟨rfl, Nat.le_refl _, ⟨es, D⟩, fun _ _ _ => rfl⟩
  unfold Drv.solo soloK
  unfold wpOf
  generalize X.c.tk i = t at ht ⊢
  obtain ⟨k, a, b, tx, e⟩ := t
  by_cases hk : k = 6
  · by_cases hs : tx = s
    · have e1 : (decide (k = 6) && decide (tx = s)) = true := by simp [hk, hs]
      simp only [e1]
      unfold c335
      repeat' first | refine GoH ?_ | refine ZB (ev_load rfl hx rfl) ?_ | refine ZB (ev_idx rfl rfl (by omega) ht rfl) ?_ | refine ZB (ev_eql_t rfl rfl hk) ?_ | refine ZB (ev_eqs_t rfl rfl hs) ?_ | refine ZB rfl ?_|refine ZC rfl ?_
      exact ⟨_, rfl, fin true⟩
    · have e1 : (decide (k = 6) && decide (tx = s)) = false := by simp [hs]
      simp only [e1]
      unfold c335
      repeat' first | refine GoH ?_ | refine ZB (ev_load rfl hx rfl) ?_ | refine ZB (ev_idx rfl rfl (by omega) ht rfl) ?_ | refine ZB (ev_eql_t rfl rfl hk) ?_ | refine ZB (ev_eqs_f rfl rfl hs) ?_ | refine ZB rfl ?_|refine ZC rfl ?_
      exact ⟨_, rfl, fin false⟩
  · have e1 : (decide (k = 6) && decide (tx = s)) = false := by simp [hk]
    simp only [e1]
    unfold c335
    repeat' first | refine GoH ?_ | refine ZB (ev_load rfl hx rfl) ?_ | refine ZB (ev_idx rfl rfl (by omega) ht rfl) ?_ | refine ZB (ev_eql_f rfl rfl hk) ?_ | refine ZB rfl ?_|refine ZC rfl ?_
    exact ⟨_, rfl, fin false⟩
set_option maxRecDepth 8000 in
set_option maxHeartbeats 2000000 in
theorem w337 {cl : Call} (hcl : cl.pure 49 = some (T23 partE)) {X : DX} (ok : DXok X) {es : List (D × C)} {nx : Nat} {ob : List (Nat × Ob)} (D : DH X es nx ob) {o : Int} {on : Nat} {t : Option Nat} (ht : topOk X.c t) {outer right : Bool} (ho : outer = true → o = (on : Int) ∧ on < X.c.ops.length) :
    wpOf cl c337 [.t 8] [.c (.ptr X.x 0), .c (.d (.int .i64 o)), .c (.d (.int .i64 (topI t))), .agg [.d (.bool outer), .d (.bool right)]] ⟨nx, ob⟩ (RD X nx ob (.c (.d (.bool (X.c.fitT on t outer right))))) := by
  have hfit := ok.fit
  have fin : ∀ b ob', (∀ y, y < nx → look ob' y = look ob y) → RD X nx ob (.c (.d (.bool b))) (.c (.d (.bool b))) ⟨nx + 1, ob'⟩ := fun b ob' h => ⟨rfl, Nat.le_succ _, ⟨es, D.keep (Nat.le_succ _) h⟩, fun y hy _ => h y hy⟩
  unfold wpOf
  cases t with
  | none =>
    unfold c337
    repeat' first | refine GoH ?_ | (refine step_boxA rfl ?_; intro ob' hb hk) | (with_reducible first|apply ZS|apply ZT)|((with_reducible apply ZU);rfl)|((with_reducible apply ZV);rfl;decide)|((with_reducible apply ZW);rfl)|refine ZX rfl rfl ?_|refine ZY rfl (by (repeat' first|exact True.intro|refine ⟨?_, ?_⟩|exact .inl rfl|exact .inr (.inl rfl)|exact .inr (.inr rfl)|rfl)) ?_ | refine ZB rfl ?_|refine ZC rfl ?_
    exact ⟨_, rfl, fin true ob' hk⟩
  | some k =>
    have hkl := ht k rfl
    have ek : topI (some k) = (k : Int) := rfl
    rw [ek]
    cases outer with
    | false =>
      unfold c337
      repeat' first | refine GoH ?_ | (refine step_boxA rfl ?_; intro ob' hb hk) | refine ZX rfl (ev_eql_f rfl rfl (by omega)) ?_ | refine ZY (ev_load rfl hb rfl) (by (repeat' first|exact True.intro|refine ⟨?_, ?_⟩|exact .inl rfl|exact .inr (.inl rfl)|exact .inr (.inr rfl)|rfl)) ?_ | (with_reducible first|apply ZS|apply ZT)|((with_reducible apply ZU);rfl)|((with_reducible apply ZV);rfl;decide)|((with_reducible apply ZW);rfl)|refine ZX rfl rfl ?_|refine ZY rfl (by (repeat' first|exact True.intro|refine ⟨?_, ?_⟩|exact .inl rfl|exact .inr (.inl rfl)|exact .inr (.inr rfl)|rfl)) ?_ | refine ZB rfl ?_|refine ZC rfl ?_
      exact ⟨_, rfl, fin true ob' hk⟩
    | true =>
      obtain ⟨rfl, hon⟩ := ho rfl
      have h1 := op_at hon
      have h2 := op_at hkl
      have hv : X.c.fitT on (some k) true right = fitsOf partE X.f (X.c.op on) (X.c.op k) right := by simp [Drv.fitT, hfit]
      have h23 := T23_eq partE X.f (X.c.op on) (X.c.op k) right
      rw [← hv] at h23
      generalize X.c.fitT on (some k) true right = bb at h23 ⊢
      generalize X.c.op on = o1 at h1 h23
      generalize X.c.op k = o2 at h2 h23
      obtain ⟨q, g, a⟩ := o1
      obtain ⟨q', g', a'⟩ := o2
      unfold c337
      repeat' first
        | refine GoH ?_
        | (refine step_boxA rfl ?_; intro ob' hb hk; have hx := (hk _ D.lx).trans D.hx)
        | refine ZX rfl (ev_eql_f rfl rfl (by omega)) ?_
        | refine ZY (ev_load rfl hb rfl) (by (repeat' first|exact True.intro|refine ⟨?_, ?_⟩|exact .inl rfl|exact .inr (.inl rfl)|exact .inr (.inr rfl)|rfl)) ?_
        | refine ZY (ev_load rfl hx rfl) (by (repeat' first|exact True.intro|refine ⟨?_, ?_⟩|exact .inl rfl|exact .inr (.inl rfl)|exact .inr (.inr rfl)|rfl)) ?_
        | refine ZY (ev_idx rfl rfl (by omega) h1 rfl) (by (repeat' first|exact True.intro|refine ⟨?_, ?_⟩|exact .inl rfl|exact .inr (.inl rfl)|exact .inr (.inr rfl)|rfl)) ?_
        | refine ZY (ev_idx rfl rfl (by omega) h2 rfl) (by (repeat' first|exact True.intro|refine ⟨?_, ?_⟩|exact .inl rfl|exact .inr (.inl rfl)|exact .inr (.inr rfl)|rfl)) ?_
        | refine ZY (ev_pcall hcl rfl h23 rfl rfl) (by (repeat' first|exact True.intro|refine ⟨?_, ?_⟩|exact .inl rfl|exact .inr (.inl rfl)|exact .inr (.inr rfl)|rfl)) ?_
        | (with_reducible first|apply ZS|apply ZT)|((with_reducible apply ZU);rfl)|((with_reducible apply ZV);rfl;decide)|((with_reducible apply ZW);rfl)|refine ZX rfl rfl ?_|refine ZY rfl (by (repeat' first|exact True.intro|refine ⟨?_, ?_⟩|exact .inl rfl|exact .inr (.inl rfl)|exact .inr (.inr rfl)|rfl)) ?_
        | refine ZB rfl ?_|refine ZC rfl ?_
      exact ⟨_, rfl, fin bb ob' hk⟩
def stepDV (v : SV) (p : Nat) (done : Bool) : DV := match opn v p done with
  | some (o, r) => .tup [.agg [.bool o, .bool r], .c (.bool true)]
  | none => .tup [.agg [.bool (decide (p = 0 ∨ p = v.parts.length)), .bool (decide (p ≠ 0 ∧ p = v.parts.length))], .c (.bool false)]
noncomputable def T344 : List DV → Option DV := fam (fun x : SV × Nat × Nat × Bool => [.agg [.list x.2.1 (ofStrs x.1.parts), .bool x.1.left, .bool x.1.right], .c (.int .i64 (x.2.2.1 : Nat)), .c (.bool x.2.2.2)]) (fun _ => True) (fun x => stepDV x.1 x.2.2.1 x.2.2.2)
theorem T344_eq (v : SV) (sz p : Nat) (done : Bool) : T344 [.agg [.list sz (ofStrs v.parts), .bool v.left, .bool v.right], .c (.int .i64 (p : Nat)), .c (.bool done)] = some (stepDV v p done) := by
  refine fam_eq (ι := SV × Nat × Nat × Bool) (v, sz, p, done) True.intro ?_
  rintro ⟨⟨ps, l, r⟩, sz', p', done'⟩ _ he
  obtain ⟨ps2, l2, r2⟩ := v
  simp only [List.cons.injEq, DV.agg.injEq, DV.c.injEq, D.list.injEq, D.bool.injEq, D.int.injEq, true_and, and_true] at he
  obtain ⟨⟨⟨_, h1⟩, rfl, rfl⟩, h2, rfl⟩ := he
  obtain rfl := ofStrs_inj h1
  obtain rfl : p' = p := by omega
  rfl
set_option maxRecDepth 8000 in
set_option maxHeartbeats 4000000 in
theorem w344 (x : SV × Nat × Nat × Bool) (_ : True) : awp (tbl []) c344 (PureQ [.cell 6 2 true, .t 7] (stepDV x.1 x.2.2.1 x.2.2.2)) ⟨argE 0 (dvArgs [.agg [.list x.2.1 (ofStrs x.1.parts), .bool x.1.left, .bool x.1.right], .c (.int .i64 (x.2.2.1 : Nat)), .c (.bool x.2.2.2)]), ⟨0, []⟩⟩ := by
  obtain ⟨⟨ps, l, r⟩, sz, p, done⟩ := x
  have hlen := ofStrs_len ps
  simp only
  by_cases h0 : p = 0
  · subst h0
    have e : stepDV ⟨ps, l, r⟩ 0 done = .tup [.agg [.bool true, .bool false], .c (.bool (l && !done))] := by
      cases l <;> cases done <;> simp [stepDV, opn]
    rw [e]
    unfold c344
    cases l <;> cases done <;> (repeat' first | refine GoH ?_ | refine ZB rfl ?_|refine ZC rfl ?_) <;> exact ⟨_, rfl, rfl⟩
  · by_cases hl : p = ps.length
    · have e : stepDV ⟨ps, l, r⟩ p done = .tup [.agg [.bool true, .bool true], .c (.bool (r && !done))] := by
        cases r <;> cases done <;> simp [stepDV, opn, h0, ← hl]
      rw [e]
      unfold c344
      cases r <;> cases done <;> (repeat' first | refine GoH ?_ | refine ZB (ev_eql_f rfl rfl (by omega)) ?_ | refine ZB (ev_eql_t rfl rfl (by omega)) ?_ | refine ZB rfl ?_|refine ZC rfl ?_) <;> exact ⟨_, rfl, rfl⟩
    · have e : stepDV ⟨ps, l, r⟩ p done = .tup [.agg [.bool false, .bool false], .c (.bool (!done))] := by
        cases done <;> simp [stepDV, opn, h0, hl]
      rw [e]
      unfold c344
      cases done <;> (repeat' first | refine GoH ?_ | refine ZB (ev_eql_f rfl rfl (by omega)) ?_ | refine ZB rfl ?_|refine ZC rfl ?_) <;> exact ⟨_, rfl, rfl⟩
theorem pok344 (m : Int) : PureOk Go.Proofs.Tryd.prog (glb m) 58 T344 := .inl (fam_ok (fn344 m) (callOk_nil _ _) w344)
end Go.Am
