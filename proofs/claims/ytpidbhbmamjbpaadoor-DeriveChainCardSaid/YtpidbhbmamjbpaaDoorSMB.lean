/-
  The abstract machine's operations are sound.
-/
import Derived.Test.YtpidbhbmamjbpaaDoorSMA
import Derived.Laws.Strings
import Derived.Laws.BytesArg
namespace Go.Am
open Go
structure Sim (N : Nat) (F : Nat → Prop) (gl : Nat → Option (List D)) (st : St) (ρ : Rho) (a : Act) (w : World) : Prop where
  hs : HSim F gl w st.hp ρ
  size : N ≤ a.tmps.size
  env : ∀ t, RepV (cx F w st.hp ρ) (getV st.env t) (a.tmps.getD t undef)
  defers : a.defers = []
def Step (P : Program) (o : Oper) (a : Act) (w : World) (F : Nat → Prop) (gl : Nat → Option (List D)) (h : Hp) (ρ : Rho) (v : V) (h' : Hp) : Prop :=
  ∀ (next : Act → World → Prop) (Q : Exit → Act → World → Prop),
    (∀ val w' ρ', RepV (cx F w' h' ρ') v val → HSim F gl w' h' ρ' → Later F w h ρ w' h' ρ' → next (a.put o.dst val) w') → o.wp P a w next Q
section
variable {P : Program} {o : Oper} {a : Act} {w w' : World} {F : Nat → Prop} {gl : Nat → Option (List D)} {h h' : Hp} {ρ ρ' : Rho} {v : V} {val : Value}
theorem Step.value (hr : (execOp a.eval o).run P w = .ok (.value val) w') (hv : RepV (cx F w' h' ρ') v val) (hs : HSim F gl w' h' ρ') (hl : Later F w h ρ w' h' ρ') : Step P o a w F gl h ρ v h' := by
  intro next Q k
  unfold Oper.wp
  rw [hr]
  exact k val w' ρ' hv hs hl
theorem Step.quiet (hs : HSim F gl w h ρ) (hr : (execOp a.eval o).run P w = .ok (.value val) w) (hv : RepV (cx F w h ρ) v val) : Step P o a w F gl h ρ v h :=
  .value hr hv hs (.refl _ _ _ _)
theorem Step.skip (hr : (execOp a.eval o).run P w = .ok .skip w') (hs : HSim F gl w' h' ρ') (hl : Later F w h ρ w' h' ρ') : Step P o a w F gl h ρ (.tup []) h' := by
  intro next Q k
  unfold Oper.wp
  rw [hr]
  exact k undef w' ρ' (.tup [] [] rfl (fun i q v h => by simp at h)) hs hl
theorem bytes_eq (s : ByteArray) : s = ⟨⟨s.data.toList⟩⟩ := by cases s; rfl
theorem constD_rep {w : World} {A : Nat → Prop} {v : Value} {d : D} (hc : constD v = some d) : RepD w A d v := by
  unfold constD at hc
  split at hc <;> cases hc
  · exact .int _ _
  · exact .bool _
  · rename_i s
    have := RepD.str (w := w) (A := A) s.data.toList
    rwa [← bytes_eq s] at this
  · exact .nilp
  · exact .nilf
  · exact .nili
theorem constC_rep {X : Cx} {v : Value} {q : C} (hc : constC v = some q) : RepC X q v := by
  unfold constC at hc
  split at hc
  · cases hc; exact .nil
  · cases hd : constD v with
    | none => rw [hd] at hc; cases hc
    | some d => rw [hd] at hc; cases hc; exact .d d v (constD_rep hd)
theorem constC_any {v : Value} {q : C} (hc : constC v = some q) : q.isAny = false := by
  unfold constC at hc
  split at hc
  · cases hc; rfl
  · cases hd : constD v with
    | none => rw [hd] at hc; cases hc
    | some d => rw [hd] at hc; cases hc; rfl
theorem constCs_rep {X : Cx} : ∀ {vs : List Value} {cs : List C}, constCs vs = some cs → vs.length = cs.length ∧ (∀ (i : Nat) (q : C) (v : Value), cs[i]? = some q → vs[i]? = some v → RepC X q v) ∧ ∀ q ∈ cs, q.isAny = false
  | [], cs, hc => by cases hc; exact ⟨rfl, fun i q v h => by simp at h, fun q h => by simp at h⟩
  | v :: r, cs, hc => by
    unfold constCs at hc
    cases h1 : constC v with
    | none => rw [h1] at hc; cases hc
    | some q =>
      cases h2 : constCs r with
      | none => rw [h1, h2] at hc; cases hc
      | some l =>
        rw [h1, h2] at hc
        cases hc
        obtain ⟨e1, e2, e3⟩ := constCs_rep (X := X) h2
        refine ⟨by simp [e1], ?_, ?_⟩
        · intro i q' v' hq hv
          cases i with
          | zero => simp at hq hv; subst hq; subst hv; exact constC_rep h1
          | succ i => exact e2 i q' v' (by simpa using hq) (by simpa using hv)
        · intro q' hq'
          cases hq' with
          | head => exact constC_any h1
          | tail _ hm => exact e3 q' hm
theorem constCsA_rep {X : Cx} : ∀ {vs : List Value} {cs : List C}, constCsA vs = some cs → vs.length = cs.length ∧ (∀ (i : Nat) (q : C) (v : Value), cs[i]? = some q → vs[i]? = some v → RepC X q v)
  | [], cs, hc => by cases hc; exact ⟨rfl, by simp⟩
  | v :: r, cs, hc => by
    unfold constCsA at hc
    cases h2 : constCsA r with
    | none => rw [h2] at hc; cases hc
    | some l =>
      rw [h2] at hc
      cases hc
      obtain ⟨e1, e2⟩ := constCsA_rep (X := X) h2
      refine ⟨by simp [e1], ?_⟩
      intro i q u hq hu
      cases i with
      | zero =>
        simp at hq hu
        subst hq; subst hu
        cases h1 : constC v with
        | none => exact .any _
        | some c => exact constC_rep h1
      | succ i => exact e2 i q u (by simpa using hq) (by simpa using hu)
theorem constDs_rep {w : World} {A : Nat → Prop} : ∀ {vs : List Value} {ds : List D}, constDs vs = some ds → vs.length = ds.length ∧ ∀ (i : Nat) (d : D) (v : Value), ds[i]? = some d → vs[i]? = some v → RepD w A d v
  | [], cs, hc => by cases hc; exact ⟨rfl, fun i q v h => by simp at h⟩
  | v :: r, cs, hc => by
    have key : ∀ d, RepD w A d v → (∃ l, constDs r = some l ∧ cs = d :: l) → (v :: r).length = cs.length ∧ ∀ (i : Nat) (d : D) (v' : Value), cs[i]? = some d → (v :: r)[i]? = some v' → RepD w A d v' := by
      rintro d hd ⟨l, hl, rfl⟩
      obtain ⟨e1, e2⟩ := constDs_rep (w := w) (A := A) hl
      refine ⟨by simp [e1], ?_⟩
      intro i q' v' hq hv
      cases i with
      | zero => simp at hq hv; subst hq; subst hv; exact hd
      | succ i => exact e2 i q' v' (by simpa using hq) (by simpa using hv)
    unfold constDs at hc
    split at hc
    · rename_i heq
      cases heq
    · rename_i r' heq
      cases heq
      cases h2 : constDs r with
      | none => rw [h2] at hc; cases hc
      | some l => rw [h2] at hc; cases hc; exact key (.list 0 []) (.nil _ _ _) ⟨l, h2, rfl⟩
    · rename_i v' r' _ heq
      cases heq
      cases h1 : constD v with
      | none => rw [h1] at hc; cases hc
      | some d =>
        cases h2 : constDs r with
        | none => rw [h1, h2] at hc; cases hc
        | some l => rw [h1, h2] at hc; cases hc; exact key d (constD_rep h1) ⟨l, h2, rfl⟩
variable {N : Nat} {st : St} {H : Hint}
theorem ev_rep (sm : Sim N F H.glob st ρ a w) {x : Operand} {y : Opd} (hx : trX H x = some y) : RepV (cx F w st.hp ρ) (ev st.env y) (a.eval x) := by
  cases x with
  | tmp t => cases hx; exact sm.env t
  | const v =>
    simp only [trX] at hx
    cases hc : constC v with
    | none =>
      rw [hc] at hx
      simp only at hx
      split at hx <;> cases hx
      exact .c _ _ (.any _)
    | some q => rw [hc] at hx; cases hx; exact .c q v (constC_rep hc)
  | func f => cases hx; exact .c _ _ (.d _ _ (.fn f))
  | global g =>
    simp only [trX] at hx
    cases hc : H.glob g with
    | none => rw [hc] at hx; cases hx
    | some ds => rw [hc] at hx; cases hx; exact .c _ _ (sm.hs.glob g ds hc)
theorem evs_rep (sm : Sim N F H.glob st ρ a w) : ∀ {xs : List Operand} {ys : List Opd}, trXs H xs = some ys → (xs.map a.eval).length = (evs st.env ys).length ∧ ∀ (i : Nat) (q : V) (v : Value), (evs st.env ys)[i]? = some q → (xs.map a.eval)[i]? = some v → RepV (cx F w st.hp ρ) q v
  | [], ys, hx => by cases hx; exact ⟨rfl, fun i q v h => by simp [evs] at h⟩
  | x :: r, ys, hx => by
    unfold trXs at hx
    cases h1 : trX H x with
    | none => rw [h1] at hx; cases hx
    | some y =>
      cases h2 : trXs H r with
      | none => rw [h1, h2] at hx; cases hx
      | some l =>
        rw [h1, h2] at hx
        cases hx
        obtain ⟨e1, e2⟩ := evs_rep sm h2
        refine ⟨by simpa [evs] using e1, ?_⟩
        intro i q v hq hv
        cases i with
        | zero => simp [evs] at hq hv; subst hq; subst hv; exact ev_rep sm h1
        | succ i => exact e2 i q v (by simpa [evs] using hq) (by simpa using hv)
theorem RepC.one {X : Cx} {q : C} {v : Value} (hq : RepC X q v) (ha : q.isAny = false) : v.oneCell' = true := by
  cases hq with
  | d d v hd => cases hd <;> rfl
  | any v => cases ha
  | _ => rfl
theorem RepC.cells1 {X : Cx} {q : C} {v : Value} (hq : RepC X q v) (ha : q.isAny = false) : v.cells = #[v] := by
  have := hq.one ha
  cases v <;> first | rfl | cases this
theorem noAny_mem : ∀ {cs : List C}, noAny cs = true → ∀ q ∈ cs, q.isAny = false
  | [], _, q, h => by simp at h
  | c :: r, hn, q, h => by
    cases h with
    | head => cases c <;> first | rfl | simp [noAny] at hn
    | tail _ hm => exact noAny_mem (cs := r) (by cases c <;> first | exact hn | simp [noAny] at hn) q hm
theorem cells_rep {X : Cx} {v : V} {val : Value} {cs : List C} (hv : RepV X v val) (hc : v.cells = some cs) :
    ∃ vs : List Value, val.cells = vs.toArray ∧ vs.length = cs.length ∧ (∀ (i : Nat) (q : C) (v : Value), cs[i]? = some q → vs[i]? = some v → RepC X q v) ∧ ∀ q ∈ cs, q.isAny = false := by
  cases hv with
  | c q val hq =>
    have ha : q.isAny = false := by cases q <;> first | rfl | (simp [V.cells] at hc)
    have : cs = [q] := by cases q <;> first | (simp [V.cells] at hc; exact hc.symm) | (simp [V.cells] at hc)
    subst this
    refine ⟨[val], hq.cells1 ha, rfl, ?_, by simpa using ha⟩
    intro i q' v' h1 h2
    cases i with
    | zero => simp at h1 h2; subst h1; subst h2; exact hq
    | succ i => simp at h1
  | agg cs' vs hl hcs =>
    simp only [V.cells] at hc
    cases hn : noAny cs' with
    | false => rw [hn] at hc; cases hc
    | true => rw [hn] at hc; cases hc; exact ⟨vs, rfl, hl, hcs, noAny_mem hn⟩
  | tup xs vs => cases hc
theorem ev_int {X : Cx} {k : IntKind} {n : Int} {val : Value} (hv : RepV X (.c (.d (.int k n))) val) : val = .int k n := by
  cases hv with | c _ _ hq => cases hq with | d _ _ hd => cases hd; rfl
theorem ev_bool {X : Cx} {b : Bool} {val : Value} (hv : RepV X (.c (.d (.bool b))) val) : val = .bool b := by
  cases hv with | c _ _ hq => cases hq with | d _ _ hd => cases hd; rfl
theorem ev_str {X : Cx} {s : List UInt8} {val : Value} (hv : RepV X (.c (.d (.str s))) val) : val = .string ⟨⟨s⟩⟩ := by
  cases hv with | c _ _ hq => cases hq with | d _ _ hd => cases hd; rfl
theorem ev_asInt {X : Cx} {v : V} {i : Int} {val : Value} (hv : RepV X v val) (hi : asInt v = some i) : ∃ k, val = .int k i := by
  unfold asInt at hi
  split at hi <;> cases hi
  exact ⟨_, ev_int hv⟩
theorem rep_int {X : Cx} (k : IntKind) (n : Int) : RepV X (.c (.d (.int k n))) (.int k n) := .c _ _ (.d _ _ (.int k n))
theorem rep_bool {X : Cx} (b : Bool) : RepV X (.c (.d (.bool b))) (.bool b) := .c _ _ (.d _ _ (.bool b))
theorem rep_str {X : Cx} (s : List UInt8) : RepV X (.c (.d (.str s))) (.string ⟨⟨s⟩⟩) := .c _ _ (.d _ _ (.str s))
theorem step_move (hs : HSim F gl w h ρ) {x : Operand} (ho : o.op = .move x ∨ o.op = .assign x) {y : Opd} {e : Env} (hv : RepV (cx F w h ρ) (ev e y) (a.eval x)) {cl : Call} (he : eval cl e h (.move y) = some (v, h')) : Step P o a w F gl h ρ v h' := by
  have : v = ev e y ∧ h' = h := by
    simp only [eval] at he
    cases hy : ev e y <;> rw [hy] at he <;> cases he <;> exact ⟨rfl, rfl⟩
  obtain ⟨rfl, rfl⟩ := this
  exact .quiet hs (val := a.eval x) (by rcases ho with ho | ho <;> simp [execOp, ho]) hv
theorem step_pick (hs : HSim F gl w h ρ) {c x y : Operand} (ho : o.op = .pick c x y) {c' x' y' : Opd} {e : Env} (hc : RepV (cx F w h ρ) (ev e c') (a.eval c)) (hx : RepV (cx F w h ρ) (ev e x') (a.eval x)) (hy : RepV (cx F w h ρ) (ev e y') (a.eval y))
    {cl : Call} (he : eval cl e h (.pick c' x' y') = some (v, h')) : Step P o a w F gl h ρ v h' := by
  simp only [eval] at he
  split at he
  · rename_i hb
    cases he
    rw [hb] at hc
    refine .quiet hs (val := a.eval x) ?_ hx
    simp [execOp, ho, ev_bool hc, asBool]
  · rename_i hb
    cases he
    rw [hb] at hc
    refine .quiet hs (val := a.eval y) ?_ hy
    simp [execOp, ho, ev_bool hc, asBool]
  · cases he
theorem step_not (hs : HSim F gl w h ρ) {x : Operand} {t : TypeId} (ho : o.op = .unOp .not t x) {y : Opd} {e : Env} (hx : RepV (cx F w h ρ) (ev e y) (a.eval x))
    {cl : Call} (he : eval cl e h (.not y) = some (v, h')) : Step P o a w F gl h ρ v h' := by
  simp only [eval] at he
  split at he
  · rename_i b hb
    cases he
    rw [hb] at hx
    refine .quiet hs (val := .bool (!b)) ?_ (rep_bool _)
    simp [execOp, ho, ev_bool hx, Op.unary]
  · cases he
theorem step_nilCheck (hs : HSim F gl w h ρ) {x : Operand} (ho : o.op = .nilCheck x) {y : Opd} {e : Env} (hx : RepV (cx F w h ρ) (ev e y) (a.eval x))
    {cl : Call} (he : eval cl e h (.nilCheck y) = some (v, h')) : Step P o a w F gl h ρ v h' := by
  have key : v = ev e y ∧ h' = h ∧ ∃ p, a.eval x = .pointer (some p) := by
    simp only [eval] at he
    split at he <;> first | cases he | skip
    all_goals
      rename_i hb
      rw [hb] at hx ⊢
      refine ⟨rfl, rfl, ?_⟩
      generalize a.eval x = val at hx ⊢
      cases hx with | c _ _ hq => cases hq <;> exact ⟨_, rfl⟩
  obtain ⟨rfl, rfl, p, hp⟩ := key
  refine .quiet hs (val := a.eval x) ?_ hx
  simp [execOp, ho, hp]
theorem step_extract (hs : HSim F gl w h ρ) {x : Operand} {i : Nat} (ho : o.op = .extract x i) {y : Opd} {e : Env} (hx : RepV (cx F w h ρ) (ev e y) (a.eval x))
    {cl : Call} (he : eval cl e h (.extract y i) = some (v, h')) : Step P o a w F gl h ρ v h' := by
  simp only [eval] at he
  split at he
  · rename_i vs hb
    rw [hb] at hx
    generalize hval : a.eval x = val at hx
    cases hx with
    | tup _ ws hl hc =>
      cases hi : vs[i]? with
      | none => rw [hi] at he; cases he
      | some q =>
        rw [hi] at he
        cases he
        have hlt : i < ws.length := by rw [hl]; exact (List.getElem?_eq_some_iff.1 hi).1
        refine .quiet hs (val := ws[i]) ?_ (hc i _ _ hi (List.getElem?_eq_getElem hlt))
        simp [execOp, ho, hval, Instr.extract, hlt]
  · cases he
theorem step_toInt (hs : HSim F gl w h ρ) {x : Operand} {t s : TypeId} {k : IntKind} (ho : o.op = .convert s t x) (ht : P.underlying t = some (.int k)) (hs' : ∃ k', P.underlying s = some (.int k')) {y : Opd} {e : Env} (hx : RepV (cx F w h ρ) (ev e y) (a.eval x))
    {cl : Call} (he : eval cl e h (.toInt k y) = some (v, h')) : Step P o a w F gl h ρ v h' := by
  simp only [eval] at he
  split at he
  · rename_i n hb
    cases he
    rw [hb] at hx
    obtain ⟨k', hk'⟩ := hs'
    refine .quiet hs (val := .int k (k.wrap n)) ?_ (rep_int _ _)
    simp [execOp, ho, convert, run_underlying ht, run_underlying hk', ev_int hx, Conv.intToInt]
  · cases he
end
theorem bytes_append (s t : List UInt8) : (ByteArray.mk ⟨s⟩) ++ (ByteArray.mk ⟨t⟩) = ⟨⟨s ++ t⟩⟩ := by apply ByteArray.ext; simp
theorem bytes_toList (s : List UInt8) : (ByteArray.mk ⟨s⟩).toList = s := by rw [ByteArray.toList_eq]
theorem bytes_extract (s : List UInt8) (i j : Nat) : (ByteArray.mk ⟨s⟩).extract i j = ⟨⟨(s.take j).drop i⟩⟩ := by
  apply ByteArray.ext
  simp only [ByteArray.data_extract]
  apply Array.ext'
  simp [List.drop_take]
theorem bytes_size (s : List UInt8) : (ByteArray.mk ⟨s⟩).size = s.length := rfl
section
variable {P : Program} {o : Oper} {a : Act} {w w' : World} {F : Nat → Prop} {gl : Nat → Option (List D)} {h h' : Hp} {ρ ρ' : Rho} {v : V} {val : Value} {A : Nat → Prop}
theorem eqGuard_pass (op : BinOp) (t : TypeId) (x y : Operand) {p q : Value} (h : ¬ (p = .nilIface ∧ q = .nilIface)) (h2 : ∀ c d, ¬ (p = .agg c ∧ q = .agg d)) (w : World) : (eqGuard op t x y p q).run P w = .ok () w := by
  have key : (match p, q with
      | .nilIface, .nilIface =>
        if (x matches .const _) || (y matches .const _) then pure ()
        else do if ← Op.eqGuardIn Op.maxDepth t p q then unsupported (.noEntry "binop/eql: two nil values of an interface type with methods, neither of them the literal nil") else pure ()
      | .agg _, .agg _ => do
        if !(← program).eqGuardType (← program).depth t then pure ()
        else if ← Op.eqGuardIn Op.maxDepth t p q then unsupported (.noEntry "binop/eql: two nil values of an interface type with methods, in a part of a struct or an array") else pure ()
      | _, _ => (pure () : Sem Unit)).run P w = .ok () w := by
    split
    · exact absurd ⟨rfl, rfl⟩ h
    · exact absurd ⟨rfl, rfl⟩ (h2 _ _)
    · rfl
  unfold eqGuard
  split
  · simp only [Bool.not_true, Bool.false_eq_true, if_false]
    exact key
  · simp only [Bool.not_true, Bool.false_eq_true, if_false]
    exact key
  · rfl
theorem run_binInt (op : BinOp) (t : TypeId) (k : IntKind) (x y : Int) (w : World) {d : D} (hsh : isShift op = false) (hd : binInt op k x y = some d) :
    ∃ r, (binOp op t (.int k x) (.int k y)).run P w = .ok r w ∧ RepD w A d r := by
  cases op <;> simp only [binInt] at hd <;> first
    | (cases hsh; done)
    | (cases hd
       refine ⟨_, by simp only [binOp, ne_eq, not_true_eq_false, if_false, Op.intArith, Op.intBits, Op.intCmp]; rfl, ?_⟩
       first | exact .int _ _ | exact .bool _)
    | (split at hd
       · cases hd
       · rename_i hy
         cases hd
         refine ⟨_, by simp only [binOp, ne_eq, not_true_eq_false, if_false, Op.intDiv, if_neg hy]; rfl, ?_⟩
         exact .int _ _)
theorem run_shiftInt (op : BinOp) (t : TypeId) (k k' : IntKind) (x y : Int) (w : World) {d : D} (hsh : isShift op = true) (hd : shiftInt op k x y = some d) :
    ∃ r, (binOp op t (.int k x) (.int k' y)).run P w = .ok r w ∧ RepD w A d r := by
  unfold shiftInt at hd
  split at hd
  · cases hd
  · rename_i hy
    cases op <;> first | cases hsh | skip
    all_goals
      cases hd
      refine ⟨_, by simp only [binOp, Op.shift, if_neg hy]; rfl, .int _ _⟩
theorem run_binStr (op : BinOp) (t : TypeId) (x y : List UInt8) (w : World) {d : D} (hd : binStr op x y = some d) :
    ∃ r, (binOp op t (.string ⟨⟨x⟩⟩) (.string ⟨⟨y⟩⟩)).run P w = .ok r w ∧ RepD w A d r := by
  cases op <;> simp only [binStr] at hd <;> first
    | (cases hd; done)
    | (cases hd
       refine ⟨_, by simp only [binOp, Op.stringOp, bytes_toList]; rfl, .bool _⟩)
    | (split at hd
       · rename_i hlen
         cases hd
         refine ⟨_, ?_, .str _⟩
         have : ¬ (((⟨⟨x⟩⟩ : ByteArray).size + (⟨⟨y⟩⟩ : ByteArray).size : Nat) : Int) > IntKind.i64.max := by
           simp only [bytes_size]
           have : IntKind.i64.max = 9223372036854775807 := by decide
           rw [this]
           omega
         simp only [binOp, Op.stringOp, if_neg this, bytes_append]
         rfl
       · cases hd)
theorem step_bin (hs : HSim F gl w h ρ) {op : BinOp} {t yt : TypeId} {x y : Operand} (ho : o.op = .binOp op t x y yt) {x' y' : Opd} {e : Env} (hx : RepV (cx F w h ρ) (ev e x') (a.eval x)) (hy : RepV (cx F w h ρ) (ev e y') (a.eval y))
    {cl : Call} (he : eval cl e h (.bin op x' y') = some (v, h')) : Step P o a w F gl h ρ v h' := by
  simp only [eval] at he
  cases hb : binV op (ev e x') (ev e y') with
  | none => rw [hb] at he; cases he
  | some r =>
    rw [hb] at he
    cases he
    unfold binV at hb
    split at hb
    · rename_i d1 d2 e1 e2
      rw [e1] at hx
      rw [e2] at hy
      cases hd : binD op d1 d2 with
      | none => rw [hd] at hb; cases hb
      | some d =>
        rw [hd] at hb
        cases hb
        have key : ∃ r, (binOp op t (a.eval x) (a.eval y)).run P w = .ok r w ∧ RepD w (fun b => F b ∨ Own ρ h.obs b) d r ∧ ¬ (a.eval x = .nilIface ∧ a.eval y = .nilIface) ∧ ∀ c d, ¬ (a.eval x = .agg c ∧ a.eval y = .agg d) := by
          unfold binD at hd
          split at hd
          · rename_i k n k' n'
            rw [ev_int hx, ev_int hy]
            split at hd
            · rename_i hsh
              obtain ⟨r, hr, hrep⟩ := run_shiftInt (P := P) op t k k' n n' w hsh hd
              exact ⟨r, hr, hrep, by simp, by simp⟩
            · rename_i hsh
              split at hd
              · rename_i hk
                subst hk
                obtain ⟨r, hr, hrep⟩ := run_binInt (P := P) op t k n n' w (by simpa using hsh) hd
                exact ⟨r, hr, hrep, by simp, by simp⟩
              · cases hd
          · rename_i s s'
            rw [ev_str hx, ev_str hy]
            obtain ⟨r, hr, hrep⟩ := run_binStr (P := P) op t s s' w hd
            exact ⟨r, hr, hrep, by simp, by simp⟩
          · cases hd
        obtain ⟨r, hr, hrep, hn, hag⟩ := key
        refine .quiet hs (val := r) ?_ (.c _ _ (.d _ _ hrep))
        simp [execOp, ho, eqGuard_pass op t x y hn hag, hr]
    · cases hb
theorem step_beq (hs : HSim F gl w h ρ) {op : BinOp} {t yt : TypeId} {x y : Operand} (ho : o.op = .binOp op t x y yt) (ht : P.underlying t = some .bool) {neg : Bool} (hop : op = (if neg then .neq else .eql)) {x' y' : Opd} {e : Env} (hx : RepV (cx F w h ρ) (ev e x') (a.eval x)) (hy : RepV (cx F w h ρ) (ev e y') (a.eval y))
    {cl : Call} (he : eval cl e h (.beq neg x' y') = some (v, h')) : Step P o a w F gl h ρ v h' := by
  simp only [eval] at he
  split at he
  · rename_i p q e1 e2
    rw [e1] at hx
    rw [e2] at hy
    have hn : ¬ (a.eval x = .nilIface ∧ a.eval y = .nilIface) := by rw [ev_bool hx]; simp
    have hag : ∀ c d, ¬ (a.eval x = .agg c ∧ a.eval y = .agg d) := by rw [ev_bool hx]; simp
    have hg := fun w => eqGuard_pass (P := P) op t x y hn hag w
    have he' : ∀ w, (Op.equal t (.bool p) (.bool q)).run P w = .ok (p == q) w := fun w => by
      have : ∀ n, (Op.equalIn (n + 1) t (.bool p) (.bool q)).run P w = .ok (p == q) w := fun n => by
        simp only [Op.equalIn, Sem.run_bind, run_underlying ht, Result.andThen_ok, Sem.run_pure]
      exact this 9999
    have hg' := hg w
    rw [ev_bool hx, ev_bool hy] at hg'
    cases neg
    · cases he
      have hop' : op = .eql := by simpa using hop
      subst hop'
      refine .quiet hs (val := .bool (p == q)) ?_ (rep_bool _)
      simp [execOp, ho, ev_bool hx, ev_bool hy, binOp, he', hg']
    · cases he
      have hop' : op = .neq := by simpa using hop
      subst hop'
      refine .quiet hs (val := .bool (!(p == q))) ?_ (rep_bool _)
      simp [execOp, ho, ev_bool hx, ev_bool hy, binOp, he', hg']
  · cases he
theorem firstN_eq {α : Type} : ∀ {l : List α} {n : Nat} {r : List α}, firstN l n = some r → r = l.take n ∧ n ≤ l.length
  | l, 0, r, h => by cases l <;> cases h <;> simp
  | [], n + 1, r, h => by cases h
  | x :: l, n + 1, r, h => by
    unfold firstN at h
    cases hl : firstN l n with
    | none => rw [hl] at h; cases h
    | some r' =>
      rw [hl] at h
      cases h
      obtain ⟨e1, e2⟩ := firstN_eq hl
      exact ⟨by simp [e1], by simp; exact e2⟩
theorem sub_eq {α : Type} : ∀ {l : List α} {o n : Nat} {r : List α}, sub l o n = some r → r = (l.drop o).take n ∧ o + n ≤ l.length
  | l, 0, n, r, h => by
    have h' : firstN l n = some r := by cases l <;> exact h
    obtain ⟨e1, e2⟩ := firstN_eq h'
    exact ⟨by simpa using e1, by omega⟩
  | [], o + 1, n, r, h => by cases h
  | x :: l, o + 1, n, r, h => by
    obtain ⟨e1, e2⟩ := sub_eq (l := l) (o := o) (n := n) (r := r) h
    exact ⟨by simpa using e1, by simp; omega⟩
theorem sub_get {α : Type} {l : List α} {o n : Nat} {r : List α} (h : sub l o n = some r) : r.length = n ∧ ∀ i, i < n → r[i]? = l[o + i]? := by
  obtain ⟨rfl, e2⟩ := sub_eq h
  refine ⟨by simp; omega, fun i hi => ?_⟩
  simp [hi, List.getElem?_drop]
theorem dsC_eq : ∀ {ds : List D} {cs : List C}, dsC ds = some cs → cs = ds.map .d
  | [], cs, h => by cases h; rfl
  | d :: r, cs, h => by
    unfold dsC at h
    cases hr : dsC r with
    | none => rw [hr] at h; cases h
    | some l => rw [hr] at h; cases h; simp [dsC_eq hr]
theorem over_eq {α : Type} : ∀ {l vs r : List α}, over l vs = some r → r = vs ++ l.drop vs.length ∧ vs.length ≤ l.length
  | l, [], r, h => by cases l <;> cases h <;> simp
  | [], v :: vs, r, h => by cases h
  | x :: l, v :: vs, r, h => by
    unfold over at h
    cases hl : over l vs with
    | none => rw [hl] at h; cases h
    | some r' =>
      rw [hl] at h
      cases h
      obtain ⟨e1, e2⟩ := over_eq hl
      exact ⟨by simp [e1], by simp; exact e2⟩
theorem splice_eq {α : Type} : ∀ {l : List α} {o : Nat} {vs r : List α}, splice l o vs = some r → r = l.take o ++ vs ++ l.drop (o + vs.length) ∧ o + vs.length ≤ l.length
  | l, 0, vs, r, h => by
    have h' : over l vs = some r := by cases l <;> exact h
    obtain ⟨e1, e2⟩ := over_eq h'
    exact ⟨by simpa using e1, by omega⟩
  | [], o + 1, vs, r, h => by cases h
  | x :: l, o + 1, vs, r, h => by
    unfold splice at h
    cases hl : splice l o vs with
    | none => rw [hl] at h; cases h
    | some r' =>
      rw [hl] at h
      cases h
      obtain ⟨e1, e2⟩ := splice_eq hl
      refine ⟨?_, by simp; omega⟩
      rw [e1, show o + 1 + vs.length = (o + vs.length) + 1 by omega]
      simp
theorem addr_add (b off n : Nat) : (⟨b, off, none⟩ : Addr).add n = ⟨b, off + n, none⟩ := by unfold Addr.add; split <;> simp_all
theorem run_loadVar_agg (w : World) (b off : Nat) (t : TypeId) (n : Nat) (vs : List Value) (hagg : aggOf P t = some true) (hsz : szOf P t = some n) (hl : vs.length = n)
    (hc : ∀ (i : Nat) (v : Value), vs[i]? = some v → cellAt w b (off + i) = some v) : (loadVar t ⟨b, off, none⟩).run P w = .ok (.agg vs.toArray) w := by
  have h1 : (isAgg t).run P w = .ok true w := by
    unfold aggOf at hagg
    split at hagg <;> first | cases hagg | skip
    all_goals
      rename_i hu
      simp [isAgg, run_underlying hu]
  have h2 : (sizeOf t).run P w = .ok n w := by
    unfold szOf at hsz
    cases hi : P.info? t with
    | none => rw [hi] at hsz; cases hsz
    | some i => rw [hi] at hsz; cases hsz; simp [sizeOf, typeInfo, hi]
  have h3 : (loadCells ⟨b, off, none⟩ n).run P w = .ok vs.toArray w := by
    rw [← hl]
    exact run_loadCells_list (P := P) w ⟨b, off, none⟩ vs (fun j v hv => by rw [addr_add]; exact hc j v hv)
  simp [loadVar, h1, h2, h3]
theorem run_loadVar_one (w : World) (b off : Nat) (t : TypeId) (v : Value) (hagg : aggOf P t = some false) (hc : cellAt w b off = some v) : (loadVar t ⟨b, off, none⟩).run P w = .ok v w := by
  have h1 : (isAgg t).run P w = .ok false w := by
    unfold aggOf at hagg
    split at hagg <;> first | cases hagg | skip
    rename_i d h1 h2 hu
    cases d <;> first
      | (simp [isAgg, run_underlying hu]; done)
      | exact (h1 _ hu).elim
      | exact (h2 _ _ hu).elim
      | exact (h1 _ rfl).elim
      | exact (h2 _ _ rfl).elim
  unfold cellAt at hc
  simp [loadVar, h1, hc]
end
def Reads (X : Cx) (val : Value) (qs : List C) : Prop :=
  ∃ (b o : Nat) (vs : List Value), val = .pointer (some ⟨b, o, none⟩) ∧ vs.length = qs.length ∧ (∀ (i : Nat) (v : Value), vs[i]? = some v → cellAt X.w b (o + i) = some v) ∧
    ∀ (i : Nat) (q : C) (v : Value), qs[i]? = some q → vs[i]? = some v → RepC X q v
section
variable {P : Program} {o : Oper} {a : Act} {w w' : World} {F : Nat → Prop} {gl : Nat → Option (List D)} {h h' : Hp} {ρ ρ' : Rho} {v : V} {val : Value}
theorem cellAt_blk {w : World} {b : Nat} {vs : List Value} {t : TypeId} {fr : Nat × Nat} (hb : w.heap[b]? = some (.cells vs.toArray t fr)) (i : Nat) : cellAt w b i = vs[i]? := by
  simp [cellAt, World.cell?, hb]
theorem reads_ptr (hs : HSim F gl w h ρ) {y off n : Nat} {cs qs : List C} (hq : RepC (cx F w h ρ) (.ptr y off) val) (hl : look h.obs y = some (.cells cs)) (hsub : sub cs off n = some qs) : Reads (cx F w h ρ) val qs := by
  obtain ⟨e1, e2⟩ := sub_get hsub
  obtain ⟨_, e3⟩ := sub_eq hsub
  cases hq with
  | ptr _ _ b hx hr =>
    have ho := hs.obs y _ hl
    cases ho with
    | cells _ b' t fr vs hr' hb hlen hf hc hone =>
      have : b' = b := by
        have := hr'.symm.trans hr
        injection this with this
        injection this with this
        injection this
      subst this
      refine ⟨b', off, (vs.drop off).take n, rfl, by simp; omega, ?_, ?_⟩
      · intro i v hv
        rw [cellAt_blk hb]
        rw [List.getElem?_take] at hv
        split at hv
        · rwa [List.getElem?_drop] at hv
        · cases hv
      · intro i q v hq hv
        rw [List.getElem?_take] at hv
        split at hv
        · rename_i hi
          rw [e2 i hi] at hq
          rw [List.getElem?_drop] at hv
          exact hc _ q v hq hv
        · cases hv
theorem reads_lptr {X : Cx} {el ds : List D} {off n : Nat} (hq : RepC X (.lptr el off) val) (hsub : sub el off n = some ds) : Reads X val (ds.map .d) := by
  obtain ⟨e1, e2⟩ := sub_get hsub
  obtain ⟨_, e3⟩ := sub_eq hsub
  cases hq with
  | lptr _ _ b o vs hA hcell hrep =>
    refine ⟨b, o + off, (List.range n).map fun i => vs (off + i), rfl, by simp [e1], ?_, ?_⟩
    · intro i v hv
      simp only [List.getElem?_map] at hv
      by_cases hi : i < n
      · rw [List.getElem?_range hi] at hv
        simp at hv
        subst hv
        rw [show o + off + i = o + (off + i) by omega]
        exact hcell _ (by omega)
      · rw [List.getElem?_eq_none (by simpa using hi)] at hv
        cases hv
    · intro i q v hq hv
      simp only [List.getElem?_map] at hq hv
      by_cases hi : i < n
      · rw [List.getElem?_range hi] at hv
        simp at hv
        subst hv
        rw [e2 i hi] at hq
        cases hd : el[off + i]? with
        | none => rw [hd] at hq; cases hq
        | some d => rw [hd] at hq; simp at hq; subst hq; exact .d d _ (hrep _ d hd)
      · rw [List.getElem?_eq_none (by simpa using hi)] at hv
        cases hv
theorem row_fr (hs : HSim F gl w h ρ) {y b n c : Nat} {sz : Nat} {l : List (List D)} {t : TypeId} {fr : Nat × Nat} {ws : Array Value} (hl : look h.obs y = some (.row sz l)) (hr : ρ y = .slice (some ⟨b, 0, none⟩) n c) (hb : w.heap[b]? = some (.cells ws t fr)) : 2 ≤ sz → fr = (0, 0) := by
  have ho := hs.obs y _ hl
  cases ho with
  | rowNil _ _ hr' =>
    have := hr'.symm.trans hr
    cases this
  | row _ _ b' c' t' fr' vs _ _ hr' hb' _ _ _ _ _ hfr =>
    have := hr'.symm.trans hr
    injection this with e1 _ _
    cases e1
    have e := hb'.symm.trans hb
    cases e
    exact hfr
theorem row_at (hs : HSim F gl w h ρ) {y n i off : Nat} {sz : Nat} {l : List (List D)} (hq : RepC (cx F w h ρ) (.rptr y n i off) val) (hl : look h.obs y = some (.row sz l)) (hn : n = l.length) {el : List D} (hel : l[i]? = some el) :
    ∃ (b c : Nat) (t : TypeId) (fr : Nat × Nat) (vs : List Value), ρ y = .slice (some ⟨b, 0, none⟩) l.length c ∧ val = .pointer (some ⟨b, i * sz + off, none⟩) ∧ w.heap[b]? = some (.cells vs.toArray t fr) ∧
      vs.length = c * sz ∧ l.length ≤ c ∧ c ≤ 9223372036854775807 ∧ free fr vs.length ∧ 0 < sz ∧ (∀ e ∈ l, e.length = sz) ∧ (∀ (i : Nat) (d : D) (v : Value), l.flatten[i]? = some d → vs[i]? = some v → RepD w (fun b => F b ∨ Own ρ h.obs b) d v) ∧ i < l.length := by
  have hi : i < l.length := (List.getElem?_eq_some_iff.1 hel).1
  cases hq with
  | rptr _ _ _ _ b o hx hle hv =>
    have hlen : lenAt h.obs y = some n := by simp [lenAt, hl, hn]
    obtain ⟨c, hr, ho⟩ := hv hlen
    have hsz : szAt h.obs y = sz := by simp [szAt, hl]
    have hob := hs.obs y _ hl
    cases hob with
    | rowNil _ hz hr' => simp at hi
    | row _ _ b' c' t fr vs hz hse hr' hb hlen' hc hm hf hrep =>
      have e := hr'.symm.trans hr
      injection e with e1 e2 e3
      injection e1 with e1
      injection e1 with e1
      subst e1
      subst e3
      refine ⟨b', c', t, fr, vs, hr', ?_, hb, hlen', hc, hm, hf, hz, hse, hrep, hi⟩
      rw [ho]
      show Value.pointer (some ⟨b', i * szAt h.obs y + off, none⟩) = _
      rw [hsz]
theorem reads_rptr (hs : HSim F gl w h ρ) {y n i off m : Nat} {sz : Nat} {l : List (List D)} {el ds : List D} (hq : RepC (cx F w h ρ) (.rptr y n i off) val) (hl : look h.obs y = some (.row sz l)) (hn : n = l.length)
    (hel : l[i]? = some el) (hsub : sub el off m = some ds) : Reads (cx F w h ρ) val (ds.map .d) := by
  obtain ⟨e1, e2⟩ := sub_get hsub
  obtain ⟨_, e3⟩ := sub_eq hsub
  obtain ⟨b, c, t, fr, vs, hr, rfl, hb, hlen, hc, hm, hf, hz, hse, hrep, hi⟩ := row_at hs hq hl hn hel
  have helz : el.length = sz := hse el (List.mem_of_getElem? hel)
  have hbig : i * sz + sz ≤ vs.length := by
    rw [hlen]
    calc i * sz + sz = (i + 1) * sz := by rw [Nat.add_mul, Nat.one_mul]
      _ ≤ c * sz := Nat.mul_le_mul_right _ (by omega)
  refine ⟨b, i * sz + off, (vs.drop (i * sz + off)).take m, rfl, by simp [e1]; omega, ?_, ?_⟩
  · intro j v hv
    rw [cellAt_blk hb]
    rw [List.getElem?_take] at hv
    split at hv
    · rwa [List.getElem?_drop] at hv
    · cases hv
  · intro j q v hq hv
    rw [List.getElem?_take] at hv
    split at hv
    · rename_i hj
      simp only [List.getElem?_map, e2 j hj] at hq
      cases hd : el[off + j]? with
      | none => rw [hd] at hq; cases hq
      | some d =>
        rw [hd] at hq
        simp at hq
        subst hq
        rw [List.getElem?_drop] at hv
        exact .d d _ (hrep (i * sz + (off + j)) d v (flat_get hse hel hd) (by rw [← hv]; congr 1; omega))
    · cases hv
theorem mkV_rep {X : Cx} {agg : Bool} {qs : List C} {v : V} {vs : List Value} (hm : mkV agg (some qs) = some v) (hl : vs.length = qs.length)
    (hc : ∀ (i : Nat) (q : C) (v : Value), qs[i]? = some q → vs[i]? = some v → RepC X q v) : ∃ val, RepV X v val ∧ ((agg = true ∧ val = .agg vs.toArray) ∨ (agg = false ∧ vs = [val])) := by
  cases agg with
  | true => cases hm; exact ⟨.agg vs.toArray, .agg qs vs hl hc, .inl ⟨rfl, rfl⟩⟩
  | false =>
    unfold mkV at hm
    split at hm <;> first | cases hm | skip
    · rename_i h1 _; cases h1
    · rename_i q h1 h2
      cases h2
      match vs, hl with
      | [v], _ => exact ⟨v, .c q v (hc 0 q v rfl rfl), .inr ⟨rfl, rfl⟩⟩
theorem mapD_eq {o : Option (List D)} {qs : List C} (h : mapD o = some qs) : ∃ ds, o = some ds ∧ qs = ds.map .d := by
  cases o with
  | none => cases h
  | some ds => exact ⟨ds, rfl, dsC_eq h⟩
theorem run_load_reads {t : TypeId} {n : Nat} {agg : Bool} {qs : List C} (hR : Reads (cx F w h ρ) val qs) (hn : qs.length = n) (ha : aggOf P t = some agg) (hz : szOf P t = some n)
    (hm : mkV agg (some qs) = some v) : ∃ ad r, val = .pointer (some ad) ∧ (loadVar t ad).run P w = .ok r w ∧ RepV (cx F w h ρ) v r := by
  obtain ⟨b, o', vs, rfl, hl, hc, hrep⟩ := hR
  obtain ⟨r, hr, hcase⟩ := mkV_rep hm hl hrep
  refine ⟨_, r, rfl, ?_, hr⟩
  rcases hcase with ⟨rfl, rfl⟩ | ⟨rfl, rfl⟩
  · exact run_loadVar_agg (P := P) w b o' t n vs ha hz (hl.trans hn) hc
  · exact run_loadVar_one (P := P) w b o' t r ha (by simpa using hc 0 r rfl)
theorem load_run (hs : HSim F gl w h ρ) {t : TypeId} {y : Opd} {n : Nat} {agg : Bool} (ha : aggOf P t = some agg) (hz : szOf P t = some n) {e : Env} (hx : RepV (cx F w h ρ) (ev e y) val)
    {cl : Call} (he : eval cl e h (.load y n agg) = some (v, h')) : h' = h ∧ ∃ ad r, val = .pointer (some ad) ∧ (loadVar t ad).run P w = .ok r w ∧ RepV (cx F w h ρ) v r := by
  have key : ∃ qs, Reads (cx F w h ρ) val qs ∧ qs.length = n ∧ mkV agg (some qs) = some v ∧ h' = h := by
    obtain ⟨nx, ob⟩ := h
    simp only [eval] at he
    split at he
    · rename_i y' off hev
      rw [hev] at hx
      split at he
      · rename_i cs hl
        cases hsub : sub cs off n with
        | none => rw [hsub] at he; cases agg <;> cases he
        | some qs =>
          rw [hsub] at he
          cases hm : mkV agg (some qs) with
          | none => rw [hm] at he; cases he
          | some v' =>
            rw [hm] at he
            cases he
            cases hx with
            | c _ _ hq => exact ⟨qs, reads_ptr hs hq hl hsub, (sub_get hsub).1, hm, rfl⟩
      · cases he
    · rename_i el off hev
      rw [hev] at hx
      cases hsub : mapD (sub el off n) with
      | none => rw [hsub] at he; cases agg <;> cases he
      | some qs =>
        rw [hsub] at he
        cases hm : mkV agg (some qs) with
        | none => rw [hm] at he; cases he
        | some v' =>
          rw [hm] at he
          cases he
          obtain ⟨ds, h1, rfl⟩ := mapD_eq hsub
          cases hx with
          | c _ _ hq => exact ⟨_, reads_lptr hq h1, by simp [(sub_get h1).1], hm, rfl⟩
    · rename_i y' m i off hev
      rw [hev] at hx
      split at he
      · rename_i sz l hl
        split at he
        · rename_i hmn
          split at he
          · rename_i el hel
            cases hsub : mapD (sub el off n) with
            | none => rw [hsub] at he; cases agg <;> cases he
            | some qs =>
              rw [hsub] at he
              cases hm : mkV agg (some qs) with
              | none => rw [hm] at he; cases he
              | some v' =>
                rw [hm] at he
                cases he
                obtain ⟨ds, h1, rfl⟩ := mapD_eq hsub
                cases hx with
                | c _ _ hq => exact ⟨_, reads_rptr hs hq hl hmn hel h1, by simp [(sub_get h1).1], hm, rfl⟩
          · cases he
        · cases he
      · cases he
    · cases he
  obtain ⟨qs, hR, hn, hm, rfl⟩ := key
  exact ⟨rfl, run_load_reads (P := P) hR hn ha hz hm⟩
theorem step_load (hs : HSim F gl w h ρ) {t : TypeId} {x : Operand} (ho : o.op = .load t x) {y : Opd} {n : Nat} {agg : Bool} (ha : aggOf P t = some agg) (hz : szOf P t = some n) {e : Env} (hx : RepV (cx F w h ρ) (ev e y) (a.eval x))
    {cl : Call} (he : eval cl e h (.load y n agg) = some (v, h')) : Step P o a w F gl h ρ v h' := by
  obtain ⟨rfl, ad, r, hv, hr, hrep⟩ := load_run (P := P) hs ha hz hx he
  refine .quiet hs (val := r) ?_ hrep
  simp [execOp, ho, hv, Instr.loadAt, Instr.sureAddr, hr]
theorem shift_ptr {X : Cx} {q : C} {off : Nat} {q' : C} (hq : RepC X q val)
    (hq' : (∃ y k, q = .ptr y k ∧ q' = .ptr y (k + off)) ∨ (∃ e k, q = .lptr e k ∧ q' = .lptr e (k + off)) ∨ (∃ y m i k, q = .rptr y m i k ∧ q' = .rptr y m i (k + off))) :
    ∃ b k, val = .pointer (some ⟨b, k, none⟩) ∧ RepC X q' (.pointer (some ⟨b, k + off, none⟩)) := by
  rcases hq' with ⟨y, k, rfl, rfl⟩ | ⟨e, k, rfl, rfl⟩ | ⟨y, m, i, k, rfl, rfl⟩
  · cases hq with | ptr _ _ b hx hr => exact ⟨b, k, rfl, .ptr y _ b hx hr⟩
  · cases hq with | lptr _ _ b o vs hA hcell hrep => exact ⟨b, o + k, rfl, by rw [Nat.add_assoc]; exact .lptr e (k + off) b o vs hA hcell hrep⟩
  · cases hq with
    | rptr _ _ _ _ b o hx hle hv =>
      refine ⟨b, o, rfl, .rptr y m i _ b _ hx hle (fun hn => ?_)⟩
      obtain ⟨c, h1, h2⟩ := hv hn
      exact ⟨c, h1, by omega⟩
theorem step_fieldAddr (hs : HSim F gl w h ρ) {t : TypeId} {x : Operand} {i : Nat} (ho : o.op = .fieldAddr t x i) {fs : Array Field} {f : Field} {s : Nat} (hu : P.underlying t = some (.struct fs)) (hf : fs.toList[i]? = some f) (hz : szOf P f.type = some s) (hs0 : s ≠ 0)
    {y : Opd} {e : Env} (hx : RepV (cx F w h ρ) (ev e y) (a.eval x)) {cl : Call} (he : eval cl e h (.fieldAddr y f.offset) = some (v, h')) : Step P o a w F gl h ρ v h' := by
  have key : ∃ q', v = .c q' ∧ h' = h ∧ ∃ b k, a.eval x = .pointer (some ⟨b, k, none⟩) ∧ RepC (cx F w h ρ) q' (.pointer (some ⟨b, k + f.offset, none⟩)) := by
    simp only [eval] at he
    generalize a.eval x = val at hx ⊢
    split at he <;> first | cases he | skip
    all_goals
      rename_i hev
      rw [hev] at hx
      cases hx with
      | c _ _ hq =>
        refine ⟨_, rfl, rfl, shift_ptr hq ?_⟩
        first
          | exact .inl ⟨_, _, rfl, rfl⟩
          | exact .inr (.inl ⟨_, _, rfl, rfl⟩)
          | exact .inr (.inr ⟨_, _, _, _, rfl, rfl⟩)
  obtain ⟨q', rfl, rfl, b, k, hp, hq'⟩ := key
  refine .quiet hs (val := .pointer (some ⟨b, k + f.offset, none⟩)) ?_ (.c _ _ hq')
  have hfs : fs[i]? = some f := by simpa using hf
  have hsz : (sizeOf f.type).run P w = .ok s w := by
    unfold szOf at hz
    cases hi : P.info? f.type with
    | none => rw [hi] at hz; cases hz
    | some q => rw [hi] at hz; cases hz; simp [sizeOf, typeInfo, hi]
  simp [execOp, ho, hp, Instr.fieldAt, run_underlying hu, hfs, Instr.sureAddr, fieldPlace, hsz, hs0, addr_add]
theorem run_sizeOf {t : TypeId} {s : Nat} (hz : szOf P t = some s) (w : World) : (sizeOf t).run P w = .ok s w := by
  unfold szOf at hz
  cases hi : P.info? t with
  | none => rw [hi] at hz; cases hz
  | some q => rw [hi] at hz; cases hz; simp [sizeOf, typeInfo, hi]
theorem step_arrAddr (hs : HSim F gl w h ρ) {t el : TypeId} {x i : Operand} (ho : o.op = .indexAddr t x i) {n s : Nat} (hu : P.underlying t = some (.array n el)) (hz : szOf P el = some s)
    {y j : Opd} {e : Env} (hx : RepV (cx F w h ρ) (ev e y) (a.eval x)) (hj : RepV (cx F w h ρ) (ev e j) (a.eval i)) {cl : Call} (he : eval cl e h (.arrAddr y j s n) = some (v, h')) : Step P o a w F gl h ρ v h' := by
  simp only [eval] at he
  cases hi : asInt (ev e j) with
  | none => rw [hi] at he; cases he
  | some k =>
    rw [hi] at he
    obtain ⟨kd, hik⟩ := ev_asInt hj hi
    simp only at he
    by_cases hrange : 0 ≤ k ∧ k < n
    · rw [if_pos hrange] at he
      have key : ∃ q', v = .c q' ∧ h' = h ∧ ∃ b o', a.eval x = .pointer (some ⟨b, o', none⟩) ∧ RepC (cx F w h ρ) q' (.pointer (some ⟨b, o' + k.toNat * s, none⟩)) := by
        generalize a.eval x = val at hx ⊢
        split at he <;> first | cases he | skip
        all_goals
          rename_i hev
          rw [hev] at hx
          cases hx with
          | c _ _ hq =>
            refine ⟨_, rfl, rfl, shift_ptr hq ?_⟩
            first
              | exact .inl ⟨_, _, rfl, rfl⟩
              | exact .inr (.inl ⟨_, _, rfl, rfl⟩)
              | exact .inr (.inr ⟨_, _, _, _, rfl, rfl⟩)
      obtain ⟨q', rfl, rfl, b, o', hp, hq'⟩ := key
      refine .quiet hs (val := .pointer (some ⟨b, o' + k.toNat * s, none⟩)) ?_ (.c _ _ hq')
      simp [execOp, ho, hp, hik, Instr.indexAt, asIntOf, run_underlying hu, Instr.sureAddr, hrange, run_sizeOf hz, addr_add]
    · rw [if_neg hrange] at he
      cases he
structure SlRep (F : Nat → Prop) (w : World) (h : Hp) (ρ : Rho) (sz : Nat) (l : List (List D)) (mine : Bool) (b off c : Nat) (vs : Nat → Value) : Prop where
  hz : 0 < sz
  hs : ∀ e ∈ l, e.length = sz
  hc : l.length ≤ c
  hF : ¬ F b
  cell : ∀ i, i < l.length * sz → cellAt w b (off + i) = some (vs i)
  rep : ∀ i d, l.flatten[i]? = some d → RepD w (fun b => F b ∨ Own ρ h.obs b) d (vs i)
  apart : mine = false → ¬ Own ρ h.obs b
def C.isOwn : C → Bool
  | .own _ _ => true
  | _ => false
theorem lst_rep (hs : HSim F gl w h ρ) {q : C} {sz : Nat} {l : List (List D)} (hq : RepC (cx F w h ρ) q val) (hl : q.lst h = some (sz, l)) :
    ∃ b' c, val = .slice b' l.length c ∧ l.length ≤ c + l.length ∧ (l = [] ∨ ∃ (b off : Nat) (vs : Nat → Value), b' = some ⟨b, off, none⟩ ∧ SlRep F w h ρ sz l q.isOwn b off c vs) := by
  unfold C.lst at hl
  cases q with
  | d d =>
    simp only [C.toD] at hl
    cases hq with
    | d _ _ hd =>
      cases hd with
      | nil sz' a' c => cases hl; exact ⟨a', c, rfl, by omega, .inl rfl⟩
      | list sz' l' b off c vs h0 hz hse hc hA hcell hrep =>
        cases hl
        exact ⟨_, c, rfl, by omega, .inr ⟨b, off, vs, rfl, hz, hse, hc, fun h => hA (.inl h), hcell, hrep, fun _ h => hA (.inr h)⟩⟩
      | _ => cases hl
  | nil => cases hl; cases hq; exact ⟨none, 0, rfl, by omega, .inl rfl⟩
  | own x n =>
    simp only [C.toD] at hl
    cases hlk : look h.obs x with
    | none => rw [hlk] at hl; cases hl
    | some ob =>
      rw [hlk] at hl
      cases ob with
      | row sz' l' =>
        simp only at hl
        by_cases hn : n = l'.length
        · rw [if_pos hn] at hl
          cases hl
          cases hq with
          | own _ _ a' m c hx hle hv =>
            have hlen : lenAt h.obs x = some n := by simp [lenAt, hlk, hn]
            have hr := hv hlen
            have hob := hs.obs x _ hlk
            cases hob with
            | rowNil _ hz hr' =>
              have e := hr'.symm.trans hr
              cases e
              exact ⟨none, 0, rfl, by omega, .inl rfl⟩
            | row _ _ b c' t fr vs hz hse hr' hb hlen' hc hm hf hrep =>
              have e := hr'.symm.trans hr
              cases e
              refine ⟨_, c, rfl, by omega, ?_⟩
              by_cases hemp : l = []
              · exact .inl hemp
              · refine .inr ⟨b, 0, fun i => vs.getD i undef, rfl, hz, hse, hc, fun hF => hs.apart b hF ⟨x, _, hlk, by rw [show ρ x = _ from hr']; rfl⟩, ?_, ?_, fun hne => by cases hne⟩
                · intro i hi
                  have hlt : i < vs.length := by rw [hlen']; exact Nat.lt_of_lt_of_le hi (Nat.mul_le_mul_right _ hc)
                  rw [Nat.zero_add, cellAt_blk hb, List.getElem?_eq_getElem hlt]
                  simp [List.getD, hlt]
                · intro i d hd
                  have hi : i < l.flatten.length := (List.getElem?_eq_some_iff.1 hd).1
                  rw [flat_length hse] at hi
                  have hlt : i < vs.length := by rw [hlen']; exact Nat.lt_of_lt_of_le hi (Nat.mul_le_mul_right _ hc)
                  have := hrep i d vs[i] hd (List.getElem?_eq_getElem hlt)
                  simpa [List.getD, hlt] using this
        · rw [if_neg hn] at hl
          cases hl
      | _ => cases hl
  | _ => cases hl
end
section
variable {P : Program} {o : Oper} {a : Act} {w w' : World} {F : Nat → Prop} {gl : Nat → Option (List D)} {h h' : Hp} {ρ ρ' : Rho} {v : V} {val : Value}
theorem look_shed {q : C} {ob : List (Nat × Ob)} {y : Nat} {o : Ob} (hl : look (q.shed ob) y = some o) : look ob y = some o := by
  cases q <;> first | exact hl | exact look_del hl
theorem look_shedCs {cs : List C} : ∀ {ob : List (Nat × Ob)} {y : Nat} {o : Ob}, look (shedCs ob cs) y = some o → look ob y = some o := by
  induction cs with
  | nil => intro ob y o h; exact h
  | cons q r ih => intro ob y o h; exact look_shed (ih (ob := q.shed ob) h)
theorem shed_own (hs : HSim F gl w h ρ) {x n : Nat} {b : Nat} {ob : Ob} (hl : look h.obs x = some ob) (hb : blkOf (ρ x) = some b) : ¬ Own ρ (C.shed h.obs (.own x n)) b := by
  rintro ⟨y, o, hy, hyb⟩
  have hy' : look (del h.obs x) y = some o := hy
  by_cases e : y = x
  · subst e; rw [look_del_same] at hy'; cases hy'
  · rw [look_del_other _ e] at hy'
    exact e (hs.inj y x o ob b hy' hl hyb hb)
theorem step_field (hs : HSim F gl w h ρ) {t : TypeId} {x : Operand} {i : Nat} (ho : o.op = .field t x i) {fs : Array Field} {f : Field} {s : Nat} {agg : Bool} (hu : P.underlying t = some (.struct fs)) (hf : fs.toList[i]? = some f)
    (hz : szOf P f.type = some s) (ha : aggOf P f.type = some agg) {y : Opd} {e : Env} (hx : RepV (cx F w h ρ) (ev e y) (a.eval x)) {cl : Call} (he : eval cl e h (.field y f.offset s agg) = some (v, h')) : Step P o a w F gl h ρ v h' := by
  simp only [eval] at he
  generalize hval : a.eval x = val at hx
  split at he
  · rename_i cs hev
    rw [hev] at hx
    cases hx with
    | agg _ vs hl hc =>
      cases hsub : sub cs f.offset s with
      | none => rw [hsub] at he; cases agg <;> cases he
      | some qs =>
        rw [hsub] at he
        cases hm : mkV agg (some qs) with
        | none => rw [hm] at he; cases he
        | some v' =>
          rw [hm] at he
          cases he
          obtain ⟨e1, e2⟩ := sub_get hsub
          obtain ⟨_, e3⟩ := sub_eq hsub
          obtain ⟨r, hr, hcase⟩ := mkV_rep (X := cx F w h ρ) (vs := (vs.drop f.offset).take s) hm (by simp [e1]; omega) (fun i q v h1 h2 => by
            rw [List.getElem?_take] at h2
            split at h2
            · rename_i hi
              rw [e2 i hi] at h1
              rw [List.getElem?_drop] at h2
              exact hc _ q v h1 h2
            · cases h2)
          have hfs : fs[i]? = some f := by simpa using hf
          refine .quiet hs (val := r) ?_ hr
          rcases hcase with ⟨rfl, rfl⟩ | ⟨rfl, hvs⟩
          · have h1 : (isAgg f.type).run P w = .ok true w := by
              unfold aggOf at ha
              split at ha <;> first | cases ha | skip
              all_goals
                rename_i hu'
                simp [isAgg, run_underlying hu']
            simp [execOp, ho, hval, Instr.field, run_underlying hu, hfs, asAgg, part, h1, run_sizeOf hz, List.take_drop]
          · have h1 : (isAgg f.type).run P w = .ok false w := by
              unfold aggOf at ha
              split at ha <;> first | cases ha | skip
              rename_i d h1 h2 hu'
              cases d <;> first
                | (simp [isAgg, run_underlying hu']; done)
                | exact (h1 _ hu').elim
                | exact (h2 _ _ hu').elim
                | exact (h1 _ rfl).elim
                | exact (h2 _ _ rfl).elim
            have hvi : vs[f.offset]? = some r := by
              have : ((vs.drop f.offset).take s)[0]? = some r := by rw [hvs]; rfl
              rw [List.getElem?_take] at this
              split at this
              · simpa [List.getElem?_drop] using this
              · cases this
            simp [execOp, ho, hval, Instr.field, run_underlying hu, hfs, asAgg, part, h1, hvi]
  · cases he
theorem run_isAgg_t {t : TypeId} (ha : aggOf P t = some true) (w : World) : (isAgg t).run P w = .ok true w := by
  unfold aggOf at ha
  split at ha <;> first | cases ha | skip
  all_goals
    rename_i hu'
    simp [isAgg, run_underlying hu']
theorem run_isAgg_f {t : TypeId} (ha : aggOf P t = some false) (w : World) : (isAgg t).run P w = .ok false w := by
  unfold aggOf at ha
  split at ha <;> first | cases ha | skip
  rename_i d h1 h2 hu'
  cases d <;> first
    | (simp [isAgg, run_underlying hu']; done)
    | exact (h1 _ hu').elim
    | exact (h2 _ _ hu').elim
    | exact (h1 _ rfl).elim
    | exact (h2 _ _ rfl).elim
theorem step_index (hs : HSim F gl w h ρ) {t el : TypeId} {x i : Operand} (ho : o.op = .index t x i) {n s : Nat} {agg : Bool} (hu : P.underlying t = some (.array n el)) (hz : szOf P el = some s) (ha : aggOf P el = some agg)
    {y j : Opd} {e : Env} (hx : RepV (cx F w h ρ) (ev e y) (a.eval x)) (hj : RepV (cx F w h ρ) (ev e j) (a.eval i)) {cl : Call} (he : eval cl e h (.index y j s n agg) = some (v, h')) : Step P o a w F gl h ρ v h' := by
  simp only [eval] at he
  cases hi : asInt (ev e j) with
  | none => rw [hi] at he; cases he
  | some k =>
    rw [hi] at he
    obtain ⟨kd, hik⟩ := ev_asInt hj hi
    simp only at he
    by_cases hrange : 0 ≤ k ∧ k < n
    · rw [if_pos hrange] at he
      generalize hval : a.eval x = val at hx
      split at he
      · rename_i cs hev
        rw [hev] at hx
        cases hx with
        | agg _ vs hl hc =>
          cases hsub : sub cs (k.toNat * s) s with
          | none => rw [hsub] at he; cases agg <;> cases he
          | some qs =>
            rw [hsub] at he
            cases hm : mkV agg (some qs) with
            | none => rw [hm] at he; cases he
            | some v' =>
              rw [hm] at he
              cases he
              obtain ⟨e1, e2⟩ := sub_get hsub
              obtain ⟨_, e3⟩ := sub_eq hsub
              obtain ⟨r, hr, hcase⟩ := mkV_rep (X := cx F w h ρ) (vs := (vs.drop (k.toNat * s)).take s) hm (by simp [e1]; omega) (fun i q v h1 h2 => by
                rw [List.getElem?_take] at h2
                split at h2
                · rename_i hi
                  rw [e2 i hi] at h1
                  rw [List.getElem?_drop] at h2
                  exact hc _ q v h1 h2
                · cases h2)
              refine .quiet hs (val := r) ?_ hr
              rcases hcase with ⟨rfl, rfl⟩ | ⟨rfl, hvs⟩
              · simp [execOp, ho, hval, hik, Instr.index, asIntOf, run_underlying hu, hrange, part, run_isAgg_t ha, run_sizeOf hz, List.take_drop]
              · have hvi : vs[k.toNat * s]? = some r := by
                  have : ((vs.drop (k.toNat * s)).take s)[0]? = some r := by rw [hvs]; rfl
                  rw [List.getElem?_take] at this
                  split at this
                  · simpa [List.getElem?_drop] using this
                  · cases this
                simp [execOp, ho, hval, hik, Instr.index, asIntOf, run_underlying hu, hrange, part, run_isAgg_f ha, run_sizeOf hz, hvi]
      · cases he
    · rw [if_neg hrange] at he
      cases he
theorem bytes_get (s : List UInt8) (i : Nat) (b : UInt8) (hb : s[i]? = some b) : (ByteArray.mk ⟨s⟩)[i]? = some b := by
  obtain ⟨hlt, rfl⟩ := List.getElem?_eq_some_iff.1 hb
  have h : i < (ByteArray.mk ⟨s⟩).size := hlt
  have e := getElem?_pos (ByteArray.mk ⟨s⟩) i h
  rw [e]
  rfl
theorem step_strAt (hs : HSim F gl w h ρ) {t : TypeId} {x i : Operand} (ho : o.op = .index t x i) (hu : P.underlying t = some .string)
    {y j : Opd} {e : Env} (hx : RepV (cx F w h ρ) (ev e y) (a.eval x)) (hj : RepV (cx F w h ρ) (ev e j) (a.eval i)) {cl : Call} (he : eval cl e h (.strAt y j) = some (v, h')) : Step P o a w F gl h ρ v h' := by
  simp only [eval] at he
  cases hi : asInt (ev e j) with
  | none => rw [hi] at he; cases he
  | some k =>
    rw [hi] at he
    obtain ⟨kd, hik⟩ := ev_asInt hj hi
    simp only at he
    split at he
    · rename_i s hev
      rw [hev] at hx
      split at he
      · rename_i h0
        cases hb : s[k.toNat]? with
        | none => rw [hb] at he; cases he
        | some b =>
          rw [hb] at he
          cases he
          refine .quiet hs (val := .int .u8 b.toNat) ?_ (rep_int _ _)
          simp [execOp, ho, ev_str hx, hik, Instr.index, asIntOf, run_underlying hu, h0, bytes_get s _ b hb]
      · cases he
    · cases he
theorem step_lenStr (hs : HSim F gl w h ρ) {c : Go.Call} {x : Operand} {t : TypeId} (ho : o.op = .call c) (hcal : c.callee = .builtin .len) (hargs : c.args.toList = [x]) (ht : c.argTypes.toList = [t])
    (hu : P.underlying t = some .string) {y : Opd} {e : Env} (hx : RepV (cx F w h ρ) (ev e y) (a.eval x)) {cl : Call} (he : eval cl e h (.lenStr y) = some (v, h')) : Step P o a w F gl h ρ v h' := by
  have ha : c.args = #[x] := by rw [← Array.toArray_toList (xs := c.args), hargs]
  have hat : c.argTypes = #[t] := by rw [← Array.toArray_toList (xs := c.argTypes), ht]
  simp only [eval] at he
  split at he
  · rename_i s hev
    cases he
    rw [hev] at hx
    refine .quiet hs (val := .int .i64 s.length) ?_ (rep_int _ _)
    simp [execOp, ho, resolve, hcal, ha, hat, invoke, builtin, Builtin.len_, run_underlying hu, ev_str hx, goInt, bytes_size]
  · cases he
theorem step_len (hs : HSim F gl w h ρ) {c : Go.Call} {x : Operand} {t el : TypeId} (ho : o.op = .call c) (hcal : c.callee = .builtin .len) (hargs : c.args.toList = [x]) (ht : c.argTypes.toList = [t])
    (hu : P.underlying t = some (.slice el)) {y : Opd} {e : Env} (hx : RepV (cx F w h ρ) (ev e y) (a.eval x)) {cl : Call} (he : eval cl e h (.len y) = some (v, h')) : Step P o a w F gl h ρ v h' := by
  have ha : c.args = #[x] := by rw [← Array.toArray_toList (xs := c.args), hargs]
  have hat : c.argTypes = #[t] := by rw [← Array.toArray_toList (xs := c.argTypes), ht]
  simp only [eval] at he
  split at he
  · rename_i q hev
    rw [hev] at hx
    cases hl : q.lst h with
    | none => rw [hl] at he; cases he
    | some r =>
      obtain ⟨sz, l⟩ := r
      rw [hl] at he
      cases he
      generalize hval : a.eval x = val at hx
      cases hx with
      | c _ _ hq =>
        obtain ⟨b', c', rfl, _⟩ := lst_rep hs hq hl
        refine .quiet hs (val := .int .i64 l.length) ?_ (rep_int _ _)
        simp [execOp, ho, resolve, hcal, ha, hat, invoke, builtin, Builtin.len_, run_underlying hu, hval, goInt]
  · cases he
theorem step_lenArr (hs : HSim F gl w h ρ) {c : Go.Call} {x : Operand} {t el : TypeId} {n : Nat} (ho : o.op = .call c) (hcal : c.callee = .builtin .len) (hargs : c.args.toList = [x]) (ht : c.argTypes.toList = [t])
    (hu : P.underlying t = some (.array n el)) {e : Env} {cl : Call} (he : eval cl e h (.lenArr n) = some (v, h')) : Step P o a w F gl h ρ v h' := by
  have ha : c.args = #[x] := by rw [← Array.toArray_toList (xs := c.args), hargs]
  have hat : c.argTypes = #[t] := by rw [← Array.toArray_toList (xs := c.argTypes), ht]
  cases he
  refine .quiet hs (val := .int .i64 n) ?_ (rep_int _ _)
  simp [execOp, ho, resolve, hcal, ha, hat, invoke, builtin, Builtin.len_, run_underlying hu, goInt]
theorem step_min (hs : HSim F gl w h ρ) {c : Go.Call} {x y : Operand} (ho : o.op = .call c) (hcal : c.callee = .builtin .min) (hargs : c.args.toList = [x, y])
    {x' y' : Opd} {e : Env} (hx : RepV (cx F w h ρ) (ev e x') (a.eval x)) (hy : RepV (cx F w h ρ) (ev e y') (a.eval y)) {cl : Call} (he : eval cl e h (.min x' y') = some (v, h')) : Step P o a w F gl h ρ v h' := by
  have ha : c.args = #[x, y] := by rw [← Array.toArray_toList (xs := c.args), hargs]
  simp only [eval] at he
  split at he
  · rename_i k p k' q e1 e2
    cases he
    rw [e1] at hx
    rw [e2] at hy
    refine .quiet hs (val := .int k (if q < p then q else p)) ?_ (rep_int _ _)
    simp [execOp, ho, resolve, hcal, ha, invoke, builtin, Builtin.min_, Builtin.min2, ev_int hx, ev_int hy]
  · cases he
theorem step_max (hs : HSim F gl w h ρ) {c : Go.Call} {x y : Operand} (ho : o.op = .call c) (hcal : c.callee = .builtin .max) (hargs : c.args.toList = [x, y])
    {x' y' : Opd} {e : Env} (hx : RepV (cx F w h ρ) (ev e x') (a.eval x)) (hy : RepV (cx F w h ρ) (ev e y') (a.eval y)) {cl : Call} (he : eval cl e h (.max x' y') = some (v, h')) : Step P o a w F gl h ρ v h' := by
  have ha : c.args = #[x, y] := by rw [← Array.toArray_toList (xs := c.args), hargs]
  simp only [eval] at he
  split at he
  · rename_i k p k' q e1 e2
    cases he
    rw [e1] at hx
    rw [e2] at hy
    refine .quiet hs (val := .int k (if q > p then q else p)) ?_ (rep_int _ _)
    simp [execOp, ho, resolve, hcal, ha, invoke, builtin, Builtin.max_, Builtin.max2, ev_int hx, ev_int hy]
  · cases he
end
section
variable {P : Program} {o : Oper} {a : Act} {w w' : World} {F : Nat → Prop} {gl : Nat → Option (List D)} {h h' : Hp} {ρ ρ' : Rho} {v : V} {val : Value}
theorem step_idxAddr (hs : HSim F gl w h ρ) {t el : TypeId} {x i : Operand} (ho : o.op = .indexAddr t x i) {s : Nat} (hu : P.underlying t = some (.slice el)) (hz : szOf P el = some s)
    {y j : Opd} {e : Env} (hx : RepV (cx F w h ρ) (ev e y) (a.eval x)) (hj : RepV (cx F w h ρ) (ev e j) (a.eval i)) {cl : Call} (he : eval cl e h (.idxAddr s y j) = some (v, h')) : Step P o a w F gl h ρ v h' := by
  simp only [eval] at he
  cases hi : asInt (ev e j) with
  | none => rw [hi] at he; cases he
  | some k =>
    rw [hi] at he
    obtain ⟨kd, hik⟩ := ev_asInt hj hi
    simp only at he
    have fin : ∀ (b off : Nat) (n c : Nat) (q' : C), a.eval x = .slice (some ⟨b, off, none⟩) n c → 0 ≤ k → k < n → RepC (cx F w h ρ) q' (.pointer (some ⟨b, off + k.toNat * s, none⟩)) → Step P o a w F gl h ρ (.c q') h := by
      intro b off n c q' hv h0 hn hq
      refine .quiet hs (val := .pointer (some ⟨b, off + k.toNat * s, none⟩)) ?_ (.c _ _ hq)
      simp [execOp, ho, hv, hik, Instr.indexAt, asIntOf, run_underlying hu, h0, hn, run_sizeOf hz, addr_add]
    split at he
    · rename_i y' n hev
      rw [hev] at hx
      split at he
      · rename_i sz' l hl
        split at he
        · rename_i hc
          obtain ⟨rfl, rfl, h0, hn⟩ := hc
          cases he
          have hlen : lenAt h.obs y' = some l.length := by simp [lenAt, hl]
          have hob := hs.obs y' _ hl
          generalize hval : a.eval x = val at hx
          cases hx with
          | c _ _ hq =>
            cases hq with
            | own _ _ a' m c hx' hle hv =>
              have hr := hv hlen
              cases hob with
              | rowNil _ hz' hr' => simp at hn; omega
              | row _ _ b c' t' fr vs hz' hse hr' hb hlen' hc' hm hf hrep =>
                have e' := hr'.symm.trans hr
                cases e'
                refine fin b 0 l.length c _ hval h0 hn (.rptr y' l.length k.toNat 0 b _ hx' hle (fun _ => ⟨c, hr', ?_⟩))
                show 0 + k.toNat * sz' = k.toNat * szAt h.obs y' + 0
                simp [szAt, hl]
        · cases he
      · cases he
    · rename_i q hne hev
      rw [hev] at hx
      cases hl : q.lst h with
      | none => rw [hl] at he; cases he
      | some r =>
        obtain ⟨sz, l⟩ := r
        rw [hl] at he
        simp only at he
        split at he
        · rename_i h0
          cases hel : l[k.toNat]? with
          | none => rw [hel] at he; cases he
          | some ele =>
            rw [hel] at he
            simp only at he
            split at he
            · rename_i hsz
              cases he
              generalize hval : a.eval x = val at hx
              cases hx with
              | c _ _ hq =>
                obtain ⟨b', c, rfl, _, hcase⟩ := lst_rep hs hq hl
                have hkl : k.toNat < l.length := (List.getElem?_eq_some_iff.1 hel).1
                rcases hcase with rfl | ⟨b, off, vs, rfl, sr⟩
                · simp at hkl
                · have hse : ele.length = sz := sr.hs ele (List.mem_of_getElem? hel)
                  have hss : sz = s := hse.symm.trans hsz
                  subst hss
                  have hbig : k.toNat * sz + sz ≤ l.length * sz := by
                    calc k.toNat * sz + sz = (k.toNat + 1) * sz := by rw [Nat.add_mul, Nat.one_mul]
                      _ ≤ l.length * sz := Nat.mul_le_mul_right _ (by omega)
                  have hown : q.isOwn = false := by
                    cases q <;> first | rfl | (rename_i xx nn; exact absurd rfl (hne xx nn))
                  refine fin b off l.length c (.lptr ele 0) hval h0 (by omega) ?_
                  have := RepC.lptr (X := cx F w h ρ) ele 0 b (off + k.toNat * sz) (fun i => vs (k.toNat * sz + i)) (fun _ hA => hA.elim sr.hF (sr.apart hown))
                    (fun i hi => by rw [Nat.add_assoc]; exact sr.cell _ (by rw [hse] at hi; omega))
                    (fun i d hd => sr.rep _ d (flat_get sr.hs hel hd))
                  simpa using this
            · cases he
        · cases he
    · cases he
theorem evO_rep {N : Nat} {st : St} {H : Hint} (sm : Sim N F H.glob st ρ a w) {x : Option Operand} {y : Option Opd} (hx : trO H x = some y) :
    (x = none ∧ y = none) ∨ ∃ x' y', x = some x' ∧ y = some y' ∧ RepV (cx F w st.hp ρ) (ev st.env y') (a.eval x') := by
  cases x with
  | none => cases hx; exact .inl ⟨rfl, rfl⟩
  | some x' =>
    simp only [trO] at hx
    cases h1 : trX H x' with
    | none => rw [h1] at hx; cases hx
    | some y' => rw [h1] at hx; cases hx; exact .inr ⟨x', y', rfl, rfl, ev_rep sm h1⟩
def OptRep (X : Cx) (e : Env) (a : Act) (x : Option Operand) (y : Option Opd) : Prop := (x = none ∧ y = none) ∨ ∃ x' y', x = some x' ∧ y = some y' ∧ RepV X (ev e y') (a.eval x')
theorem bnd_ok {X : Cx} {e : Env} {x : Option Operand} {y : Option Opd} (h : OptRep X e a x y) {d : Option Nat} {lim k : Nat} (hb : bnd e d lim y = some k) :
    (x = none ∧ y = none ∧ d = some k) ∨ ∃ x' kd i, x = some x' ∧ y ≠ none ∧ a.eval x' = .int kd i ∧ 0 ≤ i ∧ i ≤ lim ∧ k = i.toNat := by
  rcases h with ⟨rfl, rfl⟩ | ⟨x', y', rfl, rfl, hr⟩
  · exact .inl ⟨rfl, rfl, hb⟩
  · unfold bnd at hb
    simp only at hb
    cases hi : asInt (ev e y') with
    | none => rw [hi] at hb; cases hb
    | some i =>
      rw [hi] at hb
      simp only at hb
      by_cases hc : 0 ≤ i ∧ i ≤ lim
      · rw [if_pos hc] at hb
        cases hb
        obtain ⟨kd, hk⟩ := ev_asInt hr hi
        exact .inr ⟨x', kd, i, rfl, by simp, hk, hc.1, hc.2, rfl⟩
      · rw [if_neg hc] at hb; cases hb
theorem run_bounds {X : Cx} {e : Env} {isSl : Bool} {n cap : Nat} {lo hi mx : Option Operand} {lo' hi' mx' : Option Opd} (hl : OptRep X e a lo lo') (hh : OptRep X e a hi hi') (hm : OptRep X e a mx mx') (hcap : n ≤ cap)
    {l r : Nat} (hb : bounds e n lo' hi' mx' = some (l, r)) (w : World) :
    l ≤ r ∧ r ≤ n ∧ ∃ m, (Instr.sliceBounds isSl n cap (lo.map a.eval) (hi.map a.eval) (mx.map a.eval)).run P w = .ok (l, r, m) w ∧ r ≤ m ∧ (m = cap ∨ m ≤ n) := by
  unfold bounds at hb
  cases hM : bnd e (some n) n mx' with
  | none => rw [hM] at hb; cases hb
  | some m0 =>
    rw [hM] at hb
    simp only at hb
    cases hH : bnd e (dflt n mx') m0 hi' with
    | none => rw [hH] at hb; cases hb
    | some h0 =>
      rw [hH] at hb
      simp only at hb
      cases hL : bnd e (some 0) h0 lo' with
      | none => rw [hL] at hb; cases hb
      | some l0 =>
        rw [hL] at hb
        cases hb
        have hmx := bnd_ok hm hM
        have hhi := bnd_ok hh hH
        have hlo := bnd_ok hl hL
        have sb : ∀ (k : IntKind) (i : Int) (y : Nat) (cd : BoundsCode), 0 ≤ i → i ≤ y → (Instr.sliceBound (.int k i) y cd).run P w = .ok i.toNat w := by
          intro k i y cd h1 h2
          simp [Instr.sliceBound, asIntOf, h1, h2]
        have hm0 : m0 ≤ n := by rcases hmx with ⟨_, _, h⟩ | ⟨_, _, i, _, _, _, _, h, rfl⟩; cases h; exact Nat.le_refl _; omega
        have hh0 : r ≤ m0 := by
          rcases hhi with ⟨_, _, h⟩ | ⟨_, _, i, _, _, _, _, h, rfl⟩
          · rcases hmx with ⟨_, rfl, h'⟩ | ⟨_, _, _, _, hne, _⟩
            · cases h; cases h'; exact Nat.le_refl _
            · cases mx' with
              | none => exact absurd rfl hne
              | some _ => cases h
          · omega
        have hl0 : l ≤ r := by rcases hlo with ⟨_, _, h⟩ | ⟨_, _, i, _, _, _, _, h, rfl⟩; cases h; exact Nat.zero_le _; omega
        refine ⟨hl0, by omega, ?_⟩
        rcases hmx with ⟨rfl, rfl, h'⟩ | ⟨xm, km, im, rfl, hne, hem, hm1, hm2, rfl⟩
        · cases h'
          refine ⟨cap, ?_, by omega, .inl rfl⟩
          rcases hhi with ⟨rfl, _, h⟩ | ⟨xh, kh, ih, rfl, _, heh, hh1, hh2, rfl⟩ <;> rcases hlo with ⟨rfl, _, h2⟩ | ⟨xl, kl, il, rfl, _, hel, hl1, hl2, rfl⟩
          · cases h; cases h2; simp [Instr.sliceBounds]
          · cases h; simp [Instr.sliceBounds, hel, sb kl il _ _ hl1 hl2]
          · cases h2; simp [Instr.sliceBounds, heh, sb kh ih _ _ hh1 (show ih ≤ (cap : Int) by omega)]
          · simp [Instr.sliceBounds, heh, hel, sb kh ih _ _ hh1 (show ih ≤ (cap : Int) by omega), sb kl il _ _ hl1 hl2]
        · refine ⟨im.toNat, ?_, hh0, .inr hm0⟩
          rcases hhi with ⟨_, _, h⟩ | ⟨xh, kh, ih, rfl, _, heh, hh1, hh2, rfl⟩
          · cases mx' with
            | none => exact absurd rfl hne
            | some _ => cases h
          · rcases hlo with ⟨rfl, _, h2⟩ | ⟨xl, kl, il, rfl, _, hel, hl1, hl2, rfl⟩
            · cases h2
              simp [Instr.sliceBounds, hem, heh, sb km im _ _ hm1 (show im ≤ (cap : Int) by omega), sb kh ih _ _ hh1 hh2]
            · simp [Instr.sliceBounds, hem, heh, hel, sb km im _ _ hm1 (show im ≤ (cap : Int) by omega), sb kh ih _ _ hh1 hh2, sb kl il _ _ hl1 hl2]
theorem step_substr (hs : HSim F gl w h ρ) {t : TypeId} {x : Operand} {lo hi : Option Operand} (ho : o.op = .slice t x lo hi none) (hu : P.underlying t = some .string)
    {y : Opd} {lo' hi' : Option Opd} {e : Env} (hx : RepV (cx F w h ρ) (ev e y) (a.eval x)) (hl : OptRep (cx F w h ρ) e a lo lo') (hh : OptRep (cx F w h ρ) e a hi hi') {cl : Call} (he : eval cl e h (.substr y lo' hi') = some (v, h')) : Step P o a w F gl h ρ v h' := by
  simp only [eval] at he
  split at he
  · rename_i s hev
    rw [hev] at hx
    cases hb : bounds e s.length lo' hi' none with
    | none => rw [hb] at he; cases he
    | some r =>
      obtain ⟨l, r⟩ := r
      rw [hb] at he
      cases he
      obtain ⟨_, _, m, hrun, _⟩ := run_bounds (P := P) (isSl := false) (n := s.length) (cap := s.length) (mx := none) hl hh (.inl ⟨rfl, rfl⟩) (Nat.le_refl _) hb w
      refine .quiet hs (val := .string ⟨⟨(s.take r).drop l⟩⟩) ?_ (rep_str _)
      simp only [Option.map_none] at hrun
      have hv := ev_str hx
      have hi : (Instr.slice t (.string ⟨⟨s⟩⟩) (lo.map a.eval) (hi.map a.eval) none).run P w = .ok (.string ⟨⟨(s.take r).drop l⟩⟩) w := by
        simp [Instr.slice, run_underlying hu, bytes_size, hrun, bytes_extract]
      simp [execOp, ho, hv, Instr.sliceAt, run_underlying hu, hi]
  · cases he
theorem flatten_take_drop {l : List (List D)} {sz : Nat} (hs : ∀ e ∈ l, e.length = sz) : ∀ (i : Nat), (l.drop i).flatten = l.flatten.drop (i * sz) := by
  induction l with
  | nil => intro i; simp
  | cons e r ih =>
    intro i
    cases i with
    | zero => simp
    | succ i =>
      have he : e.length = sz := hs e (by simp)
      simp only [List.drop_succ_cons, List.flatten_cons]
      rw [ih (fun e he => hs e (by simp [he]))]
      rw [show (i + 1) * sz = e.length + i * sz by rw [he, Nat.add_mul]; omega]
      rw [List.drop_append]
      simp
theorem piece_rep {w : World} {A : Nat → Prop} {sz : Nat} {l : List (List D)} {b off : Nat} {vs : Nat → Value} (hz : 0 < sz) (hs : ∀ e ∈ l, e.length = sz) (hA : ¬ A b)
    (hcell : ∀ i, i < l.length * sz → cellAt w b (off + i) = some (vs i)) (hrep : ∀ i d, l.flatten[i]? = some d → RepD w A d (vs i)) {i r c' : Nat} (hir : i ≤ r) (hr : r ≤ l.length) (hc' : r - i ≤ c') (ad : Option Addr)
    (had : i < r → ad = some ⟨b, off + i * sz, none⟩) : RepD w A (.list sz ((l.take r).drop i)) (.slice ad (r - i) c') := by
  by_cases hlt : i < r
  · rw [had hlt]
    have hlen : ((l.take r).drop i).length = r - i := by simp; omega
    rw [← hlen]
    refine .list sz _ b (off + i * sz) c' (fun j => vs (i * sz + j)) (by omega) hz ?_ (by omega) hA ?_ ?_
    · intro e he
      exact hs e (List.mem_of_mem_take (List.mem_of_mem_drop he))
    · intro j hj
      rw [hlen] at hj
      rw [Nat.add_assoc]
      refine hcell _ ?_
      calc i * sz + j < i * sz + (r - i) * sz := by omega
        _ = r * sz := by rw [← Nat.add_mul]; congr 1; omega
        _ ≤ l.length * sz := Nat.mul_le_mul_right _ hr
    · intro j d hd
      refine hrep _ d ?_
      rw [flatten_take_drop (sz := sz) (fun e he => hs e (List.mem_of_mem_take he))] at hd
      rw [List.getElem?_drop] at hd
      have hjl := (List.getElem?_eq_some_iff.1 hd).1
      have e1 : l.flatten = (l.take r).flatten ++ (l.drop r).flatten := by rw [← List.flatten_append, List.take_append_drop]
      rw [e1, List.getElem?_append_left hjl]
      exact hd
  · have : r - i = 0 := by omega
    rw [this]
    have : (l.take r).drop i = [] := by apply List.drop_eq_nil_of_le; simp; omega
    rw [this]
    exact .nil _ _ _
theorem step_slice (hs : HSim F gl w h ρ) {t el : TypeId} {x : Operand} {lo hi mx : Option Operand} (ho : o.op = .slice t x lo hi mx) {sz : Nat} (hu : P.underlying t = some (.slice el)) (hz : szOf P el = some sz)
    {y : Opd} {lo' hi' mx' : Option Opd} {e : Env} (hx : RepV (cx F w h ρ) (ev e y) (a.eval x)) (hl : OptRep (cx F w h ρ) e a lo lo') (hh : OptRep (cx F w h ρ) e a hi hi') (hm : OptRep (cx F w h ρ) e a mx mx')
    {cl : Call} (he : eval cl e h (.slice sz y lo' hi' mx') = some (v, h')) : Step P o a w F gl h ρ v h' := by
  obtain ⟨nx, ob⟩ := h
  simp only [eval] at he
  split at he
  · rename_i q hev
    rw [hev] at hx
    cases hls : q.lst ⟨nx, ob⟩ with
    | none => rw [hls] at he; cases he
    | some p =>
      obtain ⟨sz', s⟩ := p
      rw [hls] at he
      simp only at he
      split at he
      · rename_i hsized
        cases hb : bounds e s.length lo' hi' mx' with
        | none => rw [hb] at he; cases he
        | some r =>
          obtain ⟨l, r⟩ := r
          rw [hb] at he
          cases he
          generalize hval : a.eval x = val at hx
          cases hx with
          | c _ _ hq =>
            obtain ⟨b', c, rfl, hcap0, hcase⟩ := lst_rep hs hq hls
            have hcap : s.length ≤ c ∨ s = [] := by
              rcases hcase with h | ⟨b, off, vs, _, sr⟩
              · exact .inr h
              · exact .inl sr.hc
            have hcap' : s.length ≤ c := by rcases hcap with h | h; exact h; subst h; simp
            obtain ⟨hlr, hrn, m, hrun, hrm, _⟩ := run_bounds (P := P) (isSl := true) hl hh hm hcap' hb w
            have hlook : ∀ y o, look (q.shed ob) y = some o → look ob y = some o := fun y o => look_shed
            have later : Later F w ⟨nx, ob⟩ ρ w ⟨nx, q.shed ob⟩ ρ := .shed hlook (Nat.le_refl _)
            refine .value (val := .slice (if m = l then b' else b'.map (·.add (l * sz))) (r - l) (m - l)) (w' := w) (ρ' := ρ) ?_ (.c _ _ (.d _ _ ?_)) (hs.shed hlook (Nat.le_refl _)) later
            · have hi : (Instr.slice t (.slice b' s.length c) (lo.map a.eval) (hi.map a.eval) (mx.map a.eval)).run P w = .ok (.slice (if m = l then b' else b'.map (·.add (l * sz))) (r - l) (m - l)) w := by
                simp [Instr.slice, run_underlying hu, hrun, run_sizeOf hz]
              simp [execOp, ho, hval, Instr.sliceAt, run_underlying hu, hi]
            · rcases hcase with rfl | ⟨b, off, vs, rfl, sr⟩
              · have h1 : r - l = 0 := by simp at hrn; omega
                rw [h1]
                simp only [List.take_nil, List.drop_nil]
                exact .nil _ _ _
              · by_cases hne : s = []
                · subst hne
                  have h1 : r - l = 0 := by simp at hrn; omega
                  rw [h1]
                  simp only [List.take_nil, List.drop_nil]
                  exact .nil _ _ _
                · have hsz : sz' = sz := by
                    simp only [sized, Bool.or_eq_true, beq_iff_eq, List.isEmpty_iff] at hsized
                    exact hsized.resolve_right hne
                  subst hsz
                  refine piece_rep sr.hz sr.hs ?_ sr.cell (fun i d hd => ?_) hlr hrn (by omega) _ ?_
                  · intro hA
                    rcases hA with hA | hA
                    · exact sr.hF hA
                    · cases hq' : q.isOwn with
                      | false =>
                        obtain ⟨y, o', hy, hyb⟩ := hA
                        exact sr.apart hq' ⟨y, o', hlook y o' hy, hyb⟩
                      | true =>
                        cases q with
                        | own xx nn =>
                          have hlk : ∃ o', look ob xx = some o' := by
                            unfold C.lst C.toD at hls
                            cases hk : look ob xx with
                            | none => simp [hk] at hls
                            | some o' => exact ⟨o', rfl⟩
                          obtain ⟨o', hlk⟩ := hlk
                          have hlen : lenAt ob xx = some nn := by
                            unfold C.lst C.toD at hls
                            simp only [hlk] at hls
                            cases o' with
                            | row s' l' =>
                              simp only at hls
                              by_cases hnn : nn = l'.length
                              · simp [lenAt, hlk, hnn]
                              · rw [if_neg hnn] at hls; cases hls
                            | _ => cases hls
                          have hr : ρ xx = .slice (some ⟨b, off, none⟩) s.length c := by
                            cases hq with
                            | own _ _ _ _ _ _ _ hv => exact hv hlen
                          exact shed_own (h := ⟨nx, ob⟩) (n := nn) hs hlk (by rw [hr]; rfl) hA
                        | _ => cases hq'
                  · exact (sr.rep i d hd).later later
                  · intro hlt
                    have : m ≠ l := by omega
                    rw [if_neg this]
                    simp [addr_add]
      · cases he
  · cases he
theorem decB_get : ∀ {l : List (List D)} {s : List UInt8}, decB l = some s → l.length = s.length ∧ (∀ e ∈ l, e.length = 1) ∧ ∀ (i : Nat) (b : UInt8), s[i]? = some b → ∃ n, l[i]? = some [.int .u8 n] ∧ b = UInt8.ofNat n.toNat
  | [], s, h => by cases h; exact ⟨rfl, by simp, by simp⟩
  | e :: r, s, h => by
    unfold decB at h
    split at h
    · rename_i heq; cases heq
    · rename_i n r' heq
      cases heq
      cases hr : decB r with
      | none => rw [hr] at h; cases h
      | some s' =>
        rw [hr] at h
        cases h
        obtain ⟨e1, e2, e3⟩ := decB_get hr
        refine ⟨by simp [e1], ?_, ?_⟩
        · intro e he
          cases he with
          | head => rfl
          | tail _ hm => exact e2 e hm
        · intro i b hb
          cases i with
          | zero => simp at hb; exact ⟨n, rfl, hb.symm⟩
          | succ i => exact e3 i b (by simpa using hb)
    · cases h
theorem step_mkFunc {N : Nat} {st : St} {H : Hint} (sm : Sim N F H.glob st ρ a w) {f : FuncId} {first caps : Array Operand} (ho : o.op = .makeFunc (.func f) first caps) (hfirst : first = #[]) {l : List Opd} (hl : trXs H caps.toList = some l)
    {cl : Call} (he : eval cl st.env st.hp (.mkFunc f l) = some (v, h')) : Step P o a w F H.glob st.hp ρ v h' := by
  obtain ⟨e1, e2⟩ := evs_rep sm hl
  simp only [eval] at he
  have key : ∀ (l : List Opd) (cs : List C), evCs st.env l = some cs → cs.length = l.length ∧ ∀ (i : Nat) (q : C), cs[i]? = some q → (evs st.env l)[i]? = some (.c q) := by
    intro l
    induction l with
    | nil => intro cs h; cases h; exact ⟨rfl, by simp⟩
    | cons o r ih =>
      intro cs h
      unfold evCs at h
      split at h
      · rename_i q l' h1 h2
        have h' : cs = q :: l' := by cases q <;> first | (simp at h; done) | (simp at h; exact h.symm)
        subst h'
        obtain ⟨i1, i2⟩ := ih l' h2
        refine ⟨by simp [i1], ?_⟩
        intro i q' hq
        cases i with
        | zero => simp at hq; subst hq; simp [evs, h1]
        | succ i => simpa [evs] using i2 i q' (by simpa using hq)
      · cases h
  cases hc : evCs st.env l with
  | none => rw [hc] at he; cases he
  | some cs =>
    rw [hc] at he
    cases he
    obtain ⟨k1, k2⟩ := key l cs hc
    have hlen : (evs st.env l).length = l.length := by
      clear e1 e2 hl k1 k2 hc
      induction l with
      | nil => rfl
      | cons o r ih => simp [evs, ih]
    refine .quiet sm.hs (val := .func (.func f) #[] (caps.toList.map a.eval).toArray) ?_ (.c _ _ (.clo f cs _ ?_ ?_))
    · subst hfirst
      have : caps.map a.eval = (caps.toList.map a.eval).toArray := by apply Array.ext'; simp
      simp [execOp, ho, Instr.makeFunc, this]
    · rw [e1, hlen, k1]
    · intro i q v hq hv
      have := e2 i _ v (k2 i q hq) hv
      cases this with
      | c _ _ h => exact h
end
section
variable {P : Program} {o : Oper} {a : Act} {w w' : World} {F : Nat → Prop} {gl : Nat → Option (List D)} {h h' : Hp} {ρ ρ' : Rho} {v : V} {val : Value}
theorem free_zero (n : Nat) : free (0, 0) n := ⟨Nat.le_refl _, fun i _ h => by omega⟩
theorem new_cells (hs : HSim F gl w h ρ) {w1 : World} (hk : Kept (fun _ => False) w w1) {cs : List C} {vs : List Value} (hl : vs.length = cs.length) (hc : ∀ (i : Nat) (q : C) (v : Value), cs[i]? = some q → vs[i]? = some v → RepC (cx F w h ρ) q v)
    (hone : ∀ q ∈ cs, q.isAny = false) {b : Nat} {t : TypeId} {fr : Nat × Nat} (hb : w1.heap[b]? = some (.cells vs.toArray t fr)) (hf : free fr vs.length) (hnew : w.heap.size ≤ b) :
    HSim F gl w1 ⟨h.next + 1, (h.next, .cells cs) :: h.obs⟩ (upd ρ h.next (.pointer (some ⟨b, 0, none⟩))) ∧
    Later F w h ρ w1 ⟨h.next + 1, (h.next, .cells cs) :: h.obs⟩ (upd ρ h.next (.pointer (some ⟨b, 0, none⟩))) := by
  have hv : ∀ b', blkOf (.pointer (some ⟨b, 0, none⟩)) = some b' → w.heap.size ≤ b' := fun b' h => by simp [blkOf] at h; omega
  have later : Later F w h ρ w1 ⟨h.next + 1, (h.next, .cells cs) :: h.obs⟩ (upd ρ h.next (.pointer (some ⟨b, 0, none⟩))) := .new hk hv (fun _ _ _ h => h)
  refine ⟨hs.new hk hv (fun _ _ _ h => h) ?_, later⟩
  exact .cells cs b t fr vs (upd_same _ _ _) hb hl hf (fun i q v h1 h2 => (hc i q v h1 h2).mono later) hone
theorem new_row (hs : HSim F gl w h ρ) {w1 : World} (hk : Kept (fun _ => False) w w1) {obs : List (Nat × Ob)} (hobs : ∀ y o, y ≠ h.next → look obs y = some o → look h.obs y = some o)
    {sz : Nat} {l : List (List D)} {vs : List Value} (hz : 0 < sz) (hse : ∀ e ∈ l, e.length = sz) {c : Nat} (hl : vs.length = c * sz) (hlc : l.length ≤ c) (hm : c ≤ 9223372036854775807)
    (hrep : ∀ (i : Nat) (d : D) (v : Value), l.flatten[i]? = some d → vs[i]? = some v → RepD w (fun b => F b ∨ Own ρ h.obs b) d v)
    {b : Nat} {t : TypeId} {fr : Nat × Nat} (hb : w1.heap[b]? = some (.cells vs.toArray t fr)) (hf : free fr vs.length) (hnew : w.heap.size ≤ b) (hfr : 2 ≤ sz → fr = (0, 0) := by first | exact fun _ => rfl | (intro h; omega)) :
    HSim F gl w1 ⟨h.next + 1, (h.next, .row sz l) :: obs⟩ (upd ρ h.next (.slice (some ⟨b, 0, none⟩) l.length c)) ∧
    Later F w h ρ w1 ⟨h.next + 1, (h.next, .row sz l) :: obs⟩ (upd ρ h.next (.slice (some ⟨b, 0, none⟩) l.length c)) ∧
    RepC (cx F w1 ⟨h.next + 1, (h.next, .row sz l) :: obs⟩ (upd ρ h.next (.slice (some ⟨b, 0, none⟩) l.length c))) (.own h.next l.length) (.slice (some ⟨b, 0, none⟩) l.length c) := by
  have hv : ∀ b', blkOf (.slice (some ⟨b, 0, none⟩) l.length c) = some b' → w.heap.size ≤ b' := fun b' h => by simp [blkOf] at h; omega
  have later : Later F w h ρ w1 ⟨h.next + 1, (h.next, .row sz l) :: obs⟩ (upd ρ h.next (.slice (some ⟨b, 0, none⟩) l.length c)) := .new hk hv hobs
  refine ⟨hs.new hk hv hobs ?_, later, ?_⟩
  · exact .row sz l b c t fr vs hz hse (upd_same _ _ _) hb hl hlc hm hf (fun i d v h1 h2 => (hrep i d v h1 h2).later later) hfr
  · refine .own _ _ _ _ _ (by simp) ?_ (fun _ => upd_same _ _ _)
    intro m hm'
    simp [lenAt, look] at hm'
    omega
theorem new_rowNil (hs : HSim F gl w h ρ) {sz : Nat} (hz : 0 < sz) :
    HSim F gl w ⟨h.next + 1, (h.next, .row sz []) :: h.obs⟩ (upd ρ h.next (.slice none 0 0)) ∧ Later F w h ρ w ⟨h.next + 1, (h.next, .row sz []) :: h.obs⟩ (upd ρ h.next (.slice none 0 0)) ∧
    RepC (cx F w ⟨h.next + 1, (h.next, .row sz []) :: h.obs⟩ (upd ρ h.next (.slice none 0 0))) (.own h.next 0) (.slice none 0 0) := by
  have hv : ∀ b', blkOf (.slice none 0 0) = some b' → w.heap.size ≤ b' := fun b' h => by simp [blkOf] at h
  refine ⟨hs.new (.refl _ _) hv (fun _ _ _ h => h) (.rowNil sz hz (upd_same _ _ _)), .new (.refl _ _) hv (fun _ _ _ h => h), ?_⟩
  refine .own _ _ _ _ _ (by simp) ?_ (fun _ => upd_same _ _ _)
  intro m hm'
  simp
theorem step_newRow (hs : HSim F gl w h ρ) {x : Operand} (ho : o.op = .assign x) (hx : x = .const (.slice none 0 0)) {sz : Nat} (hz : 0 < sz) {e : Env} {cl : Call} (he : eval cl e h (.newRow sz) = some (v, h')) : Step P o a w F gl h ρ v h' := by
  obtain ⟨nx, ob⟩ := h
  cases he
  obtain ⟨h1, h2, h3⟩ := new_rowNil (gl := gl) hs hz
  exact .value (val := .slice none 0 0) (by simp [execOp, ho, hx, Act.eval]) (.c _ _ h3) h1 h2
theorem step_alloc (hs : HSim F gl w h ρ) {t : TypeId} (ho : o.op = .alloc t) {zs : List Value} {cs : List C} (hz : zeroOf P t = some zs) (hc : constCs zs = some cs) {e : Env} {cl : Call} (he : eval cl e h (.alloc cs) = some (v, h')) : Step P o a w F gl h ρ v h' := by
  obtain ⟨nx, ob⟩ := h
  cases he
  obtain ⟨e1, e2, e3⟩ := constCs_rep (X := cx F w ⟨nx, ob⟩ ρ) hc
  unfold zeroOf at hz
  cases hi : P.info? t with
  | none => rw [hi] at hz; cases hz
  | some i =>
    rw [hi] at hz
    simp only at hz
    cases hzv : i.zero with
    | none => rw [hzv] at hz; cases hz
    | some z =>
      rw [hzv] at hz
      cases hz
      have hb : (w.alloc (.cells z.cells t)).heap[w.heap.size]? = some (.cells z.cells.toList.toArray t (0, 0)) := by rw [heap_alloc_new]
      obtain ⟨h1, h2⟩ := new_cells (gl := gl) hs (kept_alloc w _) e1 e2 e3 hb (free_zero _) (Nat.le_refl _)
      refine .value (val := .pointer (some ⟨w.heap.size, 0, none⟩)) ?_ (.c _ _ (.ptr _ _ _ (by simp) (upd_same _ _ _))) h1 h2
      simp [execOp, ho, Instr.alloc, zeroValue, typeInfo, hi, hzv, newVar, newRow]
theorem step_box (hs : HSim F gl w h ρ) {t : TypeId} {x : Operand} (ho : o.op = .box t x) {y : Opd} {e : Env} (hx : RepV (cx F w h ρ) (ev e y) (a.eval x)) {cl : Call} (he : eval cl e h (.box y) = some (v, h')) : Step P o a w F gl h ρ v h' := by
  obtain ⟨nx, ob⟩ := h
  simp only [eval] at he
  cases hc : (ev e y).cells with
  | none => rw [hc] at he; cases he
  | some cs =>
    rw [hc] at he
    cases he
    obtain ⟨vs, e0, e1, e2, e3⟩ := cells_rep hx hc
    have hb : (w.alloc (.cells (a.eval x).cells t)).heap[w.heap.size]? = some (.cells vs.toArray t (0, 0)) := by rw [heap_alloc_new, e0]
    obtain ⟨h1, h2⟩ := new_cells (gl := gl) hs (kept_alloc w _) e1 e2 e3 hb (free_zero _) (Nat.le_refl _)
    refine .value (val := .pointer (some ⟨w.heap.size, 0, none⟩)) ?_ (.c _ _ (.ptr _ _ _ (by simp) (upd_same _ _ _))) h1 h2
    simp [execOp, ho, Instr.box, newVar, newRow]
theorem repd_int {w : World} {A : Nat → Prop} {k : IntKind} {n : Int} {v : Value} (h : RepD w A (.int k n) v) : v = .int k n := by cases h; rfl
theorem step_b2s (hs : HSim F gl w h ρ) {s t el : TypeId} {x : Operand} (ho : o.op = .convert s t x) (ht : P.underlying t = some .string) (hu : P.underlying s = some (.slice el)) (he8 : P.underlying el = some (.int .u8))
    {y : Opd} {e : Env} (hx : RepV (cx F w h ρ) (ev e y) (a.eval x)) {cl : Call} (he : eval cl e h (.b2s y) = some (v, h')) : Step P o a w F gl h ρ v h' := by
  simp only [eval] at he
  split at he
  · rename_i q hev
    rw [hev] at hx
    cases hl : q.lst h with
    | none => rw [hl] at he; cases he
    | some r =>
      obtain ⟨sz, l⟩ := r
      rw [hl] at he
      simp only at he
      cases hd : decB l with
      | none => rw [hd] at he; cases he
      | some s' =>
        rw [hd] at he
        cases he
        obtain ⟨d1, d2, d3⟩ := decB_get hd
        generalize hval : a.eval x = val at hx
        cases hx with
        | c _ _ hq =>
          obtain ⟨b', c, rfl, _, hcase⟩ := lst_rep hs hq hl
          refine .quiet hs (val := .string ⟨⟨s'⟩⟩) ?_ (rep_str _)
          have fin : (convert s t (.slice b' l.length c)).run P w = .ok (.string ⟨⟨s'⟩⟩) w := by
            have nilCase : s' = [] → (convert s t (.slice b' l.length c)).run P w = .ok (.string ⟨⟨s'⟩⟩) w := by
              intro hs'
              subst hs'
              have hl0 : l.length = 0 := by simpa using d1
              rw [hl0]
              cases b' with
              | none => exact run_convert_bytes_nil w s el hu he8 0 c t ht
              | some ad =>
                rw [show ad = ⟨ad.block, ad.off, ad.spot⟩ from rfl]
                rw [run_convert_bytes_string w s t el _ _ _ hu he8 ht]
                simp [Conv.bytesToString, loadCells, loadCellsFrom]
                rfl
            rcases hcase with rfl | ⟨b, off, vs, rfl, sr⟩
            · exact nilCase (List.eq_nil_of_length_eq_zero (by simpa using d1.symm))
            · by_cases hne : l = []
              · subst hne; exact nilCase (List.eq_nil_of_length_eq_zero (by simpa using d1.symm))
              · have hsz : sz = 1 := by
                  obtain ⟨e0, r, rfl⟩ := List.exists_cons_of_ne_nil hne
                  exact (sr.hs e0 (by simp)).symm.trans (d2 e0 (by simp))
                subst hsz
                have hget : ∀ i, i < l.length → ∃ n, l[i]? = some [D.int .u8 n] ∧ s'[i]? = some (UInt8.ofNat n.toNat) := by
                  intro i hi
                  have hi' : i < s'.length := by omega
                  obtain ⟨n, h1, h2⟩ := d3 i s'[i] (List.getElem?_eq_getElem hi')
                  exact ⟨n, h1, by rw [List.getElem?_eq_getElem hi', h2]⟩
                have hrun := run_convert_bytes_arg (P := P) w s el hu he8 b off l.length c (l.map fun e => match e with | [.int _ n] => n | _ => 0) (by simp) (fun i hi => by
                  obtain ⟨n, h1, h2⟩ := hget i hi
                  have hc' := sr.cell i (by omega)
                  have hr' := sr.rep i (.int .u8 n) (by have := flat_get sr.hs h1 (j := 0) (d := .int .u8 n) rfl; simpa using this)
                  have hv : vs i = .int .u8 n := repd_int hr'
                  rw [hv] at hc'
                  have : (l.map fun e => match e with | [.int _ n] => n | _ => 0).getD i 0 = n := by simp [List.getD, h1]
                  rw [this]
                  exact hc') t ht
                rw [hrun]
                congr 2
                unfold strOfNums
                congr 1
                apply congrArg
                apply List.ext_getElem?
                intro i
                by_cases hi : i < l.length
                · obtain ⟨n, h1, h2⟩ := hget i hi
                  simp [h1, h2]
                · rw [List.getElem?_eq_none (by simp; omega), List.getElem?_eq_none (by omega)]
          simp [execOp, ho, hval, fin]
  · cases he
end
section
variable {P : Program} {o : Oper} {a : Act} {w w' : World} {F : Nat → Prop} {gl : Nat → Option (List D)} {h h' : Hp} {ρ ρ' : Rho} {v : V} {val : Value}
theorem over_array (cs : Array Value) (off : Nat) : ∀ (l : List Value) (j : Nat), off + j + l.length ≤ cs.size →
    ((l.zipIdx j).foldl (fun (cs : Array Value) (p : Value × Nat) => cs.setIfInBounds (off + p.2) p.1) cs).toList = cs.toList.take (off + j) ++ l ++ cs.toList.drop (off + j + l.length) := by
  intro l
  induction l generalizing cs with
  | nil => intro j hj; simp
  | cons v r ih =>
    intro j hj
    simp only [List.zipIdx_cons, List.foldl_cons]
    rw [ih (cs.setIfInBounds (off + j) v) (j + 1) (by simp at hj ⊢; omega)]
    simp only [Array.toList_setIfInBounds, List.length_cons]
    simp at hj
    apply List.ext_getElem?
    intro i
    simp only [List.getElem?_append, List.getElem?_take, List.getElem?_drop, List.getElem?_set, List.length_append, List.length_take, List.length_set, List.getElem?_cons, List.length_cons, Array.length_toList]
    by_cases h1 : i < off + j
    · have : i < off + (j + 1) := by omega
      simp [h1, this, show min (off + (j+1)) cs.size = off + (j+1) by omega, show min (off + j) cs.size = off + j by omega, show i < off + (j + 1) + r.length by omega, show i < off + j + (r.length + 1) by omega, show ¬ off + j = i by omega]
    · by_cases h2 : i = off + j
      · subst h2
        simp [show min (off + (j+1)) cs.size = off + (j+1) by omega, show min (off + j) cs.size = off + j by omega, show off + j < off + (j + 1) + r.length by omega, show off + j < off + j + (r.length + 1) by omega, show off + j < off + (j + 1) by omega, show off + j < cs.size by omega]
      · simp only [show min (off + (j+1)) cs.size = off + (j+1) by omega, show min (off + j) cs.size = off + j by omega, show ¬ i < off + (j + 1) by omega, h1, if_false]
        by_cases h3 : i < off + j + (r.length + 1)
        · have e : i - (off + j) = (i - (off + (j + 1))) + 1 := by omega
          simp [h3, show i < off + (j + 1) + r.length by omega, e]
        · simp [h3, show ¬ i < off + (j + 1) + r.length by omega, show ¬ off + j = off + (j + 1) + r.length + (i - (off + (j + 1) + r.length)) by omega]
          congr 1
          omega
theorem run_fill_one (cs : Array Value) (off : Nat) (v : Value) (vs : List Value) (hv : v.cells = vs.toArray) (hfit : off + vs.length ≤ cs.size) :
    (v.cells.zipIdx.foldl (fun cs (p : Value × Nat) => cs.setIfInBounds (off + p.2) p.1) cs).toList = cs.toList.take off ++ vs ++ cs.toList.drop (off + vs.length) := by
  rw [hv, ← Array.foldl_toList]
  simp only [Array.toList_zipIdx]
  simpa using over_array cs off vs 0 (by simpa using hfit)
def CsRep (X : Cx) (cs : List C) (vs : List Value) : Prop := vs.length = cs.length ∧ ∀ (i : Nat) (q : C) (v : Value), cs[i]? = some q → vs[i]? = some v → RepC X q v
theorem splice_rep {X : Cx} {cs qs cs' : List C} {vs us : List Value} {off : Nat} (h1 : CsRep X cs vs) (h2 : CsRep X qs us) (hs : splice cs off qs = some cs') : CsRep X cs' (vs.take off ++ us ++ vs.drop (off + us.length)) ∧ off + us.length ≤ vs.length ∧ (∀ q ∈ cs', q ∈ cs ∨ q ∈ qs) := by
  obtain ⟨e1, e2⟩ := splice_eq hs
  obtain ⟨l1, r1⟩ := h1
  obtain ⟨l2, r2⟩ := h2
  refine ⟨⟨by rw [e1]; simp; omega, ?_⟩, by omega, ?_⟩
  · intro i q v hq hv
    rw [e1] at hq
    simp only [List.append_assoc, List.getElem?_append, List.length_take] at hq hv
    by_cases c1 : i < off
    · rw [if_pos (by omega), List.getElem?_take, if_pos c1] at hq
      rw [if_pos (by omega), List.getElem?_take, if_pos c1] at hv
      exact r1 i q v hq hv
    · rw [if_neg (by omega)] at hq hv
      rw [show min off cs.length = off by omega] at hq
      rw [show min off vs.length = off by omega] at hv
      by_cases c2 : i - off < qs.length
      · rw [if_pos c2] at hq
        rw [if_pos (by omega)] at hv
        exact r2 _ q v hq hv
      · rw [if_neg c2, List.getElem?_drop] at hq
        rw [if_neg (by omega), List.getElem?_drop] at hv
        rw [l2] at hv
        exact r1 _ q v hq hv
  · intro q hq
    rw [e1] at hq
    simp only [List.mem_append] at hq
    rcases hq with (hq | hq) | hq
    · exact .inl (List.mem_of_mem_take hq)
    · exact .inr hq
    · exact .inl (List.mem_of_mem_drop hq)
theorem fill_rep {N : Nat} {st : St} {H : Hint} (sm : Sim N F H.glob st ρ a w) {place : Nat → Option (Nat × Nat)} : ∀ (ps : List (Nat × Operand)) (l : List (Nat × Nat × Opd)) (cs cs' : List C) (vs : Array Value),
    trParts P H place ps = some l → fillC st.env cs l = some cs' → CsRep (cx F w st.hp ρ) cs vs.toList →
    ∃ ws : Array Value, Instr.fill place vs (ps.map fun p => (p.1, a.eval p.2)) = some ws ∧ CsRep (cx F w st.hp ρ) cs' ws.toList
  | [], l, cs, cs', vs, ht, hf, hr => by cases ht; cases hf; exact ⟨vs, rfl, hr⟩
  | (i, x) :: r, l, cs, cs', vs, ht, hf, hr => by
    unfold trParts at ht
    cases hp : place i with
    | none => rw [hp] at ht; cases ht
    | some os =>
      obtain ⟨off, s⟩ := os
      cases hx : trX H x with
      | none => rw [hp, hx] at ht; cases ht
      | some y =>
        cases hrest : trParts P H place r with
        | none => rw [hp, hx, hrest] at ht; cases ht
        | some ys =>
          rw [hp, hx, hrest] at ht
          cases ht
          unfold fillC at hf
          cases hcell : (ev st.env y).cells with
          | none => rw [hcell] at hf; cases hf
          | some qs =>
            rw [hcell] at hf
            simp only at hf
            split at hf
            · rename_i hlen
              cases hsp : splice cs off qs with
              | none => rw [hsp] at hf; cases hf
              | some cs1 =>
                rw [hsp] at hf
                obtain ⟨us, e0, e1, e2, e3⟩ := cells_rep (ev_rep sm hx) hcell
                obtain ⟨g1, g2, g3⟩ := splice_rep hr ⟨e1, e2⟩ hsp
                have hfit : off + us.length ≤ vs.size := by simpa using g2
                have hone := run_fill_one vs off (a.eval x) us e0 hfit
                obtain ⟨ws, w1, w2⟩ := fill_rep sm r ys cs1 cs' ((a.eval x).cells.zipIdx.foldl (fun cs (p : Value × Nat) => cs.setIfInBounds (off + p.2) p.1) vs) hrest hf (by rw [hone]; exact g1)
                refine ⟨ws, ?_, w2⟩
                simp only [List.map_cons, Instr.fill, hp]
                have hsz : (a.eval x).cells.size = us.length := by rw [e0]; simp
                rw [if_neg (by rw [hsz]; simp; omega)]
                exact w1
            · cases hf
theorem step_build {N : Nat} {st : St} {H : Hint} (sm : Sim N F H.glob st ρ a w) {t : TypeId} {ps : Array (Nat × Operand)} (ho : o.op = .build t ps) {zs : List Value} {cs : List C} (hc : constCsA zs = some cs)
    {place : Nat → Option (Nat × Nat)} {l : List (Nat × Nat × Opd)} (hl : trParts P H place ps.toList = some l)
    (hplace : ∀ (vs ws : Array Value), vs.toList = zs → Instr.fill place vs (ps.toList.map fun p => (p.1, a.eval p.2)) = some ws → (Instr.build t (ps.map fun (i, x) => (i, a.eval x))).run P w = .ok (.agg ws) w)
    {cl : Call} (he : eval cl st.env st.hp (.build cs l) = some (v, h')) : Step P o a w F H.glob st.hp ρ v h' := by
  simp only [eval] at he
  cases hf : fillC st.env cs l with
  | none => rw [hf] at he; cases he
  | some cs' =>
    rw [hf] at he
    cases he
    obtain ⟨e1, e2⟩ := constCsA_rep (X := cx F w st.hp ρ) hc
    obtain ⟨ws, w1, w2⟩ := fill_rep (P := P) sm ps.toList l cs cs' zs.toArray hl hf ⟨by simpa using e1, by simpa using e2⟩
    have hb := hplace zs.toArray ws (by simp) w1
    refine .quiet sm.hs (val := .agg ws) ?_ ?_
    · simp [execOp, ho, hb]
    · have := RepV.agg (X := cx F w st.hp ρ) cs' ws.toList w2.1 w2.2
      simpa using this
theorem build_struct {t : TypeId} {zs : List Value} (hz : zeroOf P t = some zs) {fs : Array Field} (hu : P.underlying t = some (.struct fs)) {pl : List (Nat × Nat)} (hpl : fieldPlaces P fs.toList = some pl)
    (ps : List (Nat × Value)) (vs ws : Array Value) (hvs : vs.toList = zs) (hf : Instr.fill (fun i => pl[i]?) vs ps = some ws) (w : World) : (Instr.build t ps.toArray).run P w = .ok (.agg ws) w := by
  unfold zeroOf at hz
  cases hi : P.info? t with
  | none => rw [hi] at hz; cases hz
  | some i =>
    rw [hi] at hz
    simp only at hz
    cases hzv : i.zero with
    | none => rw [hzv] at hz; cases hz
    | some z =>
      rw [hzv] at hz
      cases hz
      have hv : vs = z.cells := Array.ext' hvs
      subst hv
      have hm : ∀ (fl : List Field) (pl : List (Nat × Nat)), fieldPlaces P fl = some pl → (fl.mapM fun f => do pure (f.offset, ← sizeOf f.type) : Sem (List (Nat × Nat))).run P w = .ok pl w := by
        intro fl
        induction fl with
        | nil => intro pl h; cases h; rfl
        | cons f r ih =>
          intro pl h
          unfold fieldPlaces at h
          cases hs : szOf P f.type with
          | none => rw [hs] at h; cases h
          | some s =>
            cases hr : fieldPlaces P r with
            | none => rw [hs, hr] at h; cases h
            | some q =>
              rw [hs, hr] at h
              cases h
              simp only [List.mapM_cons, Sem.run_bind, run_sizeOf hs, Result.andThen_ok, Sem.run_pure, ih q hr]
      have hm' : (fs.mapM fun f => do pure (f.offset, ← sizeOf f.type) : Sem (Array (Nat × Nat))).run P w = .ok pl.toArray w := by
        have e : fs = fs.toList.toArray := by simp
        rw [e, List.mapM_toArray]
        simp only [Sem.run_map, hm _ _ hpl, Result.andThen_ok]
      simp only [Instr.build, zeroValue, typeInfo, Sem.run_bind, run_program, Result.andThen_ok, hi, Sem.run_pure, hzv, run_underlying hu, hm']
      simp [hf]
theorem build_array {t el : TypeId} {n s : Nat} {zs : List Value} (hz : zeroOf P t = some zs) (hu : P.underlying t = some (.array n el)) (hs : szOf P el = some s)
    (ps : List (Nat × Value)) (vs ws : Array Value) (hvs : vs.toList = zs) (hf : Instr.fill (fun i => some (i * s, s)) vs ps = some ws) (w : World) : (Instr.build t ps.toArray).run P w = .ok (.agg ws) w := by
  unfold zeroOf at hz
  cases hi : P.info? t with
  | none => rw [hi] at hz; cases hz
  | some i =>
    rw [hi] at hz
    simp only at hz
    cases hzv : i.zero with
    | none => rw [hzv] at hz; cases hz
    | some z =>
      rw [hzv] at hz
      cases hz
      have hv : vs = z.cells := Array.ext' hvs
      subst hv
      simp only [Instr.build, zeroValue, typeInfo, Sem.run_bind, run_program, Result.andThen_ok, hi, Sem.run_pure, hzv, run_underlying hu, run_sizeOf hs]
      simp [hf]
end
end Go.Am
