/-
  Calls, regions in any drawn order, loops and functions of the abstract machine are sound; steps of proofs.
-/
import Derived.Test.YtpidbhbmamjbpaaDoorSMC
import Derived.Orders
import Derived.Tactics
import Derived.ScopeJumps
import Derived.KernelRfl
import Derived.Test.YtpidbhbmamjbpaaDoorSMA
namespace Go.Am
open Go
section
variable {P : Program} {o : Oper} {a : Act} {w w' : World} {F : Nat → Prop} {gl : Nat → Option (List D)} {h h' : Hp} {ρ ρ' : Rho} {v : V} {val : Value}
variable {N : Nat} {st : St} {H : Hint}
theorem evOpt (sm : Sim N F H.glob st ρ a w) {x : Option Operand} {y : Option Opd} (hx : trO H x = some y) : OptRep (cx F w st.hp ρ) st.env a x y := evO_rep sm hx
theorem Sim.put (sm : Sim N F gl st ρ a w) {dst : Option Nat} (hd : dstOk N dst = true) (hv : RepV (cx F w' h' ρ') v val) (hs : HSim F gl w' h' ρ') (hl : Later F w st.hp ρ w' h' ρ') :
    Sim N F gl (st.put dst v h') ρ' (a.put dst val) w' := by
  cases dst with
  | none => exact ⟨hs, sm.size, fun t => (sm.env t).mono hl, sm.defers⟩
  | some d =>
    have hdn : d < a.tmps.size := Nat.lt_of_lt_of_le (by simpa [dstOk] using hd) sm.size
    refine ⟨hs, by simpa [Act.put] using sm.size, fun t => ?_, sm.defers⟩
    by_cases htd : d = t
    · subst htd
      have : (a.put (some d) val).tmps.getD d undef = val := by simp [Act.put, Array.getD_eq_getD_getElem?, hdn]
      rw [this]
      simpa [St.put, getV] using hv
    · have : (a.put (some d) val).tmps.getD t undef = a.tmps.getD t undef := by simp [Act.put, Array.getD_eq_getD_getElem?, Array.getElem?_setIfInBounds_ne htd]
      rw [this]
      simpa [St.put, getV, htd] using (sm.env t).mono hl
def AOp.isCall : AOp → Bool
  | .pcall _ _ | .hcall _ _ | .vcall _ _ => true
  | _ => false
theorem plainCmp_some {op : BinOp} {t : TypeId} {neg : Bool} (hc : plainCmp P op t = some (some neg)) : P.underlying t = some .bool ∧ op = (if neg then .neq else .eql) := by
  unfold plainCmp at hc
  split at hc
  · split at hc
    all_goals first | (cases hc; done) | skip
    all_goals (rename_i hu; simp only [Option.some.injEq] at hc; subst hc; exact ⟨hu, rfl⟩)
  · split at hc
    all_goals first | (cases hc; done) | skip
    all_goals (rename_i hu; simp only [Option.some.injEq] at hc; subst hc; exact ⟨hu, rfl⟩)
  · cases hc
theorem step_s2s (hs : HSim F gl w h ρ) {s t : TypeId} {x : Operand} (ho : o.op = .convert s t x) (ht : P.underlying t = some .string) (hu : P.underlying s = some .string)
    {y : Opd} {e : Env} (hx : RepV (cx F w h ρ) (ev e y) (a.eval x)) {cl : Call} (he : eval cl e h (.s2s y) = some (v, h')) : Step P o a w F gl h ρ v h' := by
  simp only [eval] at he
  split at he
  · rename_i n hb
    cases he
    rw [hb] at hx
    refine .quiet hs (val := .string ⟨⟨n⟩⟩) ?_ (rep_str _)
    simp [execOp, ho, convert, run_underlying ht, run_underlying hu, ev_str hx]
  · cases he
theorem trXs_two {x y : Operand} {l : List Opd} {p q : Opd} (h : trXs H [x, y] = some l) (hl : l = [p, q]) : trX H x = some p ∧ trX H y = some q := by
  subst hl
  simp only [trXs] at h
  cases h1 : trX H x with
  | none => rw [h1] at h; cases h
  | some u =>
    cases h2 : trX H y with
    | none => rw [h1, h2] at h; cases h
    | some u' => rw [h1, h2] at h; cases h; exact ⟨rfl, rfl⟩
theorem trXs_len : ∀ {xs : List Operand} {l : List Opd}, trXs H xs = some l → xs.length = l.length
  | [], l, h => by cases h; rfl
  | x :: r, l, h => by
    unfold trXs at h
    cases h1 : trX H x with
    | none => rw [h1] at h; cases h
    | some u =>
      cases h2 : trXs H r with
      | none => rw [h1, h2] at h; cases h
      | some u' => rw [h1, h2] at h; cases h; simp [trXs_len h2]
theorem trXs_one {xs : List Operand} {p : Opd} (h : trXs H xs = some [p]) : ∃ x, xs = [x] ∧ trX H x = some p := by
  have hl := trXs_len h
  match xs, hl with
  | [x], _ =>
    simp only [trXs] at h
    cases h1 : trX H x with
    | none => rw [h1] at h; cases h
    | some u => rw [h1] at h; cases h; exact ⟨x, rfl, h1⟩
theorem trXs_pair {xs : List Operand} {p q : Opd} (h : trXs H xs = some [p, q]) : ∃ x y, xs = [x, y] ∧ trX H x = some p ∧ trX H y = some q := by
  have hl := trXs_len h
  match xs, hl with
  | [x, y], _ => obtain ⟨h1, h2⟩ := trXs_two h rfl; exact ⟨x, y, rfl, h1, h2⟩
theorem call_sound (sm : Sim N F H.glob st ρ a w) {c : Go.Call} (hop : o.op = .call c) {ao : AOp} (ht : trOp1 P H o = some ao) {cl : Call} (hnc : ao.isCall = false) (he : eval cl st.env st.hp ao = some (v, h')) : Step P o a w F H.glob st.hp ρ v h' := by
  have hs := sm.hs
  simp only [trOp1, hop] at ht
  split at ht
  · rename_i l hl
    split at ht
    · rename_i f hcal
      simp only [Option.some.injEq] at ht
      subst ht
      split at hnc <;> cases hnc
    · split at ht <;> cases ht
      cases hnc
    · rename_i hcal
      split at ht
      · rename_i y t hty
        obtain ⟨x, hargs, hx⟩ := trXs_one hl
        split at ht
        · rename_i hu; cases ht; exact step_lenStr hs hop hcal hargs hty hu (ev_rep sm hx) he
        · rename_i hu; cases ht; exact step_len hs hop hcal hargs hty hu (ev_rep sm hx) he
        · rename_i hu; cases ht; exact step_lenArr hs hop hcal hargs hty hu he
        · cases ht
      · cases ht
    · rename_i hcal
      split at ht <;> cases ht
      obtain ⟨x, y, hargs, hx, hy⟩ := trXs_pair hl
      exact step_min hs hop hcal hargs (ev_rep sm hx) (ev_rep sm hy) he
    · rename_i hcal
      split at ht <;> cases ht
      obtain ⟨x, y, hargs, hx, hy⟩ := trXs_pair hl
      exact step_max hs hop hcal hargs (ev_rep sm hx) (ev_rep sm hy) he
    · rename_i hcal
      split at ht
      · rename_i p q t u hty
        obtain ⟨x, y, hargs, hx, hy⟩ := trXs_pair hl
        split at ht
        · rename_i htu
          subst htu
          split at ht
          · rename_i e hu
            have hu' : P.underlying t = some (.slice e) := by
              unfold isSl at hu; split at hu <;> cases hu; assumption
            split at ht
            · rename_i i hi
              by_cases hok : appOk i = true
              case neg => rw [if_neg hok] at ht; cases ht
              rw [if_pos hok] at ht
              cases ht
              unfold appOk at hok
              simp only [Bool.and_eq_true, decide_eq_true_eq] at hok
              obtain ⟨⟨h0, hb⟩, hzz⟩ := hok
              cases hz : i.zero with
              | none => rw [hz] at hzz; cases hzz
              | some z =>
                rw [hz] at hzz
                exact step_append hs hop hcal hargs hty ⟨hu', hi, hz, rfl, h0, hb, by simpa using hzz⟩ (ev_rep sm hx) (ev_rep sm hy) he
            · cases ht
          · cases ht
        · cases ht
      · cases ht
    · cases ht
  · cases ht
theorem keyKs_ok {t : TypeId} {wd : Bool} {ks : List Nat} (h : keyKs P t = some (wd, ks)) : ∃ kt et, P.underlying t = some (.map kt et) ∧ kinds P 10 kt = some ks ∧ aggOf P kt = some wd := by
  unfold keyKs at h
  split at h
  · rename_i kt et hu
    split at h
    · rename_i h1 h2
      cases h
      exact ⟨kt, et, hu, h1, h2⟩
    · cases h
  · cases h
theorem zeroEl_ok {t kt et : TypeId} {z : C} (hu : P.underlying t = some (.map kt et)) (h : zeroEl P t = some z) : ∃ zv, (∀ w : World, (zeroValue et).run P w = .ok zv w) ∧ constC zv = some z := by
  unfold zeroEl at h
  rw [hu] at h
  simp only at h
  split at h
  · rename_i ti hi
    split at h
    · rename_i zv hz
      exact ⟨zv, fun w => by simp [zeroValue, typeInfo, hi, hz], h⟩
    · cases h
  · cases h
theorem op_sound (sm : Sim N F H.glob st ρ a w) {ao : AOp} (ht : trOp1 P H o = some ao) {cl : Call} (hnc : ao.isCall = false) (he : eval cl st.env st.hp ao = some (v, h')) : Step P o a w F H.glob st.hp ρ v h' := by
  have hs := sm.hs
  cases hop : o.op with
  | move x =>
    simp only [trOp1, hop] at ht
    split at ht <;> cases ht
    rename_i y hx
    exact step_move hs (.inl hop) (ev_rep sm hx) he
  | assign x =>
    simp only [trOp1, hop] at ht
    split at ht
    · rename_i y hx
      have plain : ao = .move y → Step P o a w F H.glob st.hp ρ v h' := fun e => by subst e; exact step_move hs (.inr hop) (ev_rep sm hx) he
      split at ht
      · split at ht
        · split at ht
          · split at ht
            · split at ht
              · rename_i h0
                cases ht
                exact step_newRow hs hop rfl h0 he
              · cases ht
            · cases ht
          · cases ht
        · cases ht; exact plain rfl
      · cases ht; exact plain rfl
    · cases ht
  | pick c x y =>
    simp only [trOp1, hop] at ht
    split at ht <;> cases ht
    rename_i hc hx hy
    exact step_pick hs hop (ev_rep sm hc) (ev_rep sm hx) (ev_rep sm hy) he
  | alloc t =>
    simp only [trOp1, hop] at ht
    split at ht
    · rename_i vs hz
      split at ht <;> cases ht
      rename_i cs hc
      exact step_alloc hs hop hz hc he
    · cases ht
  | box t x =>
    simp only [trOp1, hop] at ht
    split at ht <;> cases ht
    rename_i y hx
    exact step_box hs hop (ev_rep sm hx) he
  | build t ps =>
    simp only [trOp1, hop] at ht
    split at ht
    · rename_i vs hz
      split at ht
      · rename_i cs hc
        split at ht
        · rename_i fs hu
          split at ht
          · rename_i pl hpl
            split at ht <;> cases ht
            rename_i l hl
            exact step_build sm hop hc hl (fun vs ws h1 h2 => by
              have := build_struct hz hu hpl (ps.toList.map fun p => (p.1, a.eval p.2)) vs ws h1 h2 w
              have e2 : (ps.map fun (i, x) => (i, a.eval x)) = (ps.toList.map fun p => (p.1, a.eval p.2)).toArray := by apply Array.ext'; simp
              rw [e2]; exact this) he
          · cases ht
        · rename_i n e hu
          split at ht
          · rename_i s hs'
            split at ht <;> cases ht
            rename_i l hl
            exact step_build sm hop hc hl (fun vs ws h1 h2 => by
              have := build_array hz hu hs' (ps.toList.map fun p => (p.1, a.eval p.2)) vs ws h1 h2 w
              have e2 : (ps.map fun (i, x) => (i, a.eval x)) = (ps.toList.map fun p => (p.1, a.eval p.2)).toArray := by apply Array.ext'; simp
              rw [e2]; exact this) he
          · cases ht
        · cases ht
      · cases ht
    · cases ht
  | buildSlice t n ps =>
    simp only [trOp1, hop] at ht
    split at ht
    · rename_i e hu
      split at ht
      · rename_i s zs hs' hz
        split at ht
        · rename_i hcond
          obtain ⟨h0, hbig, hzl⟩ := hcond
          split at ht
          · rename_i z l hzd hl
            have hu' : P.underlying t = some (.slice e) := by
              unfold isSl at hu; split at hu <;> cases hu; assumption
            simp only [Option.some.injEq] at ht
            subst ht
            split at he
            · split at he
              · exact step_litX sm hop hu' hs' hz h0 hbig hzl hzd hl he
              · exact step_lit sm hop hu' hs' hz h0 hbig hzl hzd hl he
            · exact step_lit sm hop hu' hs' hz h0 hbig hzl hzd hl he
          · cases ht
        · cases ht
      · cases ht
    · cases ht
  | load t x =>
    simp only [trOp1, hop] at ht
    split at ht
    · rename_i y s g hx hz ha
      split at ht <;> cases ht
      exact step_load hs hop ha hz (ev_rep sm hx) he
    · cases ht
  | store t x y =>
    simp only [trOp1, hop] at ht
    split at ht <;> cases ht
    rename_i hx hy hz
    exact step_store hs hop hz (ev_rep sm hx) (ev_rep sm hy) he
  | nilCheck x =>
    simp only [trOp1, hop] at ht
    split at ht <;> cases ht
    rename_i y hx
    exact step_nilCheck hs hop (ev_rep sm hx) he
  | binOp op t x y yt =>
    simp only [trOp1, hop] at ht
    split at ht
    · rename_i hx hy
      split at ht
      · cases ht
        exact step_bin hs hop (ev_rep sm hx) (ev_rep sm hy) he
      · rename_i neg hc
        cases ht
        obtain ⟨hu, hn⟩ := plainCmp_some hc
        exact step_beq hs hop hu hn (ev_rep sm hx) (ev_rep sm hy) he
      · split at ht
        · rename_i hc
          cases ht
          exact step_eqA hs hop hc (ev_rep sm hx) (ev_rep sm hy) he
        · split at ht <;> cases ht
          rename_i hc
          exact step_isNil hs hop hc (ev_rep sm hx) he
    · cases ht
  | unOp op t x =>
    cases op <;> simp only [trOp1, hop] at ht <;> first | (cases ht; done) | skip
    split at ht <;> cases ht
    rename_i y hx
    exact step_not hs hop (ev_rep sm hx) he
  | convert s t x =>
    simp only [trOp1, hop] at ht
    split at ht
    · rename_i y hx
      split at ht
      · rename_i k hu
        split at ht
        · cases ht
        · split at ht <;> cases ht
          rename_i k' hu'
          exact step_toInt hs hop hu ⟨k', hu'⟩ (ev_rep sm hx) he
      · rename_i hu
        split at ht
        · rename_i e hu'
          split at ht <;> cases ht
          rename_i h8
          have h8' : P.underlying e = some (.int .u8) := by
            unfold isU8 at h8; split at h8 <;> first | assumption | cases h8
          exact step_b2s hs hop hu hu' h8' (ev_rep sm hx) he
        · rename_i hu'
          cases ht
          exact step_s2s hs hop hu hu' (ev_rep sm hx) he
        · rename_i k hu'
          cases ht
          exact step_r2s hs hop hu ⟨k, hu'⟩ (ev_rep sm hx) he
        · cases ht
      · rename_i e hu
        split at ht
        · split at ht <;> cases ht
          rename_i hh
          obtain ⟨rfl, h8⟩ := hh
          have h8' : P.underlying e = some (.int .u8) := by
            unfold isU8 at h8; split at h8 <;> first | assumption | cases h8
          exact step_b2b hs hop hu h8' (ev_rep sm hx) he
        · rename_i hu'
          split at ht
          · rename_i h8
            have h8' : P.underlying e = some (.int .u8) := by
              unfold isU8 at h8; split at h8 <;> first | assumption | cases h8
            simp only [Option.some.injEq] at ht
            subst ht
            exact step_s2b hs hop hu hu' h8' (ev_rep sm hx) he
          · cases ht
        · cases ht
      · cases ht
    · cases ht
  | makeFunc f first caps =>
    cases f with
    | func f =>
      simp only [trOp1, hop] at ht
      split at ht
      · rename_i h0
        split at ht <;> cases ht
        rename_i l hl
        exact step_mkFunc sm hop (by simpa using h0.1) hl he
      · cases ht
    | _ => simp only [trOp1, hop] at ht; cases ht
  | slice t x lo hi mx =>
    simp only [trOp1, hop] at ht
    split at ht
    · rename_i y l hh m hx hl hh' hm
      split at ht
      · rename_i hu
        split at ht
        · rename_i hmn
          cases ht
          have : mx = none := by
            cases mx with
            | none => rfl
            | some mm =>
              simp only [trO] at hm
              split at hm <;> cases hm
              simp at hmn
          subst this
          exact step_substr hs hop hu (ev_rep sm hx) (evOpt sm hl) (evOpt sm hh') he
        · cases ht
      · rename_i e hu
        split at ht
        · rename_i s hz
          split at ht <;> cases ht
          exact step_slice hs hop hu hz (ev_rep sm hx) (evOpt sm hl) (evOpt sm hh') (evOpt sm hm) he
        · cases ht
      · cases ht
    · cases ht
  | fieldAddr t x i =>
    simp only [trOp1, hop] at ht
    split at ht
    · rename_i fs hu
      split at ht
      · rename_i f hf
        split at ht
        · rename_i s y hz hx
          split at ht <;> cases ht
          rename_i hs0
          exact step_fieldAddr hs hop hu hf hz hs0 (ev_rep sm hx) he
        · cases ht
      · cases ht
    · cases ht
  | field t x i =>
    simp only [trOp1, hop] at ht
    split at ht
    · rename_i fs hu
      split at ht
      · rename_i f hf
        split at ht
        · rename_i s g y hz ha hx
          split at ht <;> cases ht
          exact step_field hs hop hu hf hz ha (ev_rep sm hx) he
        · cases ht
      · cases ht
    · cases ht
  | indexAddr t x i =>
    simp only [trOp1, hop] at ht
    split at ht
    · rename_i y j hx hj
      split at ht
      · rename_i e hu
        split at ht
        · rename_i s hz
          split at ht <;> cases ht
          exact step_idxAddr hs hop hu hz (ev_rep sm hx) (ev_rep sm hj) he
        · cases ht
      · rename_i n e hu
        split at ht <;> cases ht
        rename_i s hz
        exact step_arrAddr hs hop hu hz (ev_rep sm hx) (ev_rep sm hj) he
      · cases ht
    · cases ht
  | index t x i =>
    simp only [trOp1, hop] at ht
    split at ht
    · rename_i y j hx hj
      split at ht
      · rename_i hu
        cases ht
        exact step_strAt hs hop hu (ev_rep sm hx) (ev_rep sm hj) he
      · rename_i n e hu
        split at ht
        · rename_i s g hz ha
          split at ht <;> cases ht
          exact step_index hs hop hu hz ha (ev_rep sm hx) (ev_rep sm hj) he
        · cases ht
      · cases ht
    · cases ht
  | extract x i =>
    simp only [trOp1, hop] at ht
    split at ht <;> cases ht
    rename_i y hx
    exact step_extract hs hop (ev_rep sm hx) he
  | call c => exact call_sound sm hop ht hnc he
  | makeMap t r =>
    cases r with
    | some r => simp only [trOp1, hop] at ht; cases ht
    | none =>
      simp only [trOp1, hop] at ht
      split at ht <;> cases ht
      rename_i hu
      exact step_makeMap hs hop hu he
  | mapUpdate t m k x =>
    simp only [trOp1, hop] at ht
    split at ht
    · rename_i hm hk hx
      split at ht <;> cases ht
      rename_i hks
      obtain ⟨kt, et, hu, hkt, hka⟩ := keyKs_ok hks
      exact step_mapSet hs (.inl hop) hu hkt hka (ev_rep sm hm) (ev_rep sm hk) (ev_rep sm hx) he
    · cases ht
  | insert t m k x =>
    simp only [trOp1, hop] at ht
    split at ht
    · rename_i hm hk hx
      split at ht <;> cases ht
      rename_i hks
      obtain ⟨kt, et, hu, hkt, hka⟩ := keyKs_ok hks
      exact step_mapSet hs (.inr hop) hu hkt hka (ev_rep sm hm) (ev_rep sm hk) (ev_rep sm hx) he
    · cases ht
  | lookup t m k ok =>
    simp only [trOp1, hop] at ht
    split at ht <;> cases ht
    rename_i hm hk hks hz
    obtain ⟨kt, et, hu, hkt, hka⟩ := keyKs_ok hks
    obtain ⟨zv, hz1, hz2⟩ := zeroEl_ok hu hz
    exact step_mapGet hs hop hu hkt hka hz1 hz2 (ev_rep sm hm) (ev_rep sm hk) he
  | range t x =>
    simp only [trOp1, hop] at ht
    split at ht
    · rename_i y hx
      split at ht <;> cases ht
      rename_i hst
      have hst' : P.underlying t = some .string := by unfold isStr at hst; split at hst <;> first | assumption | cases hst
      exact step_range hs hop hst' (ev_rep sm hx) he
    · cases ht
  | next x b =>
    cases b with
    | false => simp only [trOp1, hop] at ht; cases ht
    | true =>
      simp only [trOp1, hop] at ht
      split at ht <;> cases ht
      rename_i y hx
      exact step_next hs hop (ev_rep sm hx) he
  | _ => simp only [trOp1, hop] at ht; cases ht
end
inductive RepDV (w : World) (A : Nat → Prop) : DV → Value → Prop
  | c (d : D) (v : Value) (h : RepD w A d v) : RepDV w A (.c d) v
  | agg (ds : List D) (vs : List Value) (hl : vs.length = ds.length) (hc : ∀ (i : Nat) (d : D) (v : Value), ds[i]? = some d → vs[i]? = some v → RepD w A d v) : RepDV w A (.agg ds) (.agg vs.toArray)
  | tup (xs : List DV) (vs : List Value) (hl : vs.length = xs.length) (hc : ∀ (i : Nat) (x : DV) (v : Value), xs[i]? = some x → vs[i]? = some v → RepDV w A x v) : RepDV w A (.tup xs) (.tuple vs.toArray)
def DsRep (w : World) (A : Nat → Prop) (ds : List DV) (vs : List Value) : Prop := vs.length = ds.length ∧ ∀ (i : Nat) (d : DV) (v : Value), ds[i]? = some d → vs[i]? = some v → RepDV w A d v
def VsRep (X : Cx) (xs : List V) (vs : List Value) : Prop := vs.length = xs.length ∧ ∀ (i : Nat) (q : V) (v : Value), xs[i]? = some q → vs[i]? = some v → RepV X q v
def GlobOk (gl : Nat → Option (List D)) (w : World) (A : Nat → Prop) : Prop := ∀ g ds, gl g = some ds → RepC ⟨w, A, fun _ => undef, [], 0⟩ (.lptr ds 0) (.pointer (some ⟨g, 0, none⟩))
def Enters (P : Program) (f : FuncId) : Prop := ∀ args w, (callFunc f args).run P w = .ok (.enter f args) w
def back (R : Value → World → Prop) : Ending → World → Prop
  | .returned v, w => R v w
  | _, _ => False
structure PureFn (P : Program) (gl : Nat → Option (List D)) (f : FuncId) (G : List DV → Option DV) : Prop where
  enters : Enters P f
  run : ∀ (w : World) (A : Nat → Prop) (ds : List DV) (vs : List Value) (r : DV), GlobOk gl w A → (∀ b, A b → b < w.heap.size) → DsRep w A ds vs → G ds = some r →
    Calls P f vs.toArray w (back fun v w' => Kept (fun _ => False) w w' ∧ RepDV w' A r v)
def PureExt (P : Program) (gl : Nat → Option (List D)) (f : FuncId) (G : List DV → Option DV) : Prop :=
  ∀ (w : World) (A : Nat → Prop) (ds : List DV) (vs : List Value) (r : DV), GlobOk gl w A → (∀ b, A b → b < w.heap.size) → DsRep w A ds vs → G ds = some r →
    ∃ v, (callFunc f vs.toArray).run P w = .ok (.value v) w ∧ RepDV w A r v
def PureOk (P : Program) (gl : Nat → Option (List D)) (f : FuncId) (G : List DV → Option DV) : Prop := PureFn P gl f G ∨ PureExt P gl f G
structure HeapOk (P : Program) (gl : Nat → Option (List D)) (f : FuncId) (T : List V → Hp → (V → Hp → Prop) → Prop) : Prop where
  enters : Enters P f
  run : ∀ (F : Nat → Prop) (w : World) (h : Hp) (ρ : Rho) (xs : List V) (vs : List Value) (K : V → Hp → Prop), HSim F gl w h ρ → VsRep (cx F w h ρ) xs vs → T xs h K →
    Calls P f vs.toArray w (back fun v w' => ∃ av h' ρ', K av h' ∧ RepV (cx F w' h' ρ') av v ∧ HSim F gl w' h' ρ' ∧ Later F w h ρ w' h' ρ')
structure CallOk (P : Program) (gl : Nat → Option (List D)) (cl : Call) : Prop where
  pure : ∀ f G, cl.pure f = some G → PureOk P gl f G
  heap : ∀ f T, cl.heap f = some T → HeapOk P gl f T
theorem enters_of {P : Program} {f : FuncId} {fn : Func} {c : Code} (hf : P.funcs[f]? = some fn) (hname : (fn.name == "runtime.NumGoroutine") = false) (hb : fn.body = some c) : Enters P f := by
  intro args w
  have h1 : fn.name ≠ "runtime.NumGoroutine" := by simpa using hname
  simp [callFunc, hf, h1, hb]
section
variable {P : Program} {o : Oper} {a : Act} {w w' : World} {F : Nat → Prop} {gl : Nat → Option (List D)} {h h' : Hp} {ρ ρ' : Rho} {v : V} {val : Value}
variable {N : Nat} {st : St} {H : Hint}
theorem DsRep.cons {A : Nat → Prop} {d : DV} {ds : List DV} {v : Value} {vs : List Value} (h1 : RepDV w A d v) (h2 : DsRep w A ds vs) : DsRep w A (d :: ds) (v :: vs) := by
  refine ⟨by simp [h2.1], ?_⟩
  intro i d' v' hd hv
  cases i with
  | zero => simp at hd hv; subst hd; subst hv; exact h1
  | succ i => exact h2.2 i d' v' (by simpa using hd) (by simpa using hv)
theorem toV1_rep {X : Cx} {r : DV} {v : V} (hr : RepDV X.w X.A r val) (hv : r.toV1 = some v) : RepV X v val := by
  cases hr with
  | c d _ hd => cases hv; exact .c _ _ (.d _ _ hd)
  | agg ds vs hl hc =>
    simp only [DV.toV1] at hv
    cases h1 : dsC ds with
    | none => simp only [h1] at hv; cases hv
    | some cs =>
      simp only [h1] at hv
      cases hv
      rw [dsC_eq h1]
      refine .agg _ _ (by simpa using hl) ?_
      intro i q v' hq hv'
      rw [List.getElem?_map] at hq
      cases hd : ds[i]? with
      | none => rw [hd] at hq; cases hq
      | some d => rw [hd] at hq; cases hq; exact .d _ _ (hc i d v' hd hv')
  | tup => cases hv
theorem toV1s_rep {X : Cx} : ∀ {rs : List DV} {vs : List V} {us : List Value}, toV1s rs = some vs → DsRep X.w X.A rs us → VsRep X vs us
  | [], vs, us, hv, hr => by cases hv; exact ⟨by simpa using hr.1, by simp⟩
  | r :: rs, vs, us, hv, hr => by
    unfold toV1s at hv
    cases h1 : r.toV1 with
    | none => rw [h1] at hv; cases hv
    | some q =>
      cases h2 : toV1s rs with
      | none => rw [h1, h2] at hv; cases hv
      | some l =>
        rw [h1, h2] at hv
        cases hv
        obtain ⟨hl, hc⟩ := hr
        match us, hl with
        | u :: us, hl =>
          obtain ⟨e1, e2⟩ := toV1s_rep (us := us) h2 ⟨by simpa using hl, fun i d v h3 h4 => hc (i + 1) d v (by simpa using h3) (by simpa using h4)⟩
          refine ⟨by simp [e1], ?_⟩
          intro i q' v' hq hv'
          cases i with
          | zero => simp at hq hv'; subst hq; subst hv'; exact toV1_rep (hc 0 r u rfl rfl) h1
          | succ i => exact e2 i q' v' (by simpa using hq) (by simpa using hv')
theorem toV_rep {X : Cx} {r : DV} {v : V} (hr : RepDV X.w X.A r val) (hv : r.toV = some v) : RepV X v val := by
  cases r with
  | c d => exact toV1_rep hr hv
  | agg ds => exact toV1_rep hr hv
  | tup xs =>
    simp only [DV.toV] at hv
    cases h1 : toV1s xs with
    | none => simp only [h1] at hv; cases hv
    | some l =>
      simp only [h1] at hv
      cases hv
      cases hr with
      | tup _ vs hl hc =>
        obtain ⟨e1, e2⟩ := toV1s_rep h1 ⟨hl, hc⟩
        exact .tup _ _ e1 e2
theorem RepD.flat_any {A A' : Nat → Prop} {d : D} (hf : d.flat = true) (hd : RepD w A d val) : RepD w' A' d val := by
  cases hd <;> first | (cases hf; done) | constructor
theorem RepDV.flat_any {A A' : Nat → Prop} {r : DV} (hf : r.flat = true) (hr : RepDV w A r val) : RepDV w' A' r val := by
  cases hr with
  | c d _ hd => exact .c _ _ (hd.flat_any hf)
  | agg ds vs hl hc =>
    refine .agg _ _ hl fun i d v h1 h2 => (hc i d v h1 h2).flat_any ?_
    simp only [DV.flat, List.all_eq_true] at hf
    exact hf d (List.mem_of_getElem? h1)
  | tup xs vs hl hc =>
    refine .tup _ _ hl fun i x v h1 h2 => ?_
    simp only [DV.flat, List.all_eq_true] at hf
    have hx := hf x (List.mem_of_getElem? h1)
    have hx' := hc i x v h1 h2
    cases hx' with
    | c d _ hd => exact .c _ _ (hd.flat_any hx)
    | agg ds vs hl hc =>
      refine .agg _ _ hl fun i d v h1 h2 => (hc i d v h1 h2).flat_any ?_
      simp only [List.all_eq_true] at hx
      exact hx d (List.mem_of_getElem? h1)
    | tup => cases hx
def GoneV : V → Nat → Prop
  | .c q, x => ∃ n, q = .own x n
  | .agg cs, x => Gone cs x
  | .tup _, _ => False
theorem look_shedV_iff {v : V} {ob : List (Nat × Ob)} {y : Nat} {o : Ob} : look (v.shed ob) y = some o ↔ ¬ GoneV v y ∧ look ob y = some o := by
  cases v with
  | c q =>
    simp only [V.shed, GoneV, look_shed_iff, not_exists]
  | agg cs => exact look_shedCs_iff
  | tup vs => simp [V.shed, GoneV]
theorem look_shedVs_iff : ∀ {vs : List V} {ob : List (Nat × Ob)} {y : Nat} {o : Ob}, look (shedVs ob vs) y = some o ↔ (∀ v ∈ vs, ¬ GoneV v y) ∧ look ob y = some o
  | [], ob, y, o => by simp [shedVs]
  | v :: r, ob, y, o => by
    simp only [shedVs, look_shedVs_iff (vs := r), look_shedV_iff, List.mem_cons, forall_eq_or_imp]
    constructor
    · rintro ⟨h1, h2, h3⟩; exact ⟨⟨h2, h1⟩, h3⟩
    · rintro ⟨⟨h2, h1⟩, h3⟩; exact ⟨h1, h2, h3⟩
theorem toDV_rep (hs : HSim F gl w h ρ) {q : V} {d : DV} (hq : RepV (cx F w h ρ) q val) (hd : q.toDV h = some d) {A' : Nat → Prop} (hA : ∀ b, A' b → F b ∨ Own ρ h.obs b)
    (hgone : ∀ x, GoneV q x → ∀ b, blkOf (ρ x) = some b → ¬ A' b) : RepDV w A' d val := by
  cases hq with
  | c q _ hq =>
    unfold V.toDV at hd
    cases h1 : q.toD h with
    | none => simp only [h1] at hd; cases hd
    | some d' =>
      simp only [h1] at hd
      cases hd
      exact .c _ _ (toD_rep hs hq h1 hA (fun x n hx => hgone x ⟨n, hx⟩))
  | agg cs vs hl hc =>
    unfold V.toDV at hd
    cases h1 : toDs h cs with
    | none => simp only [h1] at hd; cases hd
    | some ds =>
      simp only [h1] at hd
      cases hd
      obtain ⟨e1, e2⟩ := toDs_rep hs hA (cs := cs) (us := vs) ⟨hl, hc⟩ h1 hgone
      exact .agg _ _ e1 e2
  | tup => cases hd
theorem toDVs_rep (hs : HSim F gl w h ρ) {A' : Nat → Prop} (hA : ∀ b, A' b → F b ∨ Own ρ h.obs b) : ∀ {xs : List V} {ds : List DV} {us : List Value}, VsRep (cx F w h ρ) xs us → toDVs h xs = some ds →
    (∀ v ∈ xs, ∀ x, GoneV v x → ∀ b, blkOf (ρ x) = some b → ¬ A' b) → DsRep w A' ds us
  | [], ds, us, hx, hd, _ => by cases hd; exact ⟨hx.1, by simp⟩
  | v :: r, ds, us, hx, hd, hg => by
    unfold toDVs at hd
    cases h1 : v.toDV h with
    | none => rw [h1] at hd; cases hd
    | some d =>
      cases h2 : toDVs h r with
      | none => rw [h1, h2] at hd; cases hd
      | some l =>
        rw [h1, h2] at hd
        cases hd
        obtain ⟨hl, hc⟩ := hx
        match us, hl with
        | u :: us, hl =>
          exact .cons (toDV_rep hs (hc 0 v u rfl rfl) h1 hA (hg v (List.mem_cons_self ..)))
            (toDVs_rep hs hA (us := us) ⟨by simpa using hl, fun i q v h3 h4 => hc (i + 1) q v (by simpa using h3) (by simpa using h4)⟩ h2 (fun v hv => hg v (List.mem_cons_of_mem _ hv)))
theorem toDVs_live {h : Hp} {x : Nat} : ∀ {xs : List V} {ds : List DV} {q : V}, toDVs h xs = some ds → q ∈ xs → GoneV q x → ∃ o, look h.obs x = some o
  | [], ds, q, _, hm, _ => by cases hm
  | v :: r, ds, q, hd, hm, hg => by
    unfold toDVs at hd
    cases h1 : v.toDV h with
    | none => rw [h1] at hd; cases hd
    | some d =>
      cases h2 : toDVs h r with
      | none => rw [h1, h2] at hd; cases hd
      | some l =>
        cases hm with
        | tail _ hm => exact toDVs_live h2 hm hg
        | head =>
          unfold V.toDV at h1
          cases v with
          | c c =>
            obtain ⟨n, rfl⟩ := hg
            cases h3 : C.toD h (.own x n) with
            | none => simp only [h3] at h1; cases h1
            | some d' => obtain ⟨sz, l, hk, _⟩ := own_live h3; exact ⟨_, hk⟩
          | agg cs =>
            obtain ⟨n, hn⟩ := hg
            cases h3 : toDs h cs with
            | none => simp only [h3] at h1; cases h1
            | some d' => exact toDs_live h3 hn
          | tup vs => exact hg.elim
theorem glob_ok (hs : HSim F gl w h ρ) {A' : Nat → Prop} (hA : ∀ b, A' b → F b ∨ Own ρ h.obs b) : GlobOk gl w A' := by
  intro g ds hg
  have := hs.glob g ds hg
  cases this with
  | lptr e off b o vs hnA hcell hrep =>
    exact .lptr _ _ _ _ vs (fun h0 hb => hnA h0 (hA _ hb)) hcell (fun i d hd => (hrep i d hd).mono (Kept.refl (fun _ => False) w) (fun b h => h.elim) (fun b _ h => hA b h))
theorem pure_call (hs : HSim F gl w h ρ) {f : FuncId} {G : List DV → Option DV} (ok : PureFn P gl f G) {xs : List V} {vs : List Value} (hx : VsRep (cx F w h ρ) xs vs) {ds : List DV} (hd : toDVs h xs = some ds)
    {r : DV} (hr : G ds = some r) (hv : r.toV = some v) :
    Calls P f vs.toArray w (back fun val w' => ∃ ρ', RepV (cx F w' (if r.flat then h else ⟨h.next, shedVs h.obs xs⟩) ρ') v val ∧ HSim F gl w' (if r.flat then h else ⟨h.next, shedVs h.obs xs⟩) ρ' ∧ Later F w h ρ w' (if r.flat then h else ⟨h.next, shedVs h.obs xs⟩) ρ') := by
  have hlook : ∀ y o, look (shedVs h.obs xs) y = some o → look h.obs y = some o := fun y o hl => (look_shedVs_iff.1 hl).2
  have hA : ∀ b, (F b ∨ Own ρ (shedVs h.obs xs) b) → F b ∨ Own ρ h.obs b := fun b hb => hb.imp id (fun ⟨x, o, h1, h2⟩ => ⟨x, o, hlook x o h1, h2⟩)
  have hgone : ∀ q ∈ xs, ∀ x, GoneV q x → ∀ b, blkOf (ρ x) = some b → ¬ (F b ∨ Own ρ (shedVs h.obs xs) b) := by
    intro q hq x hg b hb hA'
    obtain ⟨o, ho⟩ := toDVs_live hd hq hg
    rcases hA' with hF | ⟨y, p, hy, hyb⟩
    · exact hs.apart b hF ⟨x, o, ho, hb⟩
    · obtain ⟨hny, hy'⟩ := look_shedVs_iff.1 hy
      obtain rfl := hs.inj x y o p b ho hy' hb hyb
      exact hny q hq hg
  have hsz : ∀ b, (F b ∨ Own ρ (shedVs h.obs xs) b) → b < w.heap.size := fun b hb => (hA b hb).elim (hs.flt b) (fun h => hs.own_lt h)
  refine Calls.mono (ok.run w _ ds vs r (glob_ok hs hA) hsz (toDVs_rep hs hA hx hd hgone) hr) ?_
  intro e w' he
  cases e with
  | returned val =>
    obtain ⟨hk, hrep⟩ := he
    refine ⟨ρ, ?_⟩
    cases hf : r.flat with
    | true =>
      simp only [if_true]
      exact ⟨toV_rep (X := cx F w' h ρ) (hrep.flat_any hf) hv, hs.block hk, .block hk⟩
    | false =>
      simp only [Bool.false_eq_true, if_false]
      have h1 : HSim F gl w ⟨h.next, shedVs h.obs xs⟩ ρ := hs.shed hlook (Nat.le_refl _)
      exact ⟨toV_rep (X := cx F w' ⟨h.next, shedVs h.obs xs⟩ ρ) hrep hv, h1.block hk, (Later.shed (h := h) (h' := ⟨h.next, shedVs h.obs xs⟩) hlook (Nat.le_refl _)).trans (.block hk)⟩
  | _ => exact he.elim
theorem run_call {c : Go.Call} (hop : o.op = .call c) {x : Operand} (hcal : c.callee = .value x) {f : FuncId} {caps : List Value} (hx : a.eval x = .func (.func f) #[] caps.toArray) (w : World) :
    (execOp a.eval o).run P w = (callFunc f ((c.args.toList.map a.eval) ++ caps).toArray).run P w := by
  have e : c.args.map a.eval = (c.args.toList.map a.eval).toArray := by apply Array.ext'; simp
  simp [execOp, hop, resolve, hcal, hx, Deferred.ofValue, invoke, e]
def Does (P : Program) (o : Oper) (a : Act) (w : World) (F : Nat → Prop) (gl : Nat → Option (List D)) (h : Hp) (ρ : Rho) (K : V → Hp → Prop) : Prop :=
  ∀ (next : Act → World → Prop) (Q : Exit → Act → World → Prop),
    (∀ v val w' h' ρ', K v h' → RepV (cx F w' h' ρ') v val → HSim F gl w' h' ρ' → Later F w h ρ w' h' ρ' → next (a.put o.dst val) w') → o.wp P a w next Q
theorem Does.of_step {K : V → Hp → Prop} (hk : K v h') (hs : Step P o a w F gl h ρ v h') : Does P o a w F gl h ρ K :=
  fun next Q k => hs next Q (fun val w' ρ' h1 h2 h3 => k v val w' h' ρ' hk h1 h2 h3)
theorem Does.of_calls {f : FuncId} {vs : List Value} {K : V → Hp → Prop} (hr : (execOp a.eval o).run P w = .ok (.enter f vs.toArray) w)
    (hc : Calls P f vs.toArray w (back fun v w' => ∃ av h' ρ', K av h' ∧ RepV (cx F w' h' ρ') av v ∧ HSim F gl w' h' ρ' ∧ Later F w h ρ w' h' ρ')) : Does P o a w F gl h ρ K := by
  intro next Q k
  unfold Oper.wp
  rw [hr]
  refine Calls.mono hc ?_
  intro e w' he
  cases e with
  | returned v =>
    obtain ⟨av, h', ρ', h1, h2, h3, h4⟩ := he
    exact k av v w' h' ρ' h1 h2 h3 h4
  | _ => exact he.elim
theorem VsRep.append {X : Cx} {xs ys : List V} {vs us : List Value} (h1 : VsRep X xs vs) (h2 : VsRep X ys us) : VsRep X (xs ++ ys) (vs ++ us) := by
  refine ⟨by simp [h1.1, h2.1], ?_⟩
  intro i q v hq hv
  by_cases hi : i < xs.length
  · rw [List.getElem?_append_left hi] at hq
    rw [List.getElem?_append_left (by rw [h1.1]; exact hi)] at hv
    exact h1.2 i q v hq hv
  · rw [List.getElem?_append_right (by omega)] at hq
    rw [List.getElem?_append_right (by rw [h1.1]; omega), h1.1] at hv
    exact h2.2 _ q v hq hv
theorem does_pcall (sm : Sim N F H.glob st ρ a w) {cl : Call} (ok : CallOk P H.glob cl) {f : FuncId} {G : List DV → Option DV} (hG : cl.pure f = some G) {l : List Opd} {xs : List Operand} (hl : trXs H xs = some l)
    (hr : (execOp a.eval o).run P w = (callFunc f (xs.map a.eval).toArray).run P w) {ds : List DV} (hd : toDVs st.hp (evs st.env l) = some ds) {r : DV} (hr' : G ds = some r) (hv : r.toV = some v) {K : V → Hp → Prop}
    (hk : K v (if r.flat then st.hp else ⟨st.hp.next, shedVs st.hp.obs (evs st.env l)⟩)) : Does P o a w F H.glob st.hp ρ K := by
  rcases ok.pure f G hG with pok | pok
  · refine .of_calls (hr.trans (pok.enters _ _)) (Calls.mono (pure_call sm.hs pok (evs_rep sm hl) hd hr' hv) ?_)
    intro e w' he
    cases e with
    | returned val =>
      obtain ⟨ρ', h1, h2, h3⟩ := he
      exact ⟨v, _, ρ', hk, h1, h2, h3⟩
    | _ => exact he.elim
  · have hs := sm.hs
    have hx := evs_rep sm hl
    have hlook : ∀ y o, look (shedVs st.hp.obs (evs st.env l)) y = some o → look st.hp.obs y = some o := fun y o hl => (look_shedVs_iff.1 hl).2
    have hA : ∀ b, (F b ∨ Own ρ (shedVs st.hp.obs (evs st.env l)) b) → F b ∨ Own ρ st.hp.obs b := fun b hb => hb.imp id (fun ⟨x, o, h1, h2⟩ => ⟨x, o, hlook x o h1, h2⟩)
    have hgone : ∀ q ∈ evs st.env l, ∀ x, GoneV q x → ∀ b, blkOf (ρ x) = some b → ¬ (F b ∨ Own ρ (shedVs st.hp.obs (evs st.env l)) b) := by
      intro q hq x hg b hb hA'
      obtain ⟨o, ho⟩ := toDVs_live hd hq hg
      rcases hA' with hF | ⟨y, p, hy, hyb⟩
      · exact hs.apart b hF ⟨x, o, ho, hb⟩
      · obtain ⟨hny, hy'⟩ := look_shedVs_iff.1 hy
        obtain rfl := hs.inj x y o p b ho hy' hb hyb
        exact hny q hq hg
    have hsz : ∀ b, (F b ∨ Own ρ (shedVs st.hp.obs (evs st.env l)) b) → b < w.heap.size := fun b hb => (hA b hb).elim (hs.flt b) (fun h => hs.own_lt h)
    obtain ⟨val, e1, hrep⟩ := pok w _ ds _ r (glob_ok hs hA) hsz (toDVs_rep hs hA hx hd hgone) hr'
    intro next Q k
    unfold Oper.wp
    rw [hr, e1]
    cases hf : r.flat with
    | true =>
      rw [hf] at hk
      exact k v val w st.hp ρ (by simpa using hk) (toV_rep (X := cx F w st.hp ρ) (hrep.flat_any hf) hv) hs (.refl _ _ _ _)
    | false =>
      rw [hf] at hk
      exact k v val w ⟨st.hp.next, shedVs st.hp.obs (evs st.env l)⟩ ρ (by simpa using hk) (toV_rep (X := cx F w ⟨st.hp.next, shedVs st.hp.obs (evs st.env l)⟩ ρ) hrep hv) (hs.shed hlook (Nat.le_refl _)) (.shed hlook (Nat.le_refl _))
theorem call_only {ao : AOp} (ht : trOp1 P H o = some ao) (hc : ao.isCall = true) : ∃ c l, o.op = .call c ∧ trXs H c.args.toList = some l ∧
    ((∃ f, c.callee = .value (.func f) ∧ ao = (if H.heap.contains f = true then .hcall f l else .pcall f l)) ∨ ∃ x y, c.callee = .value x ∧ trX H x = some y ∧ ao = .vcall y l) := by
  cases hop : o.op with
  | call c =>
    simp only [trOp1, hop] at ht
    split at ht
    · rename_i l hl
      split at ht
      · rename_i f hcal
        simp only [Option.some.injEq] at ht
        exact ⟨c, l, rfl, hl, .inl ⟨f, hcal, ht.symm⟩⟩
      · rename_i x _ hcal
        split at ht <;> cases ht
        rename_i y hx
        exact ⟨c, l, rfl, hl, .inr ⟨x, y, hcal, hx, rfl⟩⟩
      all_goals
        exfalso
        repeat' split at ht
        all_goals first | (cases ht; done) | (simp only [Option.some.injEq] at ht; subst ht; cases hc)
    · cases ht
  | makeFunc f first caps =>
    exfalso
    cases f <;> simp only [trOp1, hop] at ht
    all_goals repeat' split at ht
    all_goals first | (cases ht; done) | (simp only [Option.some.injEq] at ht; subst ht; cases hc)
  | makeMap t r =>
    exfalso
    cases r <;> simp only [trOp1, hop] at ht
    all_goals repeat' split at ht
    all_goals first | (cases ht; done) | (simp only [Option.some.injEq] at ht; subst ht; cases hc)
  | next x b =>
    exfalso
    cases b <;> simp only [trOp1, hop] at ht
    all_goals repeat' split at ht
    all_goals first | (cases ht; done) | (simp only [Option.some.injEq] at ht; subst ht; cases hc)
  | unOp op t x =>
    exfalso
    cases op <;> simp only [trOp1, hop] at ht
    all_goals repeat' split at ht
    all_goals first | (cases ht; done) | (simp only [Option.some.injEq] at ht; subst ht; cases hc)
  | _ =>
    exfalso
    simp only [trOp1, hop] at ht
    repeat' split at ht
    all_goals first | (cases ht; done) | (simp only [Option.some.injEq] at ht; subst ht; cases hc)
theorem trOp_cases {ao : AOp} (ht : trOp P H o = some ao) : trOp1 P H o = some ao ∨ ao = .stuck := by
  unfold trOp at ht
  split at ht
  · rename_i h; cases ht; exact .inl h
  · cases ht; exact .inr rfl
theorem opWp_sound (sm : Sim N F H.glob st ρ a w) {cl : Call} (ok : CallOk P H.glob cl) {ao : AOp} (ht : trOp P H o = some ao) {K : V → Hp → Prop} (hk : opWp cl ao st K) : Does P o a w F H.glob st.hp ρ K := by
  rcases trOp_cases ht with ht | rfl
  rotate_left
  · exact (show False from hk).elim
  by_cases hnc : ao.isCall = false
  · have he : ∃ r, eval cl st.env st.hp ao = some r ∧ K r.1 r.2 := by
      cases ao <;> first | (cases hnc; done) | skip
      all_goals
        simp only [opWp] at hk
        revert hk
        generalize eval cl st.env st.hp _ = r
        intro hk
        cases r with
        | none => exact hk.elim
        | some r => exact ⟨r, rfl, hk⟩
    obtain ⟨r, he, hk⟩ := he
    exact .of_step hk (op_sound sm ht hnc he)
  · obtain ⟨c, l, hop, hl, hway⟩ := call_only ht (by simpa using hnc)
    rcases hway with ⟨f, hcal, ht⟩ | ⟨x, y, hcal, hx, rfl⟩
    · have hrun : (execOp a.eval o).run P w = (callFunc f (c.args.toList.map a.eval).toArray).run P w := by
        have := run_call (P := P) (a := a) hop hcal (f := f) (caps := []) (by simp [Act.eval]) w
        simpa using this
      by_cases hh : H.heap.contains f = true
      · rw [if_pos hh] at ht
        subst ht
        simp only [opWp] at hk
        cases hT : cl.heap f with
        | none => simp only [hT] at hk
        | some T =>
          simp only [hT] at hk
          have hok := ok.heap f T hT
          exact .of_calls (hrun.trans (hok.enters _ _)) (hok.run F w st.hp ρ _ _ K sm.hs (evs_rep sm hl) hk)
      · rw [if_neg hh] at ht
        subst ht
        simp only [opWp, eval] at hk
        cases hG : cl.pure f with
        | none => simp only [hG] at hk; exact hk.elim
        | some G =>
          cases hd : toDVs st.hp (evs st.env l) with
          | none => simp only [hG, hd] at hk; exact hk.elim
          | some ds =>
            cases hr : G ds with
            | none => simp only [hG, hd, hr] at hk; exact hk.elim
            | some r =>
              cases hv : r.toV with
              | none => simp only [hG, hd, hr, hv] at hk; exact hk.elim
              | some v =>
                refine does_pcall sm ok hG hl hrun hd hr hv ?_
                simp only [hG, hd, hr, hv] at hk
                cases hf : r.flat with
                | true => simp only [hf] at hk; simpa [opt] using hk
                | false => simp only [hf] at hk; simpa [opt] using hk
    · simp only [opWp] at hk
      have hxr := ev_rep sm hx
      unfold vcallWp at hk
      split at hk
      · rename_i g hg
        rw [hg] at hxr
        have hval : a.eval x = .func (.func g) #[] #[] := by
          generalize a.eval x = val at hxr
          cases hxr with | c _ _ hq => cases hq with | d _ _ hd => cases hd; rfl
        have hrun : (execOp a.eval o).run P w = (callFunc g (c.args.toList.map a.eval).toArray).run P w := by
          have := run_call (P := P) (a := a) hop hcal (f := g) (caps := []) hval w
          simpa using this
        split at hk
        · rename_i T hT
          have hok := ok.heap g T hT
          exact .of_calls (hrun.trans (hok.enters _ _)) (hok.run F w st.hp ρ _ _ K sm.hs (evs_rep sm hl) hk)
        · split at hk
          · rename_i G hG
            cases hd : toDVs st.hp (evs st.env l) with
            | none => simp only [hd] at hk; exact hk.elim
            | some ds =>
              cases hr : G ds with
              | none => simp only [hd, hr, opt] at hk
              | some r =>
                cases hv : r.toV with
                | none => simp only [hd, hr, hv, opt] at hk
                | some v =>
                  refine does_pcall sm ok hG hl hrun hd hr hv ?_
                  simpa only [hd, hr, hv, opt] using hk
          · exact hk.elim
      · rename_i g caps hg
        rw [hg] at hxr
        split at hk
        · rename_i T hT
          have hok := ok.heap g T hT
          generalize hval : a.eval x = val at hxr
          cases hxr with
          | c _ _ hq =>
            cases hq with
            | clo _ _ cvs hlen hc =>
              refine .of_calls ((run_call hop hcal hval w).trans (hok.enters _ _)) (hok.run F w st.hp ρ _ _ K sm.hs ?_ hk)
              refine .append (evs_rep sm hl) ⟨by simp [hlen], ?_⟩
              intro i q v hq hv
              rw [List.getElem?_map] at hq
              cases hci : caps[i]? with
              | none => rw [hci] at hq; cases hq
              | some qc => rw [hci] at hq; cases hq; exact .c _ _ (hc i qc v hci hv)
        · exact hk.elim
      · exact hk.elim
end
theorem ev_congr {e e' : Env} {x : Opd} (h : ∀ t ∈ x.tmps, getV e t = getV e' t) : ev e x = ev e' x := by
  cases x with
  | t n => exact h n (by simp [Opd.tmps])
  | k v => rfl
theorem evs_congr {e e' : Env} : ∀ {l : List Opd}, (∀ t ∈ opdsTmps l, getV e t = getV e' t) → evs e l = evs e' l
  | [], _ => rfl
  | x :: r, h => by
    simp only [evs]
    rw [ev_congr (x := x) (fun t ht => h t (by simp [opdsTmps, ht])), evs_congr (l := r) (fun t ht => h t (by simp [opdsTmps, ht]))]
theorem evCs_congr {e e' : Env} : ∀ {l : List Opd}, (∀ t ∈ opdsTmps l, getV e t = getV e' t) → evCs e l = evCs e' l
  | [], _ => rfl
  | x :: r, h => by
    simp only [evCs]
    rw [ev_congr (x := x) (fun t ht => h t (by simp [opdsTmps, ht])), evCs_congr (l := r) (fun t ht => h t (by simp [opdsTmps, ht]))]
theorem fillC_congr {e e' : Env} : ∀ {ps : List (Nat × Nat × Opd)} {z : List C}, (∀ t ∈ opdsTmps (ps.map (·.2.2)), getV e t = getV e' t) → fillC e z ps = fillC e' z ps
  | [], _, _ => rfl
  | (off, sz, o) :: r, z, h => by
    simp only [fillC]
    rw [ev_congr (x := o) (fun t ht => h t (by simp [opdsTmps, ht]))]
    cases (ev e' o).cells with
    | none => rfl
    | some cs =>
      simp only
      split
      · cases splice z off cs with
        | none => rfl
        | some z' => exact fillC_congr (fun t ht => h t (by simp only [List.map_cons, opdsTmps, List.mem_append]; exact .inr ht))
      · rfl
theorem fillE_congr {e e' : Env} {h : Hp} {sz : Nat} : ∀ {ps : List (Nat × Opd)} {l : List (List D)}, (∀ t ∈ opdsTmps (ps.map (·.2)), getV e t = getV e' t) → fillE e h sz l ps = fillE e' h sz l ps
  | [], _, _ => rfl
  | (i, o) :: r, l, hh => by
    have ih : ∀ l', fillE e h sz l' r = fillE e' h sz l' r := fun l' => fillE_congr (fun t ht => hh t (by simp only [List.map_cons, opdsTmps, List.mem_append]; exact .inr ht))
    simp only [fillE]
    rw [ev_congr (x := o) (fun t ht => hh t (by simp [opdsTmps, ht]))]
    simp only [ih]
theorem bnd_congr {e e' : Env} {d : Option Nat} {lim : Nat} {x : Option Opd} (h : ∀ t ∈ opdsTmps x.toList, getV e t = getV e' t) : bnd e d lim x = bnd e' d lim x := by
  cases x with
  | none => rfl
  | some x => simp only [bnd]; rw [ev_congr (x := x) (fun t ht => h t (by simp [opdsTmps, ht]))]
theorem opdsTmps_append : ∀ (a b : List Opd), opdsTmps (a ++ b) = opdsTmps a ++ opdsTmps b
  | [], _ => rfl
  | x :: r, b => by simp [opdsTmps, opdsTmps_append r b]
theorem bounds_congr {e e' : Env} {n : Nat} {lo hi mx : Option Opd} (h : ∀ t ∈ opdsTmps (lo.toList ++ hi.toList ++ mx.toList), getV e t = getV e' t) : bounds e n lo hi mx = bounds e' n lo hi mx := by
  simp only [opdsTmps_append, List.mem_append] at h
  simp only [bounds]
  rw [bnd_congr (x := mx) (fun t ht => h t (.inr ht))]
  cases bnd e' (some n) n mx with
  | none => rfl
  | some m =>
    simp only
    rw [bnd_congr (x := hi) (fun t ht => h t (.inl (.inr ht)))]
    cases bnd e' (dflt n mx) m hi with
    | none => rfl
    | some k => simp only; rw [bnd_congr (x := lo) (fun t ht => h t (.inl (.inl ht)))]
theorem eval_congr {cl : Call} {e e' : Env} {h : Hp} {o : AOp} (hh : ∀ t ∈ opdsTmps o.opds, getV e t = getV e' t) : eval cl e h o = eval cl e' h o := by
  obtain ⟨nx, ob⟩ := h
  cases o
  case slice sz x lo hi mx =>
    have h1 : ev e x = ev e' x := ev_congr (fun t ht => hh t (by simp [AOp.opds, opdsTmps, ht]))
    have h2 : ∀ n, bounds e n lo hi mx = bounds e' n lo hi mx := fun n => bounds_congr (fun t ht => hh t (by simp only [AOp.opds, opdsTmps, List.mem_append]; exact .inr ht))
    simp only [eval, h1, h2]
  case substr x lo hi =>
    have h1 : ev e x = ev e' x := ev_congr (fun t ht => hh t (by simp [AOp.opds, opdsTmps, ht]))
    have h2 : ∀ n, bounds e n lo hi none = bounds e' n lo hi none := fun n => bounds_congr (fun t ht => hh t (by simp only [AOp.opds, opdsTmps, List.mem_append]; right; simpa using ht))
    simp only [eval, h1, h2]
  case build z ps => simp only [eval]; rw [fillC_congr hh]
  case lit sz n z ps own => simp only [eval]; rw [fillE_congr hh]
  case litX sz n z ps => simp only [eval]; rw [fillE_congr hh]
  case mkFunc f l => simp only [eval]; rw [evCs_congr (l := l) hh]
  case pcall f l => simp only [eval]; rw [evs_congr (l := l) hh]
  all_goals first
    | rfl
    | (rename_i x _ _; have h1 : ev e x = ev e' x := ev_congr (fun t ht => hh t (by simp [AOp.opds, opdsTmps, ht])); simp only [eval, h1]; done)
    | (simp only [AOp.opds, opdsTmps, List.append_nil, List.mem_append] at hh
       simp only [eval]
       repeat' rw [ev_congr (e := e) (e' := e') (fun t ht => hh t (by simp [ht]))])
theorem evalR_congr {cl : Call} {e e' : Env} {h h' : Hp} {o : AOp} {v : V} (hh : ∀ t ∈ opdsTmps o.opds, getV e t = getV e' t) : evalR cl e h o v h' ↔ evalR cl e' h o v h' := by
  have h0 := eval_congr (cl := cl) (h := h) hh
  cases o
  case hcall f l => simp only [evalR, opWp]; rw [evs_congr (l := l) hh]
  case vcall f l =>
    simp only [AOp.opds, opdsTmps, List.mem_append] at hh
    simp only [evalR, opWp]
    rw [ev_congr (x := f) (fun t ht => hh t (.inl ht)), evs_congr (l := l) (fun t ht => hh t (.inr ht))]
  all_goals simp only [evalR, opWp]; rw [h0]
theorem indep_eval {cl : Call} {e : Env} {h h' : Hp} {o : AOp} {v : V} (hi : o.indep = true) (he : eval cl e h o = some (v, h')) : h' = h ∧ ∀ h2, eval cl e h2 o = some (v, h2) := by
  cases o <;> first | (cases hi; done) | skip
  case min x y =>
    simp only [eval] at he ⊢
    split at he <;> cases he
    rename_i h1 h2
    exact ⟨rfl, fun _ => rfl⟩
  case max x y =>
    simp only [eval] at he ⊢
    split at he <;> cases he
    rename_i h1 h2
    exact ⟨rfl, fun _ => rfl⟩
  all_goals
    simp only [eval] at he ⊢
    repeat' split at he
    all_goals first | (cases he; done) | skip
    all_goals
      cases he
      refine ⟨rfl, fun h2 => ?_⟩
      simp_all
inductive Kd where
  | skip
  | quiet
  | wr
  deriving DecidableEq
structure Rec where
  o : AOper
  env : Env
  hp : Hp
  v : V
  hp' : Hp
  k : Kd
def Rec.ent (r : Rec) : Ent := ⟨r.o.op, r.env, r.hp, r.v, r.hp', decide (r.k = .wr)⟩
def guardV (e : Env) : Option (Nat × Bool) → Option Bool
  | none => some true
  | some (g, want) => match getV e g with
    | .c (.d (.bool b)) => some (decide (b = want))
    | .tup [] => some false
    | _ => none
theorem wanted_guard {e : Env} {g : Option (Nat × Bool)} {K : Bool → Prop} (h : wanted e g K) : ∃ b, guardV e g = some b ∧ K b := by
  unfold wanted at h
  split at h
  · exact ⟨true, rfl, h⟩
  · rename_i g want
    split at h
    · rename_i b hb
      by_cases hbw : b = want
      · exact ⟨true, by simp [guardV, hb, hbw], h.1 hbw⟩
      · exact ⟨false, by simp [guardV, hb, hbw], h.2 hbw⟩
    · rename_i hb
      exact ⟨false, by simp [guardV, hb], h⟩
    · exact h.elim
def LocOk (cl : Call) (r : Rec) : Prop :=
  match r.k with
  | .skip => guardV r.env r.o.guard = some false ∧ r.v = .tup [] ∧ r.hp' = r.hp
  | .quiet => guardV r.env r.o.guard = some true ∧ eval cl r.env r.hp r.o.op = some (r.v, r.hp) ∧ r.hp' = r.hp
  | .wr => guardV r.env r.o.guard = some true ∧ evalR cl r.env r.hp r.o.op r.v r.hp'
def pairR (cl : Call) (b i : Nat) (x y : Rec) : Prop :=
  match x.k, y.k with
  | .wr, .wr => b.testBit i = true
  | .wr, .quiet => y.o.op.indep = true ∨ b.testBit i = true ∨ eval cl y.env x.hp y.o.op = some (y.v, x.hp)
  | .quiet, .wr => x.o.op.indep = true ∨ b.testBit i = true ∨ eval cl x.env y.hp' x.o.op = some (x.v, y.hp')
  | _, _ => True
def hpAt (rs : List Rec) (h : Hp) (j : Nat) : Hp := match rs[j]? with | some r => r.hp | none => h
def envAt (rs : List Rec) (e : Env) (j : Nat) : Env := match rs[j]? with | some r => r.env | none => e
def putE (dst : Option Nat) (v : V) (e : Env) : Env := match dst with | some d => (d, v) :: e | none => e
theorem st_put (st : St) (dst : Option Nat) (v : V) (h : Hp) : st.put dst v h = ⟨putE dst v st.env, h⟩ := by cases dst <;> rfl
structure Tr (cl : Call) (st0 st : St) (ops : List AOper) (bs : List Nat) (rs : List Rec) : Prop where
  len : rs.length = ops.length
  op : ∀ (j : Nat) (r : Rec), rs[j]? = some r → ops[j]? = some r.o
  h0 : hpAt rs st.hp 0 = st0.hp
  e0 : envAt rs st.env 0 = st0.env
  stepH : ∀ (j : Nat) (r : Rec), rs[j]? = some r → hpAt rs st.hp (j + 1) = r.hp'
  stepE : ∀ (j : Nat) (r : Rec), rs[j]? = some r → envAt rs st.env (j + 1) = putE r.o.dst r.v r.env
  loc : ∀ (j : Nat) (r : Rec), rs[j]? = some r → LocOk cl r
  pair : ∀ (i j : Nat) (x y : Rec), i < j → rs[i]? = some x → rs[j]? = some y → pairR cl (bs.getD j 0) i x y
theorem Tr.nil (cl : Call) (st : St) (bs : List Nat) : Tr cl st st [] bs [] :=
  ⟨rfl, by simp, rfl, rfl, by simp, by simp, by simp, by simp⟩
theorem get_snoc {α : Type} {l : List α} {a b : α} {j : Nat} (h : (l ++ [a])[j]? = some b) : (j < l.length ∧ l[j]? = some b) ∨ (j = l.length ∧ b = a) := by
  by_cases hj : j < l.length
  · rw [List.getElem?_append_left hj] at h; exact .inl ⟨hj, h⟩
  · rw [List.getElem?_append_right (by omega)] at h
    have : j - l.length = 0 := by
      have := (List.getElem?_eq_some_iff.1 h).1
      simp at this
      omega
    rw [this] at h
    simp at h
    exact .inr ⟨by omega, h.symm⟩
theorem hpAt_snoc {rs : List Rec} {r : Rec} {h h' : Hp} (hr : r.hp = h) {j : Nat} (hj : j ≤ rs.length) : hpAt (rs ++ [r]) h' j = hpAt rs h j := by
  unfold hpAt
  by_cases hlt : j < rs.length
  · rw [List.getElem?_append_left hlt]
    rw [List.getElem?_eq_getElem hlt]
  · have : j = rs.length := by omega
    subst this
    simp [hr]
theorem envAt_snoc {rs : List Rec} {r : Rec} {e e' : Env} (hr : r.env = e) {j : Nat} (hj : j ≤ rs.length) : envAt (rs ++ [r]) e' j = envAt rs e j := by
  unfold envAt
  by_cases hlt : j < rs.length
  · rw [List.getElem?_append_left hlt]
    rw [List.getElem?_eq_getElem hlt]
  · have : j = rs.length := by omega
    subst this
    simp [hr]
theorem Tr.snoc {cl : Call} {st0 st st' : St} {ops : List AOper} {bs : List Nat} {rs : List Rec} (t : Tr cl st0 st ops bs rs) (r : Rec) (he : r.env = st.env) (hh : r.hp = st.hp) (hst : st' = st.put r.o.dst r.v r.hp')
    (hl : LocOk cl r) (hp : ∀ (i : Nat) (x : Rec), rs[i]? = some x → pairR cl (bs.getD rs.length 0) i x r) : Tr cl st0 st' (ops ++ [r.o]) bs (rs ++ [r]) := by
  subst hst
  rw [st_put]
  refine ⟨by simp [t.len], ?_, ?_, ?_, ?_, ?_, ?_, ?_⟩
  · intro j q hq
    rcases get_snoc hq with ⟨hj, hq⟩ | ⟨rfl, rfl⟩
    · rw [List.getElem?_append_left (by rw [← t.len]; exact hj)]; exact t.op j q hq
    · rw [t.len]; simp
  · rw [hpAt_snoc hh (Nat.zero_le _)]; exact t.h0
  · rw [envAt_snoc he (Nat.zero_le _)]; exact t.e0
  · intro j q hq
    rcases get_snoc hq with ⟨hj, hq⟩ | ⟨rfl, rfl⟩
    · rw [hpAt_snoc hh hj]; exact t.stepH j q hq
    · simp [hpAt]
  · intro j q hq
    rcases get_snoc hq with ⟨hj, hq⟩ | ⟨rfl, rfl⟩
    · rw [envAt_snoc he hj]; exact t.stepE j q hq
    · simp [envAt, he]
  · intro j q hq
    rcases get_snoc hq with ⟨hj, hq⟩ | ⟨rfl, rfl⟩
    · exact t.loc j q hq
    · exact hl
  · intro i j x y hij hx hy
    rcases get_snoc hy with ⟨hj, hy⟩ | ⟨rfl, rfl⟩
    · rcases get_snoc hx with ⟨hi, hx⟩ | ⟨rfl, rfl⟩
      · exact t.pair i j x y hij hx hy
      · omega
    · rcases get_snoc hx with ⟨hi, hx⟩ | ⟨rfl, rfl⟩
      · exact hp i x hx
      · omega
def Keeps (rs : List Rec) (past : List (Nat × Ent)) : Prop := ∀ (i : Nat) (r : Rec), rs[i]? = some r → (r.k = .wr ∨ (r.k = .quiet ∧ r.o.op.indep = false)) → (i, r.ent) ∈ past
theorem pastOk_mem {cl : Call} {b : Nat} {y : Ent} : ∀ {past : List (Nat × Ent)}, pastOk cl b y past → ∀ i x, (i, x) ∈ past → pairOk cl b i x y
  | [], _, i, x, hm => by cases hm
  | (k, z) :: r, h, i, x, hm => by
    cases hm with
    | head => exact h.1
    | tail _ hm => exact pastOk_mem h.2 i x hm
theorem pair_of {cl : Call} {b : Nat} {rs : List Rec} {past : List (Nat × Ent)} (hk : Keeps rs past) {y : Rec} (hp : pastOk cl b y.ent past) : ∀ (i : Nat) (x : Rec), rs[i]? = some x → pairR cl b i x y := by
  intro i x hx
  unfold pairR
  split
  · rename_i h1 h2
    have := pastOk_mem hp i x.ent (hk i x hx (.inl h1))
    simpa [pairOk, Rec.ent, h1, h2] using this
  · rename_i h1 h2
    have := pastOk_mem hp i x.ent (hk i x hx (.inl h1))
    simpa [pairOk, Rec.ent, h1, h2] using this
  · rename_i h1 h2
    cases hi : x.o.op.indep with
    | true => exact .inl rfl
    | false =>
      have := pastOk_mem hp i x.ent (hk i x hx (.inr ⟨h1, hi⟩))
      simpa [pairOk, Rec.ent, h1, h2, hi] using this
  · trivial
theorem keeps_add {rs : List Rec} {past past' : List (Nat × Ent)} {r : Rec} (hk : Keeps rs past) (hsub : ∀ x ∈ past, x ∈ past') (hr : (r.k = .wr ∨ (r.k = .quiet ∧ r.o.op.indep = false)) → (rs.length, r.ent) ∈ past') : Keeps (rs ++ [r]) past' := by
  intro i q hq hw
  rcases get_snoc hq with ⟨hi, hq⟩ | ⟨rfl, rfl⟩
  · exact hsub _ (hk i q hq hw)
  · exact hr hw
theorem dops_tr {cl : Call} {K : St → Prop} {bsA : List Nat} {st0 : St} : ∀ (ops : List AOper) (past : List (Nat × Ent)) (j : Nat) (bs : List Nat) (st : St), dopsWp cl past j bs ops K st →
    ∀ (dops : List AOper) (rs : List Rec), Tr cl st0 st dops bsA rs → rs.length = j → bs = bsA.drop j → Keeps rs past → ∃ st' rs', Tr cl st0 st' (dops ++ ops) bsA rs' ∧ K st'
  | [], past, j, bs, st, hd, dops, rs, t, hj, hb, hk => ⟨st, rs, by simpa using t, hd⟩
  | o :: r, past, j, bs, st, hd, dops, rs, t, hj, hb, hk => by
    have hbs : bs.headD 0 = bsA.getD rs.length 0 := by rw [hb, ← hj]; simp [List.headD_eq_head?_getD, List.head?_drop]
    have htl : bs.tail = bsA.drop (j + 1) := by rw [hb, List.tail_drop]
    have happ : dops ++ o :: r = (dops ++ [o]) ++ r := by simp
    unfold dopsWp at hd
    obtain ⟨g, hg, hd⟩ := wanted_guard hd
    rw [happ]
    cases g with
    | false =>
      simp only [Bool.false_eq_true, if_false] at hd
      have t' := t.snoc ⟨o, st.env, st.hp, .tup [], st.hp, .skip⟩ rfl rfl rfl ⟨hg, rfl, rfl⟩ (fun i x _ => by unfold pairR; split <;> first | trivial | (rename_i h2; cases h2))
      exact dops_tr r past (j + 1) bs.tail _ hd (dops ++ [o]) _ t' (by simp [hj]) htl (keeps_add hk (fun _ h => h) (fun h => by rcases h with h | ⟨h, _⟩ <;> cases h))
    | true =>
      simp only [if_true] at hd
      rcases hd with ⟨hi, v, he, hd⟩ | ⟨v, he, hp, hd⟩ | ⟨v, h', he, hp, hd⟩
      · have t' := t.snoc ⟨o, st.env, st.hp, v, st.hp, .quiet⟩ rfl rfl rfl ⟨hg, he, rfl⟩ (fun i x _ => by
          unfold pairR
          split
          · rename_i h2; cases h2
          · exact .inl hi
          · rename_i h2; cases h2
          · trivial)
        exact dops_tr r past (j + 1) bs.tail _ hd (dops ++ [o]) _ t' (by simp [hj]) htl (keeps_add hk (fun _ h => h) (fun h => by rcases h with h | ⟨_, h⟩ <;> first | (cases h; done) | (exact absurd hi (by simp at h; simp [h]))))
      · rw [hbs] at hp
        have t' := t.snoc ⟨o, st.env, st.hp, v, st.hp, .quiet⟩ rfl rfl rfl ⟨hg, he, rfl⟩ (pair_of (y := ⟨o, st.env, st.hp, v, st.hp, .quiet⟩) hk hp)
        exact dops_tr r _ (j + 1) bs.tail _ hd (dops ++ [o]) _ t' (by simp [hj]) htl (keeps_add hk (fun _ h => List.mem_cons_of_mem _ h) (fun _ => by rw [hj]; exact List.mem_cons_self ..))
      · rw [hbs] at hp
        have t' := t.snoc ⟨o, st.env, st.hp, v, h', .wr⟩ rfl rfl rfl ⟨hg, he⟩ (pair_of (y := ⟨o, st.env, st.hp, v, h', .wr⟩) hk hp)
        exact dops_tr r _ (j + 1) bs.tail _ hd (dops ++ [o]) _ t' (by simp [hj]) htl (keeps_add hk (fun _ h => List.mem_cons_of_mem _ h) (fun _ => by rw [hj]; exact List.mem_cons_self ..))
structure Lay (ops : List Oper) (π bs : List Nat) : Prop where
  len : π.length = ops.length
  lt : ∀ i ∈ π, i < ops.length
  nodup : π.Nodup
  all : ∀ i, i < ops.length → i ∈ π
  early : ∀ (j i : Nat) (o : Oper) (e : Edge), π[j]? = some i → ops[i]? = some o → e ∈ o.after.toList → Region.binds .any e = true → ∃ d, d < j ∧ π[d]? = some e.on
  bef : ∀ (j i : Nat) (o : Oper) (p : Nat), π[j]? = some i → ops[i]? = some o → (bs.getD j 0).testBit p = true →
    p < j ∧ ∃ e ∈ o.after.toList, Region.binds .any e = true ∧ ∃ d, d < j ∧ π[d]? = some e.on ∧ (p = d ∨ (bs.getD d 0).testBit p = true)
theorem foldl_bits {α : Type} (q : α → Bool) (f : α → Nat) : ∀ (l : List α) (m p : Nat), (l.foldl (fun m e => if q e then m ||| 2 ^ f e else m) m).testBit p = true ↔ (m.testBit p = true ∨ ∃ e ∈ l, q e = true ∧ f e = p)
  | [], m, p => by simp
  | a :: r, m, p => by
    simp only [List.foldl_cons, foldl_bits q f r, List.mem_cons, exists_eq_or_imp]
    by_cases hq : q a = true
    · simp only [hq, if_true, Nat.testBit_or, Nat.testBit_two_pow, Bool.or_eq_true, decide_eq_true_eq, true_and]
      constructor
      · rintro ((h | h) | h)
        · exact .inl h
        · exact .inr (.inl h)
        · exact .inr (.inr h)
      · rintro (h | h | h)
        · exact .inl (.inl h)
        · exact .inl (.inr h)
        · exact .inr h
    · simp [hq]
theorem need_bit {o : Oper} {p : Nat} : (need o).testBit p = true ↔ ∃ e ∈ o.after.toList, Region.binds .any e = true ∧ e.on = p := by
  unfold need
  rw [foldl_bits (Region.binds .any) (·.on)]
  simp
theorem pairs_get {ops : List Oper} : ∀ {π : List Nat}, (∀ i ∈ π, i < ops.length) → ∀ {j i : Nat} {o : Oper}, π[j]? = some i → ops[i]? = some o → (pairsOf ops π)[j]? = some (i, o)
  | [], _, j, i, o, h, _ => by simp at h
  | a :: r, hl, j, i, o, h, ho => by
    have ha : a < ops.length := hl a (List.mem_cons_self ..)
    have e : pairsOf ops (a :: r) = (a, ops[a]) :: pairsOf ops r := by simp [pairsOf, List.getElem?_eq_getElem ha]
    rw [e]
    cases j with
    | zero =>
      simp only [List.getElem?_cons_zero, Option.some.injEq] at h ⊢
      subst h
      rw [List.getElem?_eq_getElem ha] at ho
      cases ho
      rfl
    | succ j => simpa using pairs_get (fun i hi => hl i (List.mem_cons_of_mem _ hi)) (by simpa using h) ho
theorem perm_get {ops : List Oper} : ∀ {π : List Nat}, (∀ i ∈ π, i < ops.length) → ∀ {j i : Nat} {o : Oper}, π[j]? = some i → ops[i]? = some o → (permOps ops π)[j]? = some o
  | [], _, j, i, o, h, _ => by simp at h
  | a :: r, hl, j, i, o, h, ho => by
    have ha : a < ops.length := hl a (List.mem_cons_self ..)
    have e : permOps ops (a :: r) = ops[a] :: permOps ops r := by simp [permOps, List.getElem?_eq_getElem ha]
    rw [e]
    cases j with
    | zero =>
      simp only [List.getElem?_cons_zero, Option.some.injEq] at h ⊢
      subst h
      rw [List.getElem?_eq_getElem ha] at ho
      cases ho
      rfl
    | succ j => simpa using perm_get (fun i hi => hl i (List.mem_cons_of_mem _ hi)) (by simpa using h) ho
theorem perm_len {ops : List Oper} : ∀ {π : List Nat}, (∀ i ∈ π, i < ops.length) → (permOps ops π).length = π.length
  | [], _ => rfl
  | a :: r, hl => by
    have ha : a < ops.length := hl a (List.mem_cons_self ..)
    have e : permOps ops (a :: r) = ops[a] :: permOps ops r := by simp [permOps, List.getElem?_eq_getElem ha]
    rw [e]
    simp [perm_len (fun i hi => hl i (List.mem_cons_of_mem _ hi))]
theorem pairs_len {ops : List Oper} : ∀ {π : List Nat}, (∀ i ∈ π, i < ops.length) → (pairsOf ops π).length = π.length
  | [], _ => rfl
  | a :: r, hl => by
    have ha : a < ops.length := hl a (List.mem_cons_self ..)
    have e : pairsOf ops (a :: r) = (a, ops[a]) :: pairsOf ops r := by simp [pairsOf, List.getElem?_eq_getElem ha]
    rw [e]
    simp [pairs_len (fun i hi => hl i (List.mem_cons_of_mem _ hi))]
theorem pairs_inv {ops : List Oper} : ∀ {π : List Nat}, (∀ i ∈ π, i < ops.length) → ∀ {j : Nat} {x : Nat × Oper}, (pairsOf ops π)[j]? = some x → π[j]? = some x.1 ∧ ops[x.1]? = some x.2
  | [], _, j, x, h => by simp [pairsOf] at h
  | a :: r, hl, j, x, h => by
    have ha : a < ops.length := hl a (List.mem_cons_self ..)
    have e : pairsOf ops (a :: r) = (a, ops[a]) :: pairsOf ops r := by simp [pairsOf, List.getElem?_eq_getElem ha]
    rw [e] at h
    cases j with
    | zero =>
      simp only [List.getElem?_cons_zero, Option.some.injEq] at h ⊢
      subst h
      exact ⟨rfl, List.getElem?_eq_getElem ha⟩
    | succ j => simpa using pairs_inv (fun i hi => hl i (List.mem_cons_of_mem _ hi)) (by simpa using h)
theorem orderOk_get : ∀ {l : List (Nat × Oper)} {done : Nat}, orderOk done l = true → ∀ {j i : Nat} {o : Oper}, l[j]? = some (i, o) → ∀ e ∈ o.after.toList, Region.binds .any e = true →
    done.testBit e.on = true ∨ ∃ d x, d < j ∧ l[d]? = some x ∧ x.1 = e.on
  | [], done, _, j, i, o, h, _, _, _ => by simp at h
  | (i0, o0) :: r, done, hk, j, i, o, h, e, he, hb => by
    simp only [orderOk, Bool.and_eq_true, beq_iff_eq] at hk
    cases j with
    | zero =>
      simp only [List.getElem?_cons_zero, Option.some.injEq, Prod.mk.injEq] at h
      obtain ⟨rfl, rfl⟩ := h
      left
      have h1 : (need o0).testBit e.on = true := need_bit.2 ⟨e, he, hb, rfl⟩
      rw [← hk.1, Nat.testBit_and] at h1
      simp only [Bool.and_eq_true] at h1
      exact h1.2
    | succ j =>
      rcases orderOk_get hk.2 (by simpa using h) e he hb with h1 | ⟨d, x, hd, hx, h1⟩
      · rw [Nat.testBit_or, Nat.testBit_two_pow] at h1
        simp only [Bool.or_eq_true, decide_eq_true_eq] at h1
        rcases h1 with h1 | h1
        · exact .inl h1
        · exact .inr ⟨0, (i0, o0), by omega, by simp, h1⟩
      · exact .inr ⟨d + 1, x, by omega, by simpa using hx, h1⟩
theorem maskOf_bit {m : Nat} : ∀ {done : List (Nat × Nat)} {j acc p : Nat}, done.length = j → (maskOf m done j acc).testBit p = true →
    acc.testBit p = true ∨ ∃ d x, done.reverse[d]? = some x ∧ m.testBit x.1 = true ∧ (x.2.testBit p = true ∨ p = d)
  | [], j, acc, p, hl, h => .inl h
  | (i, b) :: r, j, acc, p, hl, h => by
    have hj : j - 1 = r.length := by simp at hl; omega
    simp only [maskOf] at h
    rcases maskOf_bit (done := r) (by omega) h with h1 | ⟨d, x, hx, h1, h2⟩
    · by_cases hm : m.testBit i = true
      · rw [if_pos hm] at h1
        simp only [Nat.testBit_or, Nat.testBit_two_pow, Bool.or_eq_true, decide_eq_true_eq] at h1
        rcases h1 with (h1 | h1) | h1
        · exact .inl h1
        · exact .inr ⟨r.length, (i, b), by simp, hm, .inl h1⟩
        · exact .inr ⟨r.length, (i, b), by simp, hm, .inr (by omega)⟩
      · rw [if_neg hm] at h1
        exact .inl h1
    · refine .inr ⟨d, x, ?_, h1, h2⟩
      rw [List.reverse_cons, List.getElem?_append_left (List.getElem?_eq_some_iff.1 hx).1]
      exact hx
theorem befGo_len : ∀ {l : List (Nat × Oper)} {done : List (Nat × Nat)} {j : Nat}, (befGo done j l).length = l.length
  | [], _, _ => rfl
  | (i, o) :: r, done, j => by simp [befGo, befGo_len (l := r)]
theorem befGo_get : ∀ {l : List (Nat × Oper)} {done : List (Nat × Nat)} {j : Nat}, done.length = j → ∀ {k i : Nat} {o : Oper}, l[k]? = some (i, o) →
    ∃ dn : List (Nat × Nat), dn.length = j + k ∧ (befGo done j l)[k]? = some (maskOf (need o) dn (j + k) 0) ∧
      ∀ (d : Nat) (x : Nat × Nat), dn.reverse[d]? = some x → (d < j ∧ done.reverse[d]? = some x) ∨ ∃ d' y, d = j + d' ∧ d' < k ∧ l[d']? = some y ∧ y.1 = x.1 ∧ (befGo done j l)[d']? = some x.2
  | [], done, j, _, k, i, o, h => by simp at h
  | (i0, o0) :: r, done, j, hl, k, i, o, h => by
    cases k with
    | zero =>
      simp only [List.getElem?_cons_zero, Option.some.injEq, Prod.mk.injEq] at h
      obtain ⟨rfl, rfl⟩ := h
      refine ⟨done, by omega, by simp [befGo], ?_⟩
      intro d x hx
      left
      have := (List.getElem?_eq_some_iff.1 hx).1
      simp at this
      exact ⟨by omega, hx⟩
    | succ k =>
      obtain ⟨dn, h1, h2, h3⟩ := befGo_get (l := r) (done := (i0, maskOf (need o0) done j 0) :: done) (j := j + 1) (by simp [hl]) (k := k) (i := i) (o := o) (by simpa using h)
      refine ⟨dn, by omega, ?_, ?_⟩
      · simp only [befGo, List.getElem?_cons_succ]
        rw [h2]
        congr 2
        omega
      · intro d x hx
        rcases h3 d x hx with ⟨hd, hx'⟩ | ⟨d', y, rfl, hk, hy, hyx, hb⟩
        · rw [List.reverse_cons] at hx'
          rcases get_snoc hx' with ⟨hlt, hx'⟩ | ⟨rfl, rfl⟩
          · simp at hlt
            exact .inl ⟨by omega, hx'⟩
          · refine .inr ⟨0, (i0, o0), by simp [hl], by omega, by simp, rfl, ?_⟩
            simp [befGo]
        · refine .inr ⟨d' + 1, y, by omega, by omega, by simpa using hy, hyx, ?_⟩
          simpa [befGo] using hb
theorem nodupB_ok : ∀ {l : List Nat}, nodupB l = true → l.Nodup
  | [], _ => List.nodup_nil
  | a :: r, h => by
    simp only [nodupB, Bool.and_eq_true, Bool.not_eq_true', List.contains_eq_mem, decide_eq_false_iff_not] at h
    exact List.nodup_cons.2 ⟨h.1, nodupB_ok h.2⟩
theorem lay_of {ops : List Oper} {π : List Nat} (h : drawOk ops π = true) : Lay ops π (befs ops π) := by
  simp only [drawOk, permOk, Bool.and_eq_true, beq_iff_eq, List.all_eq_true, decide_eq_true_eq, List.mem_range, List.contains_eq_mem] at h
  obtain ⟨⟨⟨⟨hlen, hlt⟩, hnd⟩, hall⟩, hord⟩ := h
  refine ⟨hlen, hlt, nodupB_ok hnd, fun i hi => hall i hi, ?_, ?_⟩
  · intro j i o e hj ho he hb
    rcases orderOk_get hord (pairs_get hlt hj ho) e he hb with h1 | ⟨d, x, hd, hx, h1⟩
    · simp at h1
    · exact ⟨d, hd, by rw [← h1]; exact (pairs_inv hlt hx).1⟩
  · intro j
    induction j using Nat.strongRecOn with
    | ind j ih =>
    intro i o p hj ho hp
    obtain ⟨dn, h1, h2, h3⟩ := befGo_get (l := pairsOf ops π) (done := []) (j := 0) rfl (pairs_get hlt hj ho)
    have hb : (befs ops π).getD j 0 = maskOf (need o) dn (0 + j) 0 := by
      show (befGo [] 0 (pairsOf ops π)).getD j 0 = _
      simp [List.getD_eq_getElem?_getD, h2]
    rw [hb] at hp
    rcases maskOf_bit h1 hp with h4 | ⟨d, x, hx, hm, hw⟩
    · simp at h4
    · rcases h3 d x hx with ⟨hd, _⟩ | ⟨d', y, rfl, hk, hy, hyx, hbd⟩
      · omega
      · obtain ⟨e, he, heb, heo⟩ := need_bit.1 hm
        have hπ := (pairs_inv hlt hy).1
        have hbd' : (befs ops π).getD d' 0 = x.2 := by
          show (befGo [] 0 (pairsOf ops π)).getD d' 0 = _
          simp [List.getD_eq_getElem?_getD, hbd]
        have hd'j : d' < j := hk
        have hπd : π[d']? = some e.on := by rw [heo, ← hyx]; exact hπ
        rcases hw with hw | hw
        · refine ⟨?_, e, he, heb, d', hd'j, hπd, .inr (by rw [hbd']; exact hw)⟩
          have := (ih d' hd'j y.1 y.2 p hπ (pairs_inv hlt hy).2 (by rw [hbd']; exact hw)).1
          omega
        · exact ⟨by omega, e, he, heb, d', hd'j, hπd, .inl (by omega)⟩
theorem trOps_get {P : Program} {H : Hint} {N : Nat} {all : List Oper} : ∀ {l : List Oper} {al : List AOper}, trOps P H N all l = some al → al.length = l.length ∧
    ∀ (j : Nat) (o : Oper), l[j]? = some o → ∃ ao : AOper, al[j]? = some ao ∧ ao.dst = o.dst ∧ trOp P H o = some ao.op ∧ guardOf all o.guard = some ao.guard ∧ dstOk N o.dst = true
  | [], al, h => by cases h; exact ⟨rfl, by simp⟩
  | o :: r, al, h => by
    unfold trOps at h
    by_cases hd : dstOk N o.dst = true
    · rw [if_pos hd] at h
      cases h1 : trOp P H o with
      | none => rw [h1] at h; cases h
      | some p =>
        cases h2 : guardOf all o.guard with
        | none => rw [h1, h2] at h; cases h
        | some g =>
          cases h3 : trOps P H N all r with
          | none => rw [h1, h2, h3] at h; cases h
          | some l' =>
            rw [h1, h2, h3] at h
            cases h
            obtain ⟨e1, e2⟩ := trOps_get h3
            refine ⟨by simp [e1], ?_⟩
            intro j o' ho
            cases j with
            | zero =>
              simp only [List.getElem?_cons_zero, Option.some.injEq] at ho
              subst ho
              exact ⟨_, rfl, rfl, h1, h2, hd⟩
            | succ j => simpa using e2 j o' (by simpa using ho)
    · rw [if_neg hd] at h; cases h
theorem info_get : ∀ {l : List AOper} {bs : List Nat} {k : Nat}, l.length ≤ bs.length → ∀ {j : Nat} {o : AOper}, l[j]? = some o → ∃ b, bs[j]? = some b ∧ (infoGo k l bs)[j]? = some ⟨k + j, o.dst, o.sees, b⟩
  | [], bs, k, _, j, o, h => by simp at h
  | a :: r, [], k, hl, j, o, h => by simp at hl
  | a :: r, b :: bs, k, hl, j, o, h => by
    cases j with
    | zero =>
      simp only [List.getElem?_cons_zero, Option.some.injEq] at h
      subst h
      exact ⟨b, rfl, by simp [infoGo]⟩
    | succ j =>
      obtain ⟨b', h1, h2⟩ := info_get (l := r) (bs := bs) (k := k + 1) (by simpa using hl) (j := j) (o := o) (by simpa using h)
      refine ⟨b', by simpa using h1, ?_⟩
      simp only [infoGo, List.getElem?_cons_succ, h2]
      congr 2
      omega
theorem apart_get {l : List AOper} {bs : List Nat} (hl : l.length ≤ bs.length) (h : apartOk (infoGo 0 l bs) = true) {j k : Nat} {oj ok : AOper} {t : Nat} (hne : j ≠ k) (hj : l[j]? = some oj) (hk : l[k]? = some ok) (hd : oj.dst = some t) :
    ok.dst ≠ some t ∧ (t ∈ ok.sees → (bs.getD k 0).testBit j = true ∨ (bs.getD j 0).testBit k = true) := by
  obtain ⟨bj, h1, h2⟩ := info_get (k := 0) hl hj
  obtain ⟨bk, h3, h4⟩ := info_get (k := 0) hl hk
  simp only [apartOk, List.all_eq_true] at h
  have hx := h _ (List.mem_of_getElem? h2)
  simp only [hd, List.all_eq_true] at hx
  have hy := hx _ (List.mem_of_getElem? h4)
  simp only [Bool.or_eq_true, Bool.and_eq_true, beq_iff_eq, bne_iff_ne, ne_eq, Bool.not_eq_true', List.contains_eq_mem, decide_eq_false_iff_not] at hy
  have e1 : bs.getD k 0 = bk := by simp [List.getD_eq_getElem?_getD, h3]
  have e2 : bs.getD j 0 = bj := by simp [List.getD_eq_getElem?_getD, h1]
  rw [e1, e2]
  rcases hy with hy | ⟨hy1, hy2⟩
  · omega
  · refine ⟨hy1, fun ht => ?_⟩
    rcases hy2 with (hy2 | hy2) | hy2
    · exact absurd ht hy2
    · left; simpa using hy2
    · right; simpa using hy2
def envL (S : Nat → Bool) : Nat → List Rec → Env → Env
  | _, [], e => e
  | j, r :: rs, e => if S j = true then putE r.o.dst r.v (envL S (j + 1) rs e) else envL S (j + 1) rs e
theorem getV_putE {dst : Option Nat} {v : V} {e : Env} {t : Nat} : getV (putE dst v e) t = if dst = some t then v else getV e t := by
  cases dst with
  | none => simp [putE]
  | some d => simp [putE, getV]
theorem sel_env (S : Nat → Bool) (e : Env) (t : Nat) : ∀ (rs : List Rec) (k : Nat),
    (∃ i r, rs[i]? = some r ∧ r.o.dst = some t ∧ S (k + i) = true ∧ getV (envL S k rs e) t = r.v) ∨
    ((∀ i r, rs[i]? = some r → r.o.dst = some t → S (k + i) = false) ∧ getV (envL S k rs e) t = getV e t)
  | [], k => .inr ⟨by simp, rfl⟩
  | r :: rs, k => by
    have ih := sel_env S e t rs (k + 1)
    by_cases h : S k = true ∧ r.o.dst = some t
    · exact .inl ⟨0, r, rfl, h.2, h.1, by simp only [envL, h.1, if_true, getV_putE, h.2]⟩
    · have hv : getV (envL S k (r :: rs) e) t = getV (envL S (k + 1) rs e) t := by
        have e0 : envL S k (r :: rs) e = if S k = true then putE r.o.dst r.v (envL S (k + 1) rs e) else envL S (k + 1) rs e := rfl
        rw [e0]
        split
        · rename_i hs
          rw [getV_putE, if_neg (fun hd => h ⟨hs, hd⟩)]
        · rfl
      rcases ih with ⟨i, q, h1, h2, h3, h4⟩ | ⟨h1, h2⟩
      · exact .inl ⟨i + 1, q, by simpa using h1, h2, by rw [← h3]; congr 1; omega, hv.trans h4⟩
      · refine .inr ⟨?_, hv.trans h2⟩
        intro i q hq hd
        cases i with
        | zero =>
          simp only [List.getElem?_cons_zero, Option.some.injEq] at hq
          subst hq
          cases hs : S (k + 0) with
          | false => rfl
          | true => exact absurd ⟨hs, hd⟩ h
        | succ i =>
          have := h1 i q (by simpa using hq) hd
          rw [← this]
          congr 1
          omega
section
variable {P : Program} {H : Hint} {N : Nat} {ops : Array Oper} {π bs : List Nat} {al : List AOper} {rs : List Rec} {st0 st : St} {cl : Call}
structure Rg (P : Program) (H : Hint) (N : Nat) (ops : Array Oper) (π bs : List Nat) (al : List AOper) (rs : List Rec) (st0 st : St) (cl : Call) : Prop where
  lay : Lay ops.toList π bs
  htr : trOps P H N ops.toList (permOps ops.toList π) = some al
  hbl : al.length ≤ bs.length
  hap : apartOk (infoGo 0 al bs) = true
  t : Tr cl st0 st al bs rs
theorem Rg.rlen (g : Rg P H N ops π bs al rs st0 st cl) : rs.length = ops.size := by
  rw [g.t.len, (trOps_get g.htr).1, perm_len g.lay.lt, g.lay.len]; simp
theorem Rg.pos (g : Rg P H N ops π bs al rs st0 st cl) {j i : Nat} {o : Oper} (hj : π[j]? = some i) (ho : ops[i]? = some o) :
    ∃ r, rs[j]? = some r ∧ r.o.dst = o.dst ∧ trOp P H o = some r.o.op ∧ guardOf ops.toList o.guard = some r.o.guard ∧ dstOk N o.dst = true := by
  have ho' : ops.toList[i]? = some o := by simpa using ho
  obtain ⟨ao, h1, h2, h3, h4, h5⟩ := (trOps_get g.htr).2 j o (perm_get g.lay.lt hj ho')
  have hlt : j < rs.length := by rw [g.t.len]; exact (List.getElem?_eq_some_iff.1 h1).1
  have h6 := g.t.op j _ (List.getElem?_eq_getElem hlt)
  rw [h1] at h6
  cases h6
  exact ⟨rs[j], List.getElem?_eq_getElem hlt, h2, h3, h4, h5⟩
theorem Rg.idx (g : Rg P H N ops π bs al rs st0 st cl) {j : Nat} {r : Rec} (hr : rs[j]? = some r) : ∃ i o, π[j]? = some i ∧ ops[i]? = some o := by
  have h1 := (List.getElem?_eq_some_iff.1 hr).1
  rw [g.rlen] at h1
  have h2 : j < π.length := by rw [g.lay.len]; simpa using h1
  have h3 := g.lay.lt π[j] (List.getElem_mem h2)
  exact ⟨π[j], ops[π[j]]'(by simpa using h3), List.getElem?_eq_getElem h2, Array.getElem?_eq_getElem (by simpa using h3)⟩
theorem Rg.before (g : Rg P H N ops π bs al rs st0 st cl) {j p : Nat} {r : Rec} (hr : rs[j]? = some r) (hb : (bs.getD j 0).testBit p = true) : p < j := by
  obtain ⟨i, o, h1, h2⟩ := g.idx hr
  exact (g.lay.bef j i o p h1 (by simpa using h2) hb).1
theorem Rg.alone (g : Rg P H N ops π bs al rs st0 st cl) {i j : Nat} {x y : Rec} {t : Nat} (hx : rs[i]? = some x) (hy : rs[j]? = some y) (h1 : x.o.dst = some t) (h2 : y.o.dst = some t) : i = j := by
  by_cases h : i = j
  · exact h
  · exact absurd h2 (apart_get g.hbl g.hap h (g.t.op i x hx) (g.t.op j y hy) h1).1
theorem Rg.sees (g : Rg P H N ops π bs al rs st0 st cl) {i j : Nat} {x y : Rec} {t : Nat} (hne : i ≠ j) (hx : rs[i]? = some x) (hy : rs[j]? = some y) (h1 : x.o.dst = some t) (h2 : t ∈ y.o.sees) :
    (bs.getD j 0).testBit i = true ∨ (bs.getD i 0).testBit j = true :=
  (apart_get g.hbl g.hap hne (g.t.op i x hx) (g.t.op j y hy) h1).2 h2
theorem Tr.env_at (_ : Tr cl st0 st al bs rs) {j : Nat} {r : Rec} (hr : rs[j]? = some r) : r.env = envAt rs st.env j ∧ r.hp = hpAt rs st.hp j := by simp [envAt, hpAt, hr]
theorem Tr.text_env (t : Tr cl st0 st al bs rs) (x : Nat) : ∀ j, j ≤ rs.length →
    (∃ i r, i < j ∧ rs[i]? = some r ∧ r.o.dst = some x ∧ getV (envAt rs st.env j) x = r.v) ∨
    ((∀ i r, i < j → rs[i]? = some r → r.o.dst ≠ some x) ∧ getV (envAt rs st.env j) x = getV st0.env x)
  | 0, _ => .inr ⟨by intro i r h; omega, by rw [t.e0]⟩
  | j + 1, hj => by
    have hlt : j < rs.length := by omega
    have hr : rs[j]? = some rs[j] := List.getElem?_eq_getElem hlt
    have hs := t.stepE j _ hr
    rw [hs, getV_putE, (t.env_at hr).1]
    by_cases hd : rs[j].o.dst = some x
    · exact .inl ⟨j, rs[j], by omega, hr, hd, by simp [hd]⟩
    · rw [if_neg hd]
      rcases t.text_env x j (by omega) with ⟨i, r, h1, h2, h3, h4⟩ | ⟨h1, h2⟩
      · exact .inl ⟨i, r, by omega, h2, h3, h4⟩
      · refine .inr ⟨fun i r hi hr' => ?_, h2⟩
        by_cases hij : i = j
        · subst hij; rw [hr] at hr'; cases hr'; exact hd
        · exact h1 i r (by omega) hr'
theorem Tr.hp_same (t : Tr cl st0 st al bs rs) {j : Nat} : ∀ {k : Nat}, j ≤ k → k ≤ rs.length → (∀ p r, j ≤ p → p < k → rs[p]? = some r → r.k ≠ .wr) → hpAt rs st.hp k = hpAt rs st.hp j
  | 0, h, _, _ => by have : j = 0 := by omega
                     subst this; rfl
  | k + 1, h, hk, hn => by
    by_cases hj : j = k + 1
    · rw [hj]
    · have hlt : k < rs.length := by omega
      have hr : rs[k]? = some rs[k] := List.getElem?_eq_getElem hlt
      have ih := t.hp_same (j := j) (k := k) (by omega) (by omega) (fun p r h1 h2 => hn p r h1 (by omega))
      rw [t.stepH k _ hr, ← ih]
      have hl := t.loc k _ hr
      have hnw := hn k _ (by omega) (by omega) hr
      rw [← (t.env_at hr).2]
      unfold LocOk at hl
      cases hk : rs[k].k with
      | skip => rw [hk] at hl; exact hl.2.2
      | quiet => rw [hk] at hl; exact hl.2.2
      | wr => exact absurd hk hnw
theorem first_wr (rs : List Rec) (a : Nat) : ∀ b, (∀ p r, a ≤ p → p < b → rs[p]? = some r → r.k ≠ .wr) ∨ ∃ p r, a ≤ p ∧ p < b ∧ rs[p]? = some r ∧ r.k = .wr ∧ ∀ q r', a ≤ q → q < p → rs[q]? = some r' → r'.k ≠ .wr
  | 0 => .inl (fun p r h1 h2 => by omega)
  | b + 1 => by
    rcases first_wr rs a b with h | ⟨p, r, h1, h2, h3⟩
    · by_cases hb : a ≤ b ∧ ∃ r, rs[b]? = some r ∧ r.k = .wr
      · obtain ⟨hab, r, hr, hk⟩ := hb
        exact .inr ⟨b, r, hab, by omega, hr, hk, fun q r' h1 h2 => h q r' h1 h2⟩
      · refine .inl fun p r h1 h2 hr hk => ?_
        by_cases hpb : p = b
        · subst hpb; exact hb ⟨h1, r, hr, hk⟩
        · exact h p r h1 (by omega) hr hk
    · exact .inr ⟨p, r, h1, by omega, h3⟩
theorem last_wr (rs : List Rec) (a : Nat) : ∀ b, (∀ p r, a ≤ p → p < b → rs[p]? = some r → r.k ≠ .wr) ∨ ∃ p r, a ≤ p ∧ p < b ∧ rs[p]? = some r ∧ r.k = .wr ∧ ∀ q r', p < q → q < b → rs[q]? = some r' → r'.k ≠ .wr
  | 0 => .inl (fun p r h1 h2 => by omega)
  | b + 1 => by
    by_cases hb : a ≤ b ∧ ∃ r, rs[b]? = some r ∧ r.k = .wr
    · obtain ⟨hab, r, hr, hk⟩ := hb
      exact .inr ⟨b, r, hab, by omega, hr, hk, fun q r' h1 h2 => by omega⟩
    · have hb' : ∀ r, a ≤ b → rs[b]? = some r → r.k ≠ .wr := fun r h1 h2 h3 => hb ⟨h1, r, h2, h3⟩
      rcases last_wr rs a b with h | ⟨p, r, h1, h2, h3, h4, h5⟩
      · refine .inl fun p r h1 h2 hr => ?_
        by_cases hpb : p = b
        · subst hpb; exact hb' r h1 hr
        · exact h p r h1 (by omega) hr
      · refine .inr ⟨p, r, h1, by omega, h3, h4, fun q r' h6 h7 hr => ?_⟩
        by_cases hqb : q = b
        · subst hqb; exact hb' r' (by omega) hr
        · exact h5 q r' h6 (by omega) hr
variable {S : Nat → Bool} {k : Nat}
theorem Rg.version (g : Rg P H N ops π bs al rs st0 st cl) {j : Nat} {r : Rec} (hr : rs[j]? = some r) (hq : r.k = .quiet) (hS : S j = false) (hb : ∀ p, (bs.getD j 0).testBit p = true → S p = true)
    (hc : ∀ (i : Nat) (x : Rec) (p : Nat), rs[i]? = some x → S i = true → (bs.getD i 0).testBit p = true → S p = true) (hk : k ≤ rs.length) (hver : ∀ (i : Nat) (x : Rec), rs[i]? = some x → x.k = .wr → (S i = true ↔ i < k)) :
    eval cl r.env (hpAt rs st.hp k) r.o.op = some (r.v, hpAt rs st.hp k) := by
  have hl := g.t.loc j r hr
  unfold LocOk at hl
  rw [hq] at hl
  obtain ⟨_, he, _⟩ := hl
  have hjl := (List.getElem?_eq_some_iff.1 hr).1
  by_cases hi : r.o.op.indep = true
  · exact (indep_eval hi he).2 _
  rw [(g.t.env_at hr).2] at he
  rcases Nat.lt_or_ge j k with hjk | hjk
  · -- later
    rcases last_wr rs j k with h | ⟨p, x, h1, h2, h3, h4, h5⟩
    · rw [g.t.hp_same (Nat.le_of_lt hjk) hk h]; exact he
    · have hpj : j ≠ p := fun e => by subst e; rw [hr] at h3; cases h3; rw [hq] at h4; cases h4
      have hpair := g.t.pair j p r x (by omega) hr h3
      unfold pairR at hpair
      rw [hq, h4] at hpair
      have e1 : hpAt rs st.hp k = x.hp' := by
        rw [g.t.hp_same (j := p + 1) (by omega) hk (fun q r' h6 h7 => h5 q r' (by omega) h7), g.t.stepH p x h3]
      have hSp : S p = true := (hver p x h3 h4).2 h2
      rcases hpair with h | h | h
      · exact absurd h hi
      · rw [hc p x j h3 hSp h] at hS; cases hS
      · rw [e1]; exact h
  · rcases first_wr rs k j with h | ⟨p, x, h1, h2, h3, h4, h5⟩
    · rw [← g.t.hp_same (j := k) (k := j) hjk (Nat.le_of_lt hjl) h]; exact he
    · have hpair := g.t.pair p j x r h2 h3 hr
      unfold pairR at hpair
      rw [hq, h4] at hpair
      have hpl := (List.getElem?_eq_some_iff.1 h3).1
      have e1 : hpAt rs st.hp k = x.hp := by
        rw [(g.t.env_at h3).2, g.t.hp_same (j := k) (k := p) h1 (Nat.le_of_lt hpl) h5]
      have hSp : S p = false := by
        cases hs : S p with
        | false => rfl
        | true => have := (hver p x h3 h4).1 hs; omega
      rcases hpair with h | h | h
      · exact absurd h hi
      · rw [hb p h] at hSp; cases hSp
      · rw [e1]; exact h
theorem Rg.agree (g : Rg P H N ops π bs al rs st0 st cl) {j : Nat} {r : Rec} (hr : rs[j]? = some r) (hS : S j = false) (hb : ∀ p, (bs.getD j 0).testBit p = true → S p = true)
    (hc : ∀ (i : Nat) (x : Rec) (p : Nat), rs[i]? = some x → S i = true → (bs.getD i 0).testBit p = true → S p = true) : ∀ t ∈ r.o.sees, getV (envL S 0 rs st0.env) t = getV r.env t := by
  intro t ht
  have hjl := (List.getElem?_eq_some_iff.1 hr).1
  rw [(g.t.env_at hr).1]
  rcases sel_env S st0.env t rs 0 with ⟨i, x, h1, h2, h3, h4⟩ | ⟨h1, h2⟩ <;> rcases g.t.text_env t j (Nat.le_of_lt hjl) with ⟨i', y, k1, k2, k3, k4⟩ | ⟨k1, k2⟩
  · obtain rfl := g.alone h1 k2 h2 k3
    rw [h1] at k2
    cases k2
    rw [h4, k4]
  · exfalso
    rw [Nat.zero_add] at h3
    have hne : i ≠ j := fun e => by subst e; rw [hS] at h3; cases h3
    have hge : ¬ i < j := fun hlt => k1 i x hlt h1 h2
    rcases g.sees hne h1 hr h2 ht with hb1 | hb1
    · exact hge (g.before hr hb1)
    · rw [hc i x j h1 h3 hb1] at hS; cases hS
  · exfalso
    have hs := h1 i' y k2 k3
    rw [Nat.zero_add] at hs
    rcases g.sees (by omega) k2 hr k3 ht with hb1 | hb1
    · rw [hb i' hb1] at hs; cases hs
    · have := g.before k2 hb1; omega
  · rw [h2, k2]
theorem Rg.agree_end (g : Rg P H N ops π bs al rs st0 st cl) (hall : ∀ i, i < rs.length → S i = true) (t : Nat) : getV (envL S 0 rs st0.env) t = getV st.env t := by
  have hend : envAt rs st.env rs.length = st.env := by simp [envAt]
  rcases sel_env S st0.env t rs 0 with ⟨i, x, h1, h2, h3, h4⟩ | ⟨h1, h2⟩ <;> rcases g.t.text_env t rs.length (Nat.le_refl _) with ⟨i', y, k1, k2, k3, k4⟩ | ⟨k1, k2⟩
  · obtain rfl := g.alone h1 k2 h2 k3
    rw [h1] at k2
    cases k2
    rw [h4, ← k4, hend]
  · exact absurd h2 (k1 i x (List.getElem?_eq_some_iff.1 h1).1 h1)
  · have hs := h1 i' y k2 k3
    rw [Nat.zero_add, hall i' k1] at hs
    cases hs
  · rw [h2, ← k2, hend]
theorem Rg.agree_put (g : Rg P H N ops π bs al rs st0 st cl) {j : Nat} {r : Rec} (hr : rs[j]? = some r) (t : Nat) :
    getV (envL (fun i => decide (i = j) || S i) 0 rs st0.env) t = getV (putE r.o.dst r.v (envL S 0 rs st0.env)) t := by
  rw [getV_putE]
  rcases sel_env (fun i => decide (i = j) || S i) st0.env t rs 0 with ⟨i, x, h1, h2, h3, h4⟩ | ⟨h1, h2⟩
  · rw [h4]
    by_cases hd : r.o.dst = some t
    · obtain rfl := g.alone h1 hr h2 hd
      rw [h1] at hr
      cases hr
      simp [hd]
    · rw [if_neg hd]
      have hij : i ≠ j := fun e => by subst e; rw [h1] at hr; cases hr; exact hd h2
      simp only [Nat.zero_add, Bool.or_eq_true, decide_eq_true_eq, hij, false_or] at h3
      rcases sel_env S st0.env t rs 0 with ⟨i', y, k1, k2, k3, k4⟩ | ⟨k1, k2⟩
      · obtain rfl := g.alone h1 k1 h2 k2
        rw [h1] at k1
        cases k1
        rw [k4]
      · have := k1 i x h1 h2
        rw [Nat.zero_add, h3] at this
        cases this
  · rw [h2]
    have hd : r.o.dst ≠ some t := fun hd => by
      have := h1 j r hr hd
      simp at this
    rw [if_neg hd]
    rcases sel_env S st0.env t rs 0 with ⟨i', y, k1, k2, k3, k4⟩ | ⟨k1, k2⟩
    · have := h1 i' y k1 k2
      rw [Nat.zero_add] at this k3
      simp [k3] at this
    · rw [k2]
end
section
variable {P : Program} {H : Hint} {N : Nat} {ops : Array Oper} {π bs : List Nat} {al : List AOper} {rs : List Rec} {st0 st : St} {cl : Call}
variable {F : Nat → Prop} {w0 : World} {h0 : Hp} {ρ0 : Rho} {S : Nat → Bool} {k : Nat} {a : Act} {w : World} {ρ : Rho} {gl : Nat → Option (List D)}
theorem wanted_rep (sm : Sim N F gl st ρ a w) {o : Oper} {g : Option (Nat × Bool)} (hg : guardOf ops.toList o.guard = some g) {b : Bool} (hb : guardV st.env g = some b) :
    Region.wanted o (yielded ops a.tmps) = b := by
  unfold Region.wanted
  cases hog : o.guard with
  | none =>
    rw [hog] at hg
    cases hg
    cases hb
    rfl
  | some jw =>
    obtain ⟨j, want⟩ := jw
    rw [hog] at hg
    simp only [guardOf] at hg
    cases hoj : ops.toList[j]? with
    | none => rw [hoj] at hg; cases hg
    | some oj =>
      rw [hoj] at hg
      simp only at hg
      cases hd : oj.dst with
      | none => rw [hd] at hg; cases hg
      | some t =>
        rw [hd] at hg
        simp only [Option.some.injEq] at hg
        subst hg
        have hoj' : ops[j]? = some oj := by simpa using hoj
        have he := sm.env t
        unfold yielded
        simp only [hoj', Option.bind_some, hd]
        simp only [guardV] at hb
        split at hb
        · rename_i b' hv
          cases hb
          rw [hv] at he
          have hval := ev_bool he
          cases ht : a.tmps[t]? with
          | none => simp [Array.getD_eq_getD_getElem?, ht, undef] at hval
          | some v =>
            simp only [Array.getD_eq_getD_getElem?, ht, Option.getD_some] at hval
            subst hval
            cases b' <;> cases want <;> rfl
        · rename_i hv
          cases hb
          rw [hv] at he
          cases ht : a.tmps[t]? with
          | none => rfl
          | some v =>
            simp only [Array.getD_eq_getD_getElem?, ht, Option.getD_some] at he
            cases he with
            | tup xs vs hl hc => rfl
        · cases hb
structure Inv (P : Program) (H : Hint) (N : Nat) (ops : Array Oper) (π bs : List Nat) (rs : List Rec) (st0 st : St) (F : Nat → Prop) (w0 : World) (h0 : Hp) (ρ0 : Rho)
    (listed : Array Bool) (a : Act) (w : World) (S : Nat → Bool) (k : Nat) (ρ : Rho) : Prop where
  size : listed.size = ops.size
  link : ∀ (j i : Nat), π[j]? = some i → listed[i]? = some (S j)
  closed : ∀ (i : Nat) (x : Rec) (p : Nat), rs[i]? = some x → S i = true → (bs.getD i 0).testBit p = true → S p = true
  le : k ≤ rs.length
  ver : ∀ (i : Nat) (x : Rec), rs[i]? = some x → x.k = .wr → (S i = true ↔ i < k)
  sim : Sim N F H.glob ⟨envL S 0 rs st0.env, hpAt rs st.hp k⟩ ρ a w
  later : Later F w0 h0 ρ0 w (hpAt rs st.hp k) ρ
theorem Sim.env_eq {e e' : Env} {h : Hp} (sm : Sim N F gl ⟨e, h⟩ ρ a w) (he : ∀ t, getV e' t = getV e t) : Sim N F gl ⟨e', h⟩ ρ a w :=
  ⟨sm.hs, sm.size, fun t => by rw [he]; exact sm.env t, sm.defers⟩
theorem evalR_of_eval {e : Env} {h h' : Hp} {o : AOp} {v : V} (he : eval cl e h o = some (v, h')) : evalR cl e h o v h' := by
  cases o
  case hcall f l => simp only [eval] at he; cases he
  case vcall f l => simp only [eval] at he; cases he
  all_goals (simp only [evalR, opWp]; rw [he]; exact ⟨rfl, rfl⟩)
theorem nodup_get : ∀ {l : List Nat}, l.Nodup → ∀ {i j x : Nat}, l[i]? = some x → l[j]? = some x → i = j
  | [], _, i, j, x, h, _ => by simp at h
  | a :: r, hn, i, j, x, hi, hj => by
    obtain ⟨h1, h2⟩ := List.nodup_cons.1 hn
    cases i with
    | zero =>
      cases j with
      | zero => rfl
      | succ j => simp at hi hj; subst hi; exact absurd (List.mem_of_getElem? hj) h1
    | succ i =>
      cases j with
      | zero => simp at hi hj; subst hj; exact absurd (List.mem_of_getElem? hi) h1
      | succ j => simp at hi hj; rw [nodup_get h2 hi hj]
theorem Inv.step (g : Rg P H N ops π bs al rs st0 st cl) (ok : CallOk P H.glob cl) {listed : Array Bool} (iv : Inv P H N ops π bs rs st0 st F w0 h0 ρ0 listed a w S k ρ) {Q : Exit → Act → World → Prop} {K : Act → World → Prop}
    {i : Nat} (hi : i ∈ Region.ready .any ops listed) (hK : ∀ a' w' S' k' ρ', Inv P H N ops π bs rs st0 st F w0 h0 ρ0 (listed.setIfInBounds i true) a' w' S' k' ρ' → K a' w') : wpOp P ops Q i K a w := by
  obtain ⟨hun, o, ho, hall⟩ := mem_ready.1 hi
  have hil : i < ops.size := (Array.getElem?_eq_some_iff.1 ho).1
  obtain ⟨j, hj⟩ := List.mem_iff_getElem?.1 (g.lay.all i (by simpa using hil))
  obtain ⟨r, hr, hdst, htr, hgd, hdok⟩ := g.pos hj ho
  have hSj : S j = false := by
    have := iv.link j i hj
    simp [this] at hun
    exact hun
  have hbS : ∀ p, (bs.getD j 0).testBit p = true → S p = true := by
    intro p hp
    obtain ⟨_, e, he, heb, d, _, hd, hw⟩ := g.lay.bef j i o p hj (by simpa using ho) hp
    have h1 := hall e (by simpa using he) heb
    have h2 := iv.link d e.on hd
    have hSd : S d = true := by simpa [h2] using h1
    rcases hw with rfl | hw
    · exact hSd
    · have hdl : d < rs.length := by
        have := (List.getElem?_eq_some_iff.1 hd).1
        rw [g.rlen]; rw [g.lay.len] at this; simpa using this
      exact iv.closed d _ p (List.getElem?_eq_getElem hdl) hSd hw
  have hag := g.agree hr hSj hbS iv.closed
  have hguard : guardV (envL S 0 rs st0.env) r.o.guard = guardV r.env r.o.guard := by
    cases hgg : r.o.guard with
    | none => rfl
    | some gw => obtain ⟨x, want⟩ := gw; simp only [guardV]; rw [hag x (by simp [AOper.sees, hgg])]
  have hops : ∀ t ∈ opdsTmps r.o.op.opds, getV r.env t = getV (envL S 0 rs st0.env) t := fun t ht => (hag t (by simp [AOper.sees, ht])).symm
  -- what is behind it
  have after : ∀ (k' : Nat) (val : Value) (w' : World) (ρ' : Rho), k' ≤ rs.length → (∀ (i : Nat) (x : Rec), rs[i]? = some x → x.k = .wr → ((decide (i = j) || S i) = true ↔ i < k')) →
      RepV (cx F w' (hpAt rs st.hp k') ρ') r.v val → HSim F H.glob w' (hpAt rs st.hp k') ρ' → Later F w (hpAt rs st.hp k) ρ w' (hpAt rs st.hp k') ρ' → K (a.put o.dst val) w' := by
    intro k' val w' ρ' hk' hver hv hs hl
    refine hK _ _ (fun i => decide (i = j) || S i) k' ρ' ⟨by simp [iv.size], ?_, ?_, hk', hver, ?_, iv.later.trans hl⟩
    · intro j' i' hj'
      by_cases hjj : j' = j
      · subst hjj
        rw [hj] at hj'
        cases hj'
        have : i < listed.size := by rw [iv.size]; exact hil
        simp [this]
      · have hii : i ≠ i' := fun e => by
          subst e
          exact hjj (nodup_get g.lay.nodup hj' hj)
        rw [Array.getElem?_setIfInBounds_ne hii, iv.link j' i' hj']
        simp [hjj]
    · intro i' x p hx hs' hp
      by_cases hij : i' = j
      · subst hij
        simp [hbS p hp]
      · simp only [hij, decide_false, Bool.false_or] at hs'
        simp [iv.closed i' x p hx hs' hp]
    · have h1 := iv.sim.put (dst := o.dst) hdok hv hs hl
      rw [st_put, ← hdst] at h1
      rw [← hdst]
      exact h1.env_eq (fun t => g.agree_put hr t)
  have hjl := (List.getElem?_eq_some_iff.1 hr).1
  have hl := g.t.loc j r hr
  have quietver : r.k ≠ .wr → ∀ (i : Nat) (x : Rec), rs[i]? = some x → x.k = .wr → ((decide (i = j) || S i) = true ↔ i < k) := by
    intro hnw i' x hx hxk
    by_cases hij : i' = j
    · subst hij; rw [hr] at hx; cases hx; exact absurd hxk hnw
    · simpa [hij] using iv.ver i' x hx hxk
  unfold wpOp
  simp only [ho]
  unfold LocOk at hl
  cases hk : r.k with
  | skip =>
    rw [hk] at hl
    obtain ⟨h1, h2, h3⟩ := hl
    have hw := wanted_rep iv.sim hgd (by rw [hguard]; exact h1)
    simp only [hw, Bool.false_eq_true, if_false]
    refine after k undef w ρ iv.le (quietver (by rw [hk]; simp)) ?_ iv.sim.hs (.refl _ _ _ _)
    rw [h2]
    exact .tup [] [] rfl (fun i q v h => by simp at h)
  | quiet =>
    rw [hk] at hl
    obtain ⟨h1, h2, h3⟩ := hl
    have hw := wanted_rep iv.sim hgd (by rw [hguard]; exact h1)
    simp only [hw, if_true]
    left
    have hev := g.version hr hk hSj hbS iv.closed iv.le iv.ver
    rw [eval_congr hops] at hev
    refine opWp_sound iv.sim ok htr (K := fun v2 h2 => v2 = r.v ∧ h2 = hpAt rs st.hp k) (evalR_of_eval hev) K Q ?_
    rintro v val w' h' ρ' ⟨rfl, rfl⟩ hv hs hl'
    exact after k val w' ρ' iv.le (quietver (by rw [hk]; simp)) hv hs hl'
  | wr =>
    rw [hk] at hl
    obtain ⟨h1, h2⟩ := hl
    have hw := wanted_rep iv.sim hgd (by rw [hguard]; exact h1)
    simp only [hw, if_true]
    left
    -- the writers that were: those ahead of it
    have hprev : ∀ (i : Nat) (x : Rec), rs[i]? = some x → x.k = .wr → i < j → S i = true := by
      intro i' x hx hxk hij
      have := g.t.pair i' j x r hij hx hr
      unfold pairR at this
      rw [hxk, hk] at this
      exact hbS i' this
    have hnext : ∀ (i : Nat) (x : Rec), rs[i]? = some x → x.k = .wr → j < i → S i = false := by
      intro i' x hx hxk hij
      have := g.t.pair j i' r x hij hr hx
      unfold pairR at this
      rw [hxk, hk] at this
      cases hs : S i' with
      | false => rfl
      | true => rw [iv.closed i' x j hx hs this] at hSj; cases hSj
    have hkj : k ≤ j := by
      rcases Nat.lt_or_ge j k with h | h
      · rw [(iv.ver j r hr hk).2 h] at hSj; cases hSj
      · exact h
    have heq : hpAt rs st.hp j = hpAt rs st.hp k := g.t.hp_same hkj (Nat.le_of_lt hjl) (fun p x h1 h2 hx hxk => by
      have := (iv.ver p x hx hxk).1 (hprev p x hx hxk h2)
      omega)
    rw [(g.t.env_at hr).2, heq, ← g.t.stepH j r hr] at h2
    rw [evalR_congr hops] at h2
    refine opWp_sound iv.sim ok htr (K := fun v2 h2 => v2 = r.v ∧ h2 = hpAt rs st.hp (j + 1)) h2 K Q ?_
    rintro v val w' h' ρ' ⟨rfl, rfl⟩ hv hs hl'
    refine after (j + 1) val w' ρ' (by omega) ?_ hv hs hl'
    intro i' x hx hxk
    by_cases hij : i' = j
    · subst hij; simp
    · simp only [hij, decide_false, Bool.false_or]
      constructor
      · intro hs'
        rcases Nat.lt_or_ge i' (j + 1) with h | h
        · exact h
        · rw [hnext i' x hx hxk (by omega)] at hs'; cases hs'
      · intro h
        exact hprev i' x hx hxk (by omega)
def unl : List Bool → Nat
  | [] => 0
  | b :: r => (if b then 0 else 1) + unl r
theorem unl_set : ∀ {l : List Bool} {i : Nat}, l[i]? = some false → unl (l.set i true) + 1 = unl l
  | [], i, h => by simp at h
  | b :: r, i, h => by
    cases i with
    | zero => simp only [List.getElem?_cons_zero, Option.some.injEq] at h; subst h; simp [unl]; omega
    | succ i =>
      have := unl_set (l := r) (i := i) (by simpa using h)
      simp only [List.set_cons_succ, unl]
      omega
theorem unl_zero : ∀ {l : List Bool}, unl l = 0 → ∀ b ∈ l, b = true
  | [], _, b, h => by cases h
  | c :: r, hl, b, h => by
    simp only [unl] at hl
    cases h with
    | head => cases c <;> first | rfl | (exfalso; simp at hl)
    | tail _ hm => exact unl_zero (by omega) b hm
theorem Inv.done (g : Rg P H N ops π bs al rs st0 st cl) {listed : Array Bool} (iv : Inv P H N ops π bs rs st0 st F w0 h0 ρ0 listed a w S k ρ) (hr : Region.ready .any ops listed = []) : ∀ i, i < rs.length → S i = true := by
  intro j
  induction j using Nat.strongRecOn with
  | ind j ih =>
    intro hj
    cases hs : S j with
    | true => rfl
    | false =>
      exfalso
      obtain ⟨i, o, hi, ho⟩ := g.idx (List.getElem?_eq_getElem hj)
      have : i ∈ Region.ready .any ops listed := by
        refine mem_ready.2 ⟨by simp [iv.link j i hi, hs], o, ho, ?_⟩
        intro e he hb
        obtain ⟨d, hd, hπ⟩ := g.lay.early j i o e hi (by simpa using ho) (by simpa using he) hb
        have hSd := ih d hd (by omega)
        simp [iv.link d e.on hπ, hSd]
      rw [hr] at this
      cases this
theorem Inv.last (g : Rg P H N ops π bs al rs st0 st cl) {listed : Array Bool} (iv : Inv P H N ops π bs rs st0 st F w0 h0 ρ0 listed a w S k ρ) (hall : ∀ i, i < rs.length → S i = true) :
    Sim N F H.glob st ρ a w ∧ Later F w0 h0 ρ0 w st.hp ρ := by
  have hend : hpAt rs st.hp rs.length = st.hp := by simp [hpAt]
  have hk : hpAt rs st.hp k = hpAt rs st.hp rs.length := by
    refine (g.t.hp_same iv.le (Nat.le_refl _) (fun p x h1 h2 hx hxk => ?_)).symm
    have := (iv.ver p x hx hxk).1 (hall p h2)
    omega
  have h1 := iv.sim
  have h2 := iv.later
  rw [hk, hend] at h1 h2
  exact ⟨h1.env_eq (e' := st.env) (fun t => (g.agree_end hall t).symm), h2⟩
theorem Inv.any (g : Rg P H N ops π bs al rs st0 st cl) (ok : CallOk P H.glob cl) {Q : Exit → Act → World → Prop} (hQ : ∀ a w ρ, Sim N F H.glob st ρ a w → Later F w0 h0 ρ0 w st.hp ρ → Q .normal a w) :
    ∀ (fuel : Nat) (listed : Array Bool) (a : Act) (w : World) (S : Nat → Bool) (k : Nat) (ρ : Rho), Inv P H N ops π bs rs st0 st F w0 h0 ρ0 listed a w S k ρ → unl listed.toList ≤ fuel → wpAny P .any ops Q fuel listed a w
  | 0, listed, a, w, S, k, ρ, iv, hu => by
    have hall := unl_zero (l := listed.toList) (by omega)
    have hr : Region.ready .any ops listed = [] := by
      refine List.eq_nil_iff_forall_not_mem.2 fun i hi => ?_
      obtain ⟨h1, o, ho, _⟩ := mem_ready.1 hi
      have hil : i < listed.size := by rw [iv.size]; exact (Array.getElem?_eq_some_iff.1 ho).1
      have h2 := hall listed[i] (by simp)
      simp [hil, h2] at h1
    have hl := iv.last g (iv.done g hr)
    exact ⟨hr, hQ a w ρ hl.1 hl.2⟩
  | fuel + 1, listed, a, w, S, k, ρ, iv, hu => by
    refine ⟨fun hr => ?_, fun i hi => ?_⟩
    · have hl := iv.last g (iv.done g hr)
      exact hQ a w ρ hl.1 hl.2
    · refine iv.step g ok hi (fun a' w' S' k' ρ' iv' => Inv.any g ok hQ fuel _ a' w' S' k' ρ' iv' ?_)
      obtain ⟨h1, o, ho, _⟩ := mem_ready.1 hi
      have hil : i < listed.size := by rw [iv.size]; exact (Array.getElem?_eq_some_iff.1 ho).1
      have h2 : listed.toList[i]? = some false := by
        simp [hil] at h1
        simp [hil, h1]
      have := unl_set h2
      rw [Array.toList_setIfInBounds]
      omega
theorem draw_sound (hm : P.follows .mixedOrders = true) (ok : CallOk P H.glob cl) {id : Nat} {π : List Nat} {al : List AOper} (hd : drawOk ops.toList π = true) (htr : trOps P H N ops.toList (permOps ops.toList π) = some al)
    (hap : apartOk (infoGo 0 al (befs ops.toList π)) = true) {K : St → Prop} (hw : dopsWp cl [] 0 (befs ops.toList π) al K st) (sm : Sim N F H.glob st ρ a w) (hl : Later F w0 h0 ρ0 w st.hp ρ) {Q : Exit → Act → World → Prop}
    (hQ : ∀ st a w ρ, K st → Sim N F H.glob st ρ a w → Later F w0 h0 ρ0 w st.hp ρ → Q .normal a w) : (Code.region id ops true).wp P Q a w := by
  obtain ⟨st', rs, t, hK⟩ := dops_tr (bsA := befs ops.toList π) al [] 0 _ st hw [] [] (Tr.nil cl st _) rfl rfl (fun i r h => by simp at h)
  rw [List.nil_append] at t
  have lay := lay_of hd
  have hbl : al.length ≤ (befs ops.toList π).length := by
    have h1 : (befs ops.toList π).length = π.length := by
      show (befGo [] 0 (pairsOf ops.toList π)).length = _
      rw [befGo_len, pairs_len lay.lt]
    rw [(trOps_get htr).1, perm_len lay.lt, h1]
    exact Nat.le_refl _
  have g : Rg P H N ops π (befs ops.toList π) al rs st st' cl := ⟨lay, htr, hbl, hap, t⟩
  refine wp_region_any hm (Inv.any g ok (fun a w ρ h1 h2 => hQ st' a w ρ hK h1 h2) _ _ a _ (fun _ => false) 0 ρ ?_ ?_)
  · have hk : Kept (fun _ => False) w { w with drawn := w.drawn + 1 } := kept_drew w
    have h0' : hpAt rs st'.hp 0 = st.hp := t.h0
    refine ⟨by simp, ?_, by simp, Nat.zero_le _, by simp, ?_, ?_⟩
    · intro j i hj
      have : i < ops.size := by simpa using lay.lt i (List.mem_of_getElem? hj)
      simp [this]
    · rw [h0']
      have h1 : Sim N F H.glob st ρ a { w with drawn := w.drawn + 1 } := ⟨sm.hs.block hk, sm.size, fun t => (sm.env t).mono (.block hk), sm.defers⟩
      refine h1.env_eq (e' := envL (fun _ => false) 0 rs st.env) (fun t => ?_)
      rcases sel_env (fun _ => false) st.env t rs 0 with ⟨_, _, _, _, h, _⟩ | ⟨_, h⟩
      · cases h
      · exact h
    · rw [h0']
      exact hl.trans (.block hk)
  · rw [Array.toList_replicate]
    have : ∀ n, unl (List.replicate n false) = n := by
      intro n
      induction n with
      | zero => rfl
      | succ n ih => rw [List.replicate_succ]; simp [unl, ih]; omega
    rw [this]
    exact Nat.le_refl _
end
section
variable {P : Program} {H : Hint} {N : Nat} {cl : Call} {F : Nat → Prop} {w0 : World} {h0 : Hp} {ρ0 : Rho} {st : St} {a : Act} {w : World} {ρ : Rho} {gl : Nat → Option (List D)}
theorem ops_sound (ok : CallOk P H.glob cl) {all : List Oper} {K : St → Prop} {Q : Exit → Act → World → Prop} (hQ : ∀ st a w ρ, K st → Sim N F H.glob st ρ a w → Later F w0 h0 ρ0 w st.hp ρ → Q .normal a w) :
    ∀ (l : List Oper) (al : List AOper), trOps P H N all l = some al → ∀ (st : St) (a : Act) (w : World) (ρ : Rho), opsWp cl al K st → Sim N F H.glob st ρ a w → Later F w0 h0 ρ0 w st.hp ρ → wpList P all.toArray Q l a w
  | [], al, ht, st, a, w, ρ, hk, sm, hl => by cases ht; exact hQ st a w ρ hk sm hl
  | o :: r, al, ht, st, a, w, ρ, hk, sm, hl => by
    unfold trOps at ht
    by_cases hd : dstOk N o.dst = true
    · rw [if_pos hd] at ht
      cases h1 : trOp P H o with
      | none => rw [h1] at ht; cases ht
      | some p =>
        cases h2 : guardOf all o.guard with
        | none => rw [h1, h2] at ht; cases ht
        | some g =>
          cases h3 : trOps P H N all r with
          | none => rw [h1, h2, h3] at ht; cases ht
          | some l' =>
            rw [h1, h2, h3] at ht
            cases ht
            have ih := ops_sound ok hQ r l' h3
            unfold opsWp at hk
            obtain ⟨b, hb, hk⟩ := wanted_guard hk
            have hw := wanted_rep (ops := all.toArray) sm (by simpa using h2) hb
            unfold wpList
            cases b with
            | false =>
              simp only [Bool.false_eq_true, if_false] at hk
              simp only [hw, Bool.false_eq_true, if_false]
              refine ih _ _ _ ρ hk (sm.put hd (.tup [] [] rfl (fun i q v h => by simp at h)) sm.hs (.refl _ _ _ _)) ?_
              rw [st_put]
              exact hl
            | true =>
              simp only [if_true] at hk
              simp only [hw, if_true]
              left
              refine opWp_sound sm ok h1 (K := fun v h => opsWp cl l' K (st.put o.dst v h)) hk _ _ ?_
              intro v val w' h' ρ' hk' hv hs hl'
              refine ih _ _ _ ρ' hk' (sm.put hd hv hs hl') ?_
              rw [st_put]
              exact hl.trans hl'
    · rw [if_neg hd] at ht; cases ht
def Post (N : Nat) (F : Nat → Prop) (gl : Nat → Option (List D)) (w0 : World) (h0 : Hp) (ρ0 : Rho) (Q : Exit → St → Prop) : Exit → Act → World → Prop := fun e a w =>
  match e with
  | .normal | .exit _ | .goto _ | .ret => ∃ st ρ, Q e st ∧ Sim N F gl st ρ a w ∧ Later F w0 h0 ρ0 w st.hp ρ
  | _ => False
theorem Sim.weak {st' : St} (sm : Sim N F gl st ρ a w) (hle : Le st st') : Sim N F gl st' ρ a w ∧ Later F w st.hp ρ w st'.hp ρ := by
  obtain ⟨h1, h2, h3⟩ := hle
  have hl : Later F w st.hp ρ w st'.hp ρ := .shed h2 h3
  refine ⟨⟨sm.hs.shed h2 h3, sm.size, fun t => ?_, sm.defers⟩, hl⟩
  rcases h1 t with h | h
  · rw [h]; exact (sm.env t).mono hl
  · rw [h]; exact .c _ _ (.any _)
theorem wp_loop_n {c : Code} {Q : Exit → Act → World → Prop} (I : Nat → Act → World → Prop) (h0 : ∃ n, I n a w) (round : ∀ n a w, I n a w → c.wp P (Exit.then (fun a' w' => ∃ m, m < n ∧ I m a' w') Q) a w) : (Code.loop c).wp P Q a w := by
  classical
  have least : ∀ a w, (∃ n, I n a w) → ∃ n, I n a w ∧ ∀ m, I m a w → n ≤ m := by
    intro a w ⟨n, hn⟩
    induction n using Nat.strongRecOn with
    | ind n ih =>
      by_cases hlt : ∃ m, m < n ∧ I m a w
      · obtain ⟨m, hm, hI⟩ := hlt; exact ih m hm hI
      · exact ⟨n, hn, fun m hm => Nat.le_of_not_lt fun h => hlt ⟨m, h, hm⟩⟩
  let μ : Act → World → Nat := fun a w => if h : ∃ n, I n a w then Classical.choose (least a w h) else 0
  have hμ : ∀ a w, (∃ n, I n a w) → I (μ a w) a w ∧ ∀ m, I m a w → μ a w ≤ m := by
    intro a w h
    have := Classical.choose_spec (least a w h)
    simp only [μ, h, dif_pos]
    exact this
  refine wp_loop (fun a w => ∃ n, I n a w) μ h0 ?_
  intro a w h
  refine wp_mono (round _ a w (hμ a w h).1) ?_
  intro e a' w' q
  cases e with
  | normal =>
    obtain ⟨m, hm, hI⟩ := q
    exact ⟨⟨m, hI⟩, Nat.lt_of_le_of_lt ((hμ a' w' ⟨m, hI⟩).2 m hI) hm⟩
  | _ => exact q
theorem wp_scope_n {c rest : Code} {l : Nat} {Q : Exit → Act → World → Prop} (I : Nat → Act → World → Prop) (hf : findLabel c l = some rest) (first : c.wp P (Exit.jump l (fun a w => ∃ n, I n a w) Q) a w)
    (pass : ∀ n a w, I n a w → rest.wp P (Exit.jump l (fun a' w' => ∃ m, m < n ∧ I m a' w') Q) a w) : (Code.scope c).wp P Q a w := by
  classical
  have least : ∀ a w, (∃ n, I n a w) → ∃ n, I n a w ∧ ∀ m, I m a w → n ≤ m := by
    intro a w ⟨n, hn⟩
    induction n using Nat.strongRecOn with
    | ind n ih =>
      by_cases hlt : ∃ m, m < n ∧ I m a w
      · obtain ⟨m, hm, hI⟩ := hlt; exact ih m hm hI
      · exact ⟨n, hn, fun m hm => Nat.le_of_not_lt fun h => hlt ⟨m, h, hm⟩⟩
  let μ : Act → World → Nat := fun a w => if h : ∃ n, I n a w then Classical.choose (least a w h) else 0
  have hμ : ∀ a w, (∃ n, I n a w) → I (μ a w) a w ∧ ∀ m, I m a w → μ a w ≤ m := by
    intro a w h
    have := Classical.choose_spec (least a w h)
    simp only [μ, h, dif_pos]
    exact this
  refine wp_scope_jumps l (fun a w => ∃ n, I n a w) μ hf first ?_
  intro a w h
  refine wp_mono (pass _ a w (hμ a w h).1) ?_
  intro e a' w' q
  cases e with
  | goto l' =>
    obtain ⟨hl, m, hm, hI⟩ := q
    exact ⟨hl, ⟨m, hI⟩, Nat.lt_of_le_of_lt ((hμ a' w' ⟨m, hI⟩).2 m hI) hm⟩
  | _ => exact q
mutual
theorem awp_sound (hm : P.follows .mixedOrders = true) (ok : CallOk P H.glob cl) : ∀ (c : Code) (ac : ACode), trC P H N c = some ac → ∀ (Q : Exit → St → Prop) (st : St) (a : Act) (w : World) (ρ : Rho),
    awp cl ac Q st → Sim N F H.glob st ρ a w → Later F w0 h0 ρ0 w st.hp ρ → c.wp P (Post N F H.glob w0 h0 ρ0 Q) a w
  | .skip, ac, ht, Q, st, a, w, ρ, hk, sm, hl => by cases ht; exact wp_skip ⟨st, ρ, hk, sm, hl⟩
  | .region id ops false, ac, ht, Q, st, a, w, ρ, hk, sm, hl => by
    simp only [trC] at ht
    cases h1 : trOps P H N ops.toList ops.toList with
    | none => rw [h1] at ht; cases ht
    | some l =>
      rw [h1] at ht
      cases ht
      refine wp_region_list ?_
      have := ops_sound (w0 := w0) (h0 := h0) (ρ0 := ρ0) ok (all := ops.toList) (K := Q .normal) (Q := Post N F H.glob w0 h0 ρ0 Q) (fun st a w ρ h1 h2 h3 => ⟨st, ρ, h1, h2, h3⟩) ops.toList l h1 st a w ρ hk sm hl
      simpa using this
  | .region id ops true, ac, ht, Q, st, a, w, ρ, hk, sm, hl => by
    simp only [trC] at ht
    by_cases hd : drawOk ops.toList (perm ops.toList) = true
    · rw [if_pos hd] at ht
      cases h1 : trOps P H N ops.toList (permOps ops.toList (perm ops.toList)) with
      | none => rw [h1] at ht; cases ht
      | some l =>
        rw [h1] at ht
        simp only at ht
        by_cases hap : apartOk (infoGo 0 l (befs ops.toList (perm ops.toList))) = true
        · rw [if_pos hap] at ht
          cases ht
          exact draw_sound hm ok hd h1 hap hk sm hl (fun st a w ρ h1 h2 h3 => ⟨st, ρ, h1, h2, h3⟩)
        · rw [if_neg hap] at ht; cases ht
    · rw [if_neg hd] at ht; cases ht
  | .seq x y, ac, ht, Q, st, a, w, ρ, hk, sm, hl => by
    simp only [trC] at ht
    cases h1 : trC P H N x with
    | none => rw [h1] at ht; cases ht
    | some ax =>
      cases h2 : trC P H N y with
      | none => rw [h1, h2] at ht; cases ht
      | some ay =>
        rw [h1, h2] at ht
        cases ht
        refine wp_seq (wp_mono (awp_sound hm ok x ax h1 _ st a w ρ hk sm hl) ?_)
        intro e a' w' q
        cases e with
        | normal =>
          obtain ⟨st', ρ', ⟨st2, hle, q1⟩, q2, q3⟩ := q
          obtain ⟨k1, k2⟩ := q2.weak hle
          exact awp_sound hm ok y ay h2 Q st2 a' w' ρ' q1 k1 (q3.trans k2)
        | exit id => exact q
        | ret => exact q
        | goto l => exact q
        | panic ch => exact q
        | outgrown => exact q
  | .cond c x y, ac, ht, Q, st, a, w, ρ, hk, sm, hl => by
    simp only [trC] at ht
    cases h0 : trX H c with
    | none => rw [h0] at ht; cases ht
    | some oc =>
      cases h1 : trC P H N x with
      | none => rw [h0, h1] at ht; cases ht
      | some ax =>
        cases h2 : trC P H N y with
        | none => rw [h0, h1, h2] at ht; cases ht
        | some ay =>
          rw [h0, h1, h2] at ht
          cases ht
          simp only [awp] at hk
          have hc := ev_rep sm h0
          unfold condWp at hk
          split at hk
          · rename_i b hb
            rw [hb] at hc
            exact wp_cond_split (ev_bool hc) (fun hbt => awp_sound hm ok x ax h1 Q st a w ρ (hk.1 hbt) sm hl) (fun hbf => awp_sound hm ok y ay h2 Q st a w ρ (hk.2 hbf) sm hl)
          · exact hk.elim
  | .block id b, ac, ht, Q, st, a, w, ρ, hk, sm, hl => by
    simp only [trC] at ht
    cases h1 : trC P H N b with
    | none => rw [h1] at ht; cases ht
    | some ab =>
      rw [h1] at ht
      cases ht
      refine wp_block (wp_mono (awp_sound hm ok b ab h1 _ st a w ρ hk sm hl) ?_)
      intro e a' w' q
      cases e with
      | exit id' =>
        obtain ⟨st', ρ', q1, q2, q3⟩ := q
        simp only [blkK] at q1
        simp only [Exit.inBlock]
        by_cases hid : id' = id
        · rw [if_pos hid] at q1 ⊢; exact ⟨st', ρ', q1, q2, q3⟩
        · rw [if_neg hid] at q1 ⊢; exact ⟨st', ρ', q1, q2, q3⟩
      | normal => exact q
      | ret => exact q
      | goto l => exact q
      | panic ch => exact q
      | outgrown => exact q
  | .loop b, ac, ht, Q, st, a, w, ρ, hk, sm, hl => by
    simp only [trC] at ht
    cases h1 : trC P H N b with
    | none => rw [h1] at ht; cases ht
    | some ab =>
      rw [h1] at ht
      cases ht
      simp only [awp] at hk
      obtain ⟨n, hk⟩ := hk
      refine wp_loop_n (fun n a w => ∃ st ρ, loopP (awp cl ab) Q n st ∧ Sim N F H.glob st ρ a w ∧ Later F w0 h0 ρ0 w st.hp ρ) ⟨n, st, ρ, hk, sm, hl⟩ ?_
      rintro n a w ⟨st, ρ, hk, sm, hl⟩
      cases n with
      | zero => exact hk.elim
      | succ n =>
        obtain ⟨st2, hle, hk⟩ := hk
        obtain ⟨k1, k2⟩ := sm.weak hle
        refine wp_mono (awp_sound hm ok b ab h1 _ st2 a w ρ hk k1 (hl.trans k2)) ?_
        intro e a' w' q
        cases e with
        | normal => obtain ⟨st', ρ', q1, q2, q3⟩ := q; exact ⟨n, Nat.lt_succ_self n, st', ρ', q1, q2, q3⟩
        | exit id => exact q
        | ret => exact q
        | goto l => exact q
        | panic ch => exact q
        | outgrown => exact q
  | .exit id, ac, ht, Q, st, a, w, ρ, hk, sm, hl => by cases ht; exact wp_exit ⟨st, ρ, hk, sm, hl⟩
  | .ret, ac, ht, Q, st, a, w, ρ, hk, sm, hl => by cases ht; exact wp_ret ⟨st, ρ, hk, sm, hl⟩
  | .label l, ac, ht, Q, st, a, w, ρ, hk, sm, hl => by cases ht; exact wp_label ⟨st, ρ, hk, sm, hl⟩
  | .goto l, ac, ht, Q, st, a, w, ρ, hk, sm, hl => by cases ht; exact wp_goto ⟨st, ρ, hk, sm, hl⟩
  | .scope c, ac, ht, Q, st, a, w, ρ, hk, sm, hl => by
    simp only [trC] at ht
    split at ht
    · rename_i l hlab
      cases h1 : trC P H N c with
      | none => rw [h1] at ht; cases ht
      | some x =>
        cases h2 : trRest P H N l c with
        | none => rw [h1, h2] at ht; cases ht
        | some y =>
          rw [h1, h2] at ht
          cases ht
          simp only [awp] at hk
          obtain ⟨rest, hf, hr⟩ := rest_sound hm ok l c y h2
          refine wp_scope_n (fun n a w => ∃ st ρ, jumpP l (awp cl y) Q n st ∧ Sim N F H.glob st ρ a w ∧ Later F w0 h0 ρ0 w st.hp ρ) hf ?_ ?_
          · refine wp_mono (awp_sound hm ok c x h1 _ st a w ρ hk sm hl) ?_
            intro e a' w' q
            cases e with
            | goto i =>
              obtain ⟨st', ρ', ⟨rfl, n, q1⟩, q2, q3⟩ := q
              exact ⟨rfl, n, st', ρ', q1, q2, q3⟩
            | normal => exact q
            | exit id => exact q
            | ret => exact q
            | panic ch => exact q
            | outgrown => exact q
          · rintro n a w ⟨st, ρ, hk, sm, hl⟩
            cases n with
            | zero => exact hk.elim
            | succ n =>
              obtain ⟨st2, hle, hk⟩ := hk
              obtain ⟨k1, k2⟩ := sm.weak hle
              refine wp_mono (hr _ st2 a w ρ hk k1 (hl.trans k2)) ?_
              intro e a' w' q
              cases e with
              | goto i =>
                obtain ⟨st', ρ', ⟨rfl, q1⟩, q2, q3⟩ := q
                exact ⟨rfl, n, Nat.lt_succ_self n, st', ρ', q1, q2, q3⟩
              | normal => exact q
              | exit id => exact q
              | ret => exact q
              | panic ch => exact q
              | outgrown => exact q
    · cases ht

theorem rest_sound (hm : P.follows .mixedOrders = true) (ok : CallOk P H.glob cl) (l : Nat) : ∀ (c : Code) (ac : ACode), trRest P H N l c = some ac → ∃ rest, findLabel c l = some rest ∧
    ∀ (Q : Exit → St → Prop) (st : St) (a : Act) (w : World) (ρ : Rho), awp cl ac Q st → Sim N F H.glob st ρ a w → Later F w0 h0 ρ0 w st.hp ρ → rest.wp P (Post N F H.glob w0 h0 ρ0 Q) a w
  | .label l', ac, ht => by
    simp only [trRest] at ht
    by_cases hl : (l' == l) = true
    · rw [if_pos hl] at ht
      cases ht
      exact ⟨.skip, by simp [findLabel, hl], fun Q st a w ρ hk sm hl => wp_skip ⟨st, ρ, hk, sm, hl⟩⟩
    · rw [if_neg hl] at ht; cases ht
  | .seq x y, ac, ht => by
    simp only [trRest] at ht
    cases h1 : trRest P H N l x with
    | some ax =>
      rw [h1] at ht
      simp only at ht
      cases h2 : trC P H N y with
      | none => rw [h2] at ht; cases ht
      | some ay =>
        rw [h2] at ht
        cases ht
        obtain ⟨rest, hf, hr⟩ := rest_sound hm ok l x ax h1
        refine ⟨.seq rest y, by simp [findLabel, hf], ?_⟩
        intro Q st a w ρ hk sm hl
        refine wp_seq (wp_mono (hr _ st a w ρ hk sm hl) ?_)
        intro e a' w' q
        cases e with
        | normal =>
          obtain ⟨st', ρ', ⟨st2, hle, q1⟩, q2, q3⟩ := q
          obtain ⟨k1, k2⟩ := q2.weak hle
          exact awp_sound hm ok y ay h2 Q st2 a' w' ρ' q1 k1 (q3.trans k2)
        | exit id => exact q
        | ret => exact q
        | goto l => exact q
        | panic ch => exact q
        | outgrown => exact q
    | none =>
      rw [h1] at ht
      simp only at ht
      by_cases hn : (findLabel x l).isNone = true
      · rw [if_pos hn] at ht
        obtain ⟨rest, hf, hr⟩ := rest_sound hm ok l y ac ht
        exact ⟨rest, by simp [findLabel, Option.isNone_iff_eq_none.1 hn, hf], hr⟩
      · rw [if_neg hn] at ht; cases ht
end
end
inductive ARes where
  | t (n : Nat)
  | cell (a n : Nat) (agg : Bool)
  deriving Inhabited
def trRes (P : Program) : ResultVar → Option ARes
  | .tmp t => some (.t t)
  | .cell a t => match szOf P t, aggOf P t with | some n, some g => some (.cell a n g) | _, _ => none
def trRess (P : Program) : List ResultVar → Option (List ARes)
  | [] => some []
  | r :: l => match trRes P r, trRess P l with | some x, some xs => some (x :: xs) | _, _ => none
def noCall : Call := ⟨fun _ => none, fun _ => none⟩
def resOne (st : St) : ARes → Option V
  | .t n => some (getV st.env n)
  | .cell a n g => match eval noCall st.env st.hp (.load (.t a) n g) with | some (v, _) => some v | none => none
def resAll (st : St) : List ARes → Option (List V)
  | [] => some []
  | r :: l => match resOne st r, resAll st l with | some x, some xs => some (x :: xs) | _, _ => none
def resV (st : St) (rs : List ARes) : Option V :=
  match resAll st rs with
  | some [v] => some v
  | some vs => some (.tup vs)
  | none => none
def argE : Nat → List V → Env
  | _, [] => []
  | k, v :: r => (k, v) :: argE (k + 1) r
def V.toDVt (h : Hp) : V → Option DV
  | .tup vs => match toDVs h vs with | some l => some (.tup l) | none => none
  | v => v.toDV h
def dvV : DV → V
  | .c d => .c (.d d)
  | .agg ds => .agg (ds.map .d)
  | .tup _ => .c .any
def dvArgs (ds : List DV) : List V := ds.map dvV
def PureQ (rs : List ARes) (r : DV) : Exit → St → Prop := fun e st =>
  match e with
  | .normal | .ret => ∃ v, resV st rs = some v ∧ v.toDVt st.hp = some r
  | _ => False
def HeapQ (rs : List ARes) (K : V → Hp → Prop) : Exit → St → Prop := fun e st =>
  match e with
  | .normal | .ret => ∃ v, resV st rs = some v ∧ K v st.hp
  | _ => False
section
variable {P : Program} {H : Hint} {N : Nat} {cl : Call} {F : Nat → Prop} {w0 : World} {h0 : Hp} {ρ0 : Rho} {st : St} {a : Act} {w : World} {ρ : Rho} {gl : Nat → Option (List D)}
def resM (tmps : Array Value) : ResultVar → Sem Value
  | .tmp t => pure (tmps.getD t undef)
  | .cell ad t => do loadVar t (← asAddr (tmps.getD ad undef))
theorem results_eq (fn : Func) (tmps : Array Value) : results fn tmps = (do let vs ← fn.results.mapM (resM tmps); pure (if h : vs.size = 1 then vs[0] else .tuple vs)) := by
  unfold results
  congr 1
theorem resOne_run (sm : Sim N F gl st ρ a w) {r : ResultVar} {x : ARes} (hx : trRes P r = some x) {v : V} (hv : resOne st x = some v) :
    ∃ val, (resM a.tmps r).run P w = .ok val w ∧ RepV (cx F w st.hp ρ) v val := by
  cases r with
  | tmp t => cases hx; cases hv; exact ⟨_, rfl, sm.env t⟩
  | cell ad t =>
    simp only [trRes] at hx
    split at hx
    · rename_i n g hz ha
      cases hx
      simp only [resOne] at hv
      cases he : eval noCall st.env st.hp (.load (.t ad) n g) with
      | none => rw [he] at hv; cases hv
      | some vh =>
        obtain ⟨v', h'⟩ := vh
        rw [he] at hv
        cases hv
        obtain ⟨_, a0, val, h1, h2, h3⟩ := load_run (P := P) sm.hs ha hz (y := .t ad) (sm.env ad) he
        refine ⟨val, ?_, h3⟩
        simp [resM, h1, asAddr, h2]
    · cases hx
theorem resAll_run (sm : Sim N F gl st ρ a w) : ∀ {rs : List ResultVar} {xs : List ARes} {vs : List V}, trRess P rs = some xs → resAll st xs = some vs →
    ∃ vals : List Value, (rs.mapM (resM a.tmps)).run P w = .ok vals w ∧ VsRep (cx F w st.hp ρ) vs vals
  | [], xs, vs, hx, hv => by cases hx; cases hv; exact ⟨[], by simp, rfl, by simp⟩
  | r :: rs, xs, vs, hx, hv => by
    unfold trRess at hx
    cases h1 : trRes P r with
    | none => rw [h1] at hx; cases hx
    | some x =>
      cases h2 : trRess P rs with
      | none => rw [h1, h2] at hx; cases hx
      | some xs' =>
        rw [h1, h2] at hx
        cases hx
        unfold resAll at hv
        cases h3 : resOne st x with
        | none => rw [h3] at hv; cases hv
        | some v =>
          cases h4 : resAll st xs' with
          | none => rw [h3, h4] at hv; cases hv
          | some vs' =>
            rw [h3, h4] at hv
            cases hv
            obtain ⟨val, k1, k2⟩ := resOne_run sm h1 h3
            obtain ⟨vals, k3, k4, k5⟩ := resAll_run sm h2 h4
            refine ⟨val :: vals, ?_, by simp [k4], ?_⟩
            · rw [List.mapM_cons]
              simp [k1, k3]
            · intro i q u hq hu
              cases i with
              | zero => simp at hq hu; subst hq; subst hu; exact k2
              | succ i => exact k5 i q u (by simpa using hq) (by simpa using hu)
theorem resV_run (sm : Sim N F gl st ρ a w) {fn : Func} {xs : List ARes} (hx : trRess P fn.results.toList = some xs) {v : V} (hv : resV st xs = some v) :
    ∃ val, (results fn a.tmps).run P w = .ok val w ∧ RepV (cx F w st.hp ρ) v val := by
  unfold resV at hv
  cases h1 : resAll st xs with
  | none => rw [h1] at hv; cases hv
  | some vs =>
    obtain ⟨vals, k1, k2, k3⟩ := resAll_run sm hx h1
    have hrun : (results fn a.tmps).run P w = .ok (if h : vals.toArray.size = 1 then vals.toArray[0] else .tuple vals.toArray) w := by
      rw [results_eq, Array.mapM_eq_mapM_toList]
      simp only [Sem.run_bind, Sem.run_map]
      rw [k1]
      rfl
    rw [h1] at hv
    refine ⟨_, hrun, ?_⟩
    clear hrun h1 k1
    revert hv k3
    match vs, vals, k2 with
    | [], [], _ => intro hv k3; obtain rfl : V.tup [] = v := Option.some.inj hv; exact .tup [] [] rfl k3
    | [q], [u], _ => intro hv k3; obtain rfl : q = v := Option.some.inj hv; simpa using k3 0 q u rfl rfl
    | q :: q' :: r, u :: u' :: s, hl =>
      intro hv k3
      obtain rfl : V.tup (q :: q' :: r) = v := Option.some.inj hv
      simp only [List.size_toArray, List.length_cons]
      rw [dif_neg (by omega)]
      exact .tup _ _ hl k3
theorem argE_get : ∀ {vs : List V} {k t : Nat}, getV (argE k vs) t = if k ≤ t then (match vs[t - k]? with | some v => v | none => .c .any) else .c .any
  | [], k, t => by simp [argE, getV]
  | v :: r, k, t => by
    simp only [argE, getV, argE_get (vs := r)]
    by_cases h : k = t
    · subst h; simp
    · rw [if_neg h]
      by_cases hk : k ≤ t
      · have h1 : k + 1 ≤ t := by omega
        rw [if_pos h1, if_pos hk]
        have : t - k = (t - (k + 1)) + 1 := by omega
        rw [this, List.getElem?_cons_succ]
      · rw [if_neg hk, if_neg (by omega)]
theorem sim_entry (hs : HSim F gl w h0 ρ) {xs : List V} {vs : List Value} (hx : VsRep (cx F w h0 ρ) xs vs) (n : Nat) :
    Sim n F gl ⟨argE 0 xs, h0⟩ ρ { tmps := vs.toArray ++ Array.replicate (n - vs.toArray.size) undef, defers := [] } w := by
  refine ⟨hs, by simp; omega, fun t => ?_, rfl⟩
  rw [argE_get]
  simp only [Nat.zero_le, if_true, Nat.sub_zero]
  cases ht : xs[t]? with
  | none => exact .c _ _ (.any _)
  | some q =>
    have hlt : t < vs.length := by rw [hx.1]; exact (List.getElem?_eq_some_iff.1 ht).1
    have : ((vs.toArray ++ Array.replicate (n - vs.toArray.size) undef).getD t undef) = vs[t] := by
      rw [Array.getD_eq_getD_getElem?, Array.getElem?_append_left (by simpa using hlt)]
      simp [hlt]
    rw [this]
    exact hx.2 t q _ ht (List.getElem?_eq_getElem hlt)
structure FnOk (P : Program) (H : Hint) (f : FuncId) (ntmps : Nat) (ac : ACode) (rs : List ARes) : Prop where
  mixed : P.follows .mixedOrders = true
  fn : ∃ fn c, P.funcs[f]? = some fn ∧ (fn.name == "runtime.NumGoroutine") = false ∧ fn.body = some c ∧ fn.ntmps = ntmps ∧ trC P H ntmps c = some ac ∧ trRess P fn.results.toList = some rs
theorem FnOk.enters {f : FuncId} {n : Nat} {ac : ACode} {rs : List ARes} (ok : FnOk P H f n ac rs) : Enters P f := by
  obtain ⟨fn, c, h1, h2, h3, _⟩ := ok.fn
  exact enters_of h1 h2 h3
theorem dvV_rep {X : Cx} {d : DV} {v : Value} (hd : RepDV X.w X.A d v) : RepV X (dvV d) v := by
  cases hd with
  | c d v h => exact .c _ _ (.d _ _ h)
  | agg ds vs hl hc =>
    refine .agg _ _ (by simp [hl]) ?_
    intro i q v hq hv
    rw [List.getElem?_map] at hq
    cases hi : ds[i]? with
    | none => rw [hi] at hq; cases hq
    | some d => rw [hi] at hq; cases hq; exact .d _ _ (hc i d v hi hv)
  | tup xs vs => exact .c _ _ (.any _)
theorem dvArgs_rep {X : Cx} {ds : List DV} {vs : List Value} (hd : DsRep X.w X.A ds vs) : VsRep X (dvArgs ds) vs := by
  refine ⟨by simp [dvArgs, hd.1], ?_⟩
  intro i q v hq hv
  simp only [dvArgs, List.getElem?_map] at hq
  cases hi : ds[i]? with
  | none => rw [hi] at hq; cases hq
  | some d => rw [hi] at hq; cases hq; exact dvV_rep (hd.2 i d v hi hv)
theorem toDVt_rep (hs : HSim F gl w h0 ρ) {q : V} {d : DV} {val : Value} (hq : RepV (cx F w h0 ρ) q val) (hd : q.toDVt h0 = some d) : RepDV w F d val := by
  have hlive : ∀ x o, look h0.obs x = some o → ∀ b, blkOf (ρ x) = some b → ¬ F b := fun x o hx b hb hF => hs.apart b hF ⟨x, o, hx, hb⟩
  cases q with
  | tup vs =>
    simp only [V.toDVt] at hd
    cases h1 : toDVs h0 vs with
    | none => rw [h1] at hd; cases hd
    | some l =>
      rw [h1] at hd
      cases hd
      cases hq with
      | tup _ us hl hc =>
        obtain ⟨e1, e2⟩ := toDVs_rep hs (A' := F) (fun b h => .inl h) (xs := vs) (us := us) ⟨hl, hc⟩ h1 (fun v hv x hg b hb => by
          obtain ⟨o, ho⟩ := toDVs_live h1 hv hg
          exact hlive x o ho b hb)
        exact .tup _ _ e1 e2
  | c q' =>
    have h1 : toDVs h0 [.c q'] = some [d] := by unfold toDVs; rw [show V.toDV h0 (.c q') = some d from hd]; rfl
    exact toDV_rep hs hq hd (fun b h => .inl h) (fun x hg b hb => by
      obtain ⟨o, ho⟩ := toDVs_live h1 (List.mem_cons_self ..) hg
      exact hlive x o ho b hb)
  | agg cs =>
    have h1 : toDVs h0 [.agg cs] = some [d] := by unfold toDVs; rw [show V.toDV h0 (.agg cs) = some d from hd]; rfl
    exact toDV_rep hs hq hd (fun b h => .inl h) (fun x hg b hb => by
      obtain ⟨o, ho⟩ := toDVs_live h1 (List.mem_cons_self ..) hg
      exact hlive x o ho b hb)
theorem pure_fn {f : FuncId} {n : Nat} {ac : ACode} {rs : List ARes} (fok : FnOk P H f n ac rs) (ok : CallOk P H.glob cl) {G : List DV → Option DV}
    (hG : ∀ ds r, G ds = some r → awp cl ac (PureQ rs r) ⟨argE 0 (dvArgs ds), ⟨0, []⟩⟩) : PureFn P H.glob f G := by
  refine ⟨fok.enters, ?_⟩
  intro w A ds vs r hgl hA hds hr
  obtain ⟨fn, c, h1, h2, h3, h4, h5, h6⟩ := fok.fn
  have hs : HSim A H.glob w ⟨0, []⟩ (fun _ => undef) := by
    refine ⟨fun x o h => (by cases h), fun x o h => (by cases h), fun x y o p b h => (by cases h), fun b _ ⟨x, o, h, _⟩ => (by cases h), hA, ?_⟩
    intro g ds hg
    have := hgl g ds hg
    cases this with
    | lptr e off b o vs hnA hcell hrep =>
      have hA' : ∀ b, (A b ∨ Own (fun _ => undef) [] b) → A b := fun b h => h.elim id (fun ⟨x, o, h, _⟩ => by cases h)
      exact .lptr _ _ _ _ vs (fun h0 hb => hnA h0 (hA' _ hb)) hcell (fun i d hd => (hrep i d hd).mono (Kept.refl (fun _ => False) w) (fun b h => h.elim) (fun b _ h => hA' b h))
  have hargs : VsRep (cx A w ⟨0, []⟩ (fun _ => undef)) (dvArgs ds) vs := by
    refine dvArgs_rep (X := cx A w ⟨0, []⟩ (fun _ => undef)) ⟨hds.1, fun i d v hd hv => ?_⟩
    have hA' : ∀ b, (A b ∨ Own (fun _ => undef) [] b) → A b := fun b h => h.elim id (fun ⟨x, o, h, _⟩ => by cases h)
    have := hds.2 i d v hd hv
    have hm : ∀ d v, RepD w A d v → RepD w (fun b => A b ∨ Own (fun _ => undef) [] b) d v := fun d v h => h.mono (Kept.refl (fun _ => False) w) (fun b h => h.elim) (fun b _ h => hA' b h)
    have hm2 : ∀ {d v}, RepDV w A d v → RepDV w (fun b => A b ∨ Own (fun _ => undef) [] b) d v := by
      intro d v h
      induction h with
      | c d v h => exact .c _ _ (hm _ _ h)
      | agg ds vs hl hc => exact .agg _ _ hl (fun i d v h1 h2 => hm _ _ (hc i d v h1 h2))
      | tup xs vs hl hc ih => exact .tup _ _ hl ih
    exact hm2 this
  have hsim := sim_entry hs hargs n
  refine calls_of_wp h1 h3 ?_
  rw [h4]
  refine wp_mono (awp_sound (w0 := w) (h0 := ⟨0, []⟩) (ρ0 := fun _ => undef) fok.mixed ok c ac h5 (PureQ rs r) _ _ w _ (hG ds r hr) hsim (.refl _ _ _ _)) ?_
  intro e a' w' q
  have key : ∀ st ρ, (∃ v, resV st rs = some v ∧ v.toDVt st.hp = some r) → Sim n A H.glob st ρ a' w' → Later A w ⟨0, []⟩ (fun _ => undef) w' st.hp ρ →
      a'.defers = [] ∧ ∃ v, (results fn a'.tmps).run P w' = .ok v w' ∧ back (fun v w' => Kept (fun _ => False) w w' ∧ RepDV w' A r v) (.returned v) w' := by
    rintro st ρ ⟨v, hv, hd⟩ sm hl
    obtain ⟨val, k1, k2⟩ := resV_run sm h6 hv
    exact ⟨sm.defers, val, k1, hl.kept.mono (fun b ⟨x, o, h, _⟩ => by cases h), toDVt_rep sm.hs k2 hd⟩
  cases e with
  | normal => obtain ⟨st, ρ, q1, q2, q3⟩ := q; exact key st ρ q1 q2 q3
  | ret => obtain ⟨st, ρ, q1, q2, q3⟩ := q; exact key st ρ q1 q2 q3
  | exit id => obtain ⟨st, ρ, q1, q2, q3⟩ := q; exact q1.elim
  | goto l => obtain ⟨st, ρ, q1, q2, q3⟩ := q; exact q1.elim
  | panic ch => exact q.elim
  | outgrown => exact q.elim
theorem pure_ok {f : FuncId} {n : Nat} {ac : ACode} {rs : List ARes} (fok : FnOk P H f n ac rs) (ok : CallOk P H.glob cl) {G : List DV → Option DV}
    (hG : ∀ ds r, G ds = some r → awp cl ac (PureQ rs r) ⟨argE 0 (dvArgs ds), ⟨0, []⟩⟩) : PureOk P H.glob f G := .inl (pure_fn fok ok hG)
theorem heap_ok {f : FuncId} {n : Nat} {ac : ACode} {rs : List ARes} (fok : FnOk P H f n ac rs) (ok : CallOk P H.glob cl) {T : List V → Hp → (V → Hp → Prop) → Prop}
    (hT : ∀ xs h K, T xs h K → awp cl ac (HeapQ rs K) ⟨argE 0 xs, h⟩) : HeapOk P H.glob f T := by
  refine ⟨fok.enters, ?_⟩
  intro F w h ρ xs vs K hs hx hK
  obtain ⟨fn, c, h1, h2, h3, h4, h5, h6⟩ := fok.fn
  refine calls_of_wp h1 h3 ?_
  rw [h4]
  refine wp_mono (awp_sound (w0 := w) (h0 := h) (ρ0 := ρ) fok.mixed ok c ac h5 (HeapQ rs K) _ _ w ρ (hT xs h K hK) (sim_entry hs hx n) (.refl _ _ _ _)) ?_
  intro e a' w' q
  have key : ∀ st ρ', (∃ v, resV st rs = some v ∧ K v st.hp) → Sim n F H.glob st ρ' a' w' → Later F w h ρ w' st.hp ρ' →
      a'.defers = [] ∧ ∃ v, (results fn a'.tmps).run P w' = .ok v w' ∧ back (fun v w' => ∃ av h' ρ', K av h' ∧ RepV (cx F w' h' ρ') av v ∧ HSim F H.glob w' h' ρ' ∧ Later F w h ρ w' h' ρ') (.returned v) w' := by
    rintro st ρ' ⟨v, hv, hd⟩ sm hl
    obtain ⟨val, k1, k2⟩ := resV_run sm h6 hv
    exact ⟨sm.defers, val, k1, v, st.hp, ρ', hd, k2, sm.hs, hl⟩
  cases e with
  | normal => obtain ⟨st, ρ, q1, q2, q3⟩ := q; exact key st ρ q1 q2 q3
  | ret => obtain ⟨st, ρ, q1, q2, q3⟩ := q; exact key st ρ q1 q2 q3
  | exit id => obtain ⟨st, ρ, q1, q2, q3⟩ := q; exact q1.elim
  | goto l => obtain ⟨st, ρ, q1, q2, q3⟩ := q; exact q1.elim
  | panic ch => exact q.elim
  | outgrown => exact q.elim
end
namespace K
abbrev S := ACode.seq
abbrev R := ACode.region
abbrev G := ACode.dregion
abbrev I := ACode.cond
abbrev B := ACode.block
abbrev L := ACode.loop
abbrev E := ACode.exit
abbrev X := ACode.skip
abbrev Z := ACode.ret
abbrev t := Opd.t
abbrev i (n : Int) : Opd := .k (.c (.d (.int .i64 n)))
abbrev s (l : List UInt8) : Opd := .k (.c (.d (.str l)))
abbrev T : Opd := .k (.c (.d (.bool true)))
abbrev F : Opd := .k (.c (.d (.bool false)))
abbrev o : C := .d (.int .i64 0)
abbrev e : C := .d (.str [])
abbrev z : C := .d (.bool false)
abbrev q (d : Nat) (x : AOp) : AOper := ⟨some d, x, none⟩
abbrev n (x : AOp) : AOper := ⟨none, x, none⟩
abbrev p (d g : Nat) (x : AOp) : AOper := ⟨some d, x, some (g, true)⟩
abbrev r (d g : Nat) (x : AOp) : AOper := ⟨some d, x, some (g, false)⟩
abbrev m (d x : Nat) : AOper := ⟨some d, .move (.t x), none⟩
abbrev pm (d g x : Nat) : AOper := ⟨some d, .move (.t x), some (g, true)⟩
abbrev rm (d g x : Nat) : AOper := ⟨some d, .move (.t x), some (g, false)⟩
abbrev l (x : Nat) : AOp := .load (.t x) 1 false
abbrev la (x n : Nat) : AOp := .load (.t x) n true
abbrev st (x y n : Nat) : AOp := .store (.t x) (.t y) n
abbrev fa (x n : Nat) : AOp := .fieldAddr (.t x) n
abbrev ex (x n : Nat) : AOp := .extract (.t x) n
end K
theorem fnk {P : Program} {H : Hint} {f : FuncId} {n : Nat} {ac : ACode} {rs : List ARes} (mx : P.follows .mixedOrders = true) (fn : Func) (h1 : P.funcs[f]? = some fn := by kernel_rfl) (h2 : (fn.name == "runtime.NumGoroutine") = false := by kernel_rfl)
    (h3 : fn.body = some (fn.body.getD .skip) := by kernel_rfl) (h4 : fn.ntmps = n := by kernel_rfl) (h5 : trC P H n (fn.body.getD .skip) = some ac := by kernel_rfl) (h6 : trRess P fn.results.toList = some rs := by kernel_rfl) : FnOk P H f n ac rs :=
  ⟨mx, fn, fn.body.getD .skip, h1, h2, h3, h4, h5, h6⟩
section
variable {cl : Call}
def Fine (cl : Call) : Prop := ∀ f T, cl.heap f = some T → ∀ args h K, T args h K → ∃ v h', K v h' ∧ ∀ K' : V → Hp → Prop, K' v h' → T args h K'
theorem vcall_det (fine : Fine cl) {f : V} {args : List V} {h : Hp} {K : V → Hp → Prop} (hk : vcallWp cl f args h K) : ∃ v h', K v h' ∧ ∀ K' : V → Hp → Prop, K' v h' → vcallWp cl f args h K' := by
  unfold vcallWp at hk
  split at hk
  · rename_i g
    split at hk
    · rename_i T hT
      obtain ⟨v, h', k1, k2⟩ := fine g T hT _ _ _ hk
      exact ⟨v, h', k1, fun K' h => by simp only [vcallWp, hT]; exact k2 K' h⟩
    · rename_i hT
      split at hk
      · rename_i G hG
        cases h1 : toDVs h args with
        | none => rw [h1] at hk; exact hk.elim
        | some ds =>
          cases h2 : G ds with
          | none => rw [h1] at hk; simp only [opt, h2] at hk
          | some r =>
            cases h3 : r.toV with
            | none => rw [h1] at hk; simp only [opt, h2, h3] at hk
            | some v =>
              rw [h1] at hk
              simp only [opt, h2, h3] at hk
              exact ⟨v, _, hk, fun K' h => by simp only [vcallWp, hT, hG, h1, opt, h2, h3]; exact h⟩
      · exact hk.elim
  · rename_i g caps
    split at hk
    · rename_i T hT
      obtain ⟨v, h', k1, k2⟩ := fine g T hT _ _ _ hk
      exact ⟨v, h', k1, fun K' h => by simp only [vcallWp, hT]; exact k2 K' h⟩
    · exact hk.elim
  · exact hk.elim
theorem opWp_det (fine : Fine cl) {o : AOp} {st : St} {K : V → Hp → Prop} (hk : opWp cl o st K) : ∃ v h', K v h' ∧ ∀ K' : V → Hp → Prop, K' v h' → opWp cl o st K' := by
  cases o
  case hcall f args =>
    simp only [opWp] at hk ⊢
    cases hT : cl.heap f with
    | none => rw [hT] at hk; exact hk.elim
    | some T => rw [hT] at hk; exact fine f T hT _ _ _ hk
  case vcall f args => exact vcall_det fine hk
  all_goals
    simp only [opWp, opt] at hk ⊢
    split at hk
    · rename_i r hr
      exact ⟨r.1, r.2, hk, fun K' h => h⟩
    · exact hk.elim
theorem wanted_det {e : Env} {g : Option (Nat × Bool)} {W : Bool → Prop} (h : wanted e g W) : ∃ b, W b ∧ ∀ W' : Bool → Prop, W' b → wanted e g W' := by
  cases g with
  | none => exact ⟨true, h, fun _ h => h⟩
  | some gw =>
    obtain ⟨g, want⟩ := gw
    simp only [wanted] at h ⊢
    split at h
    · rename_i b hb
      by_cases hbw : b = want
      · exact ⟨true, h.1 hbw, fun W' h' => ⟨fun _ => h', fun hn => (hn hbw).elim⟩⟩
      · exact ⟨false, h.2 hbw, fun W' h' => ⟨fun hn => (hbw hn).elim, fun _ => h'⟩⟩
    · rename_i hb
      exact ⟨false, h, fun W' h' => h'⟩
    · exact h.elim
theorem ops_det (fine : Fine cl) : ∀ {ops : List AOper} {K : St → Prop} {st : St}, opsWp cl ops K st → ∃ s, K s ∧ ∀ K' : St → Prop, K' s → opsWp cl ops K' st
  | [], K, st, h => ⟨st, h, fun _ h => h⟩
  | o :: r, K, st, h => by
    simp only [opsWp] at h ⊢
    obtain ⟨b, hb, hall⟩ := wanted_det h
    cases b with
    | true =>
      simp only [if_true] at hb
      obtain ⟨v, h', k1, k2⟩ := opWp_det fine hb
      obtain ⟨s, s1, s2⟩ := ops_det fine k1
      exact ⟨s, s1, fun K' hK' => hall _ (by simp only [if_true]; exact k2 _ (s2 _ hK'))⟩
    | false =>
      simp only [Bool.false_eq_true, if_false] at hb
      obtain ⟨s, s1, s2⟩ := ops_det fine hb
      exact ⟨s, s1, fun K' hK' => hall _ (by simp only [Bool.false_eq_true, if_false]; exact s2 _ hK')⟩
theorem dops_det : ∀ {ops : List AOper} {past : List (Nat × Ent)} {j : Nat} {bs : List Nat} {K : St → Prop} {st : St}, dopsWp cl past j bs ops K st → ∃ s, K s ∧ ∀ K' : St → Prop, K' s → dopsWp cl past j bs ops K' st
  | [], past, j, bs, K, st, h => ⟨st, by simpa only [dopsWp] using h, fun _ h => by simpa only [dopsWp] using h⟩
  | o :: r, past, j, bs, K, st, h => by
    rw [dopsWp] at h
    obtain ⟨b, hb, hall⟩ := wanted_det h
    cases b with
    | true =>
      simp only [if_true] at hb
      rcases hb with ⟨hi, v, hv, hk⟩ | ⟨v, hv, hp, hk⟩ | ⟨v, h', hv, hp, hk⟩
      · obtain ⟨s, s1, s2⟩ := dops_det hk
        exact ⟨s, s1, fun K' hK' => by rw [dopsWp]; exact hall _ (by simp only [if_true]; exact .inl ⟨hi, v, hv, s2 _ hK'⟩)⟩
      · obtain ⟨s, s1, s2⟩ := dops_det hk
        exact ⟨s, s1, fun K' hK' => by rw [dopsWp]; exact hall _ (by simp only [if_true]; exact .inr (.inl ⟨v, hv, hp, s2 _ hK'⟩))⟩
      · obtain ⟨s, s1, s2⟩ := dops_det hk
        exact ⟨s, s1, fun K' hK' => by rw [dopsWp]; exact hall _ (by simp only [if_true]; exact .inr (.inr ⟨v, h', hv, hp, s2 _ hK'⟩))⟩
    | false =>
      simp only [Bool.false_eq_true, if_false] at hb
      obtain ⟨s, s1, s2⟩ := dops_det hb
      exact ⟨s, s1, fun K' hK' => by rw [dopsWp]; exact hall _ (by simp only [Bool.false_eq_true, if_false]; exact s2 _ hK')⟩
theorem awp_det (fine : Fine cl) : ∀ (c : ACode) {Q : Exit → St → Prop} {st : St}, awp cl c Q st → ∃ e s, Q e s ∧ ∀ Q' : Exit → St → Prop, Q' e s → awp cl c Q' st
  | .skip, Q, st, h => ⟨.normal, st, h, fun _ h => h⟩
  | .region ops, Q, st, h => by
    obtain ⟨s, s1, s2⟩ := ops_det fine h
    exact ⟨.normal, s, s1, fun Q' h => s2 (Q' .normal) h⟩
  | .dregion ops bef, Q, st, h => by
    obtain ⟨s, s1, s2⟩ := dops_det h
    exact ⟨.normal, s, s1, fun Q' h => s2 (Q' .normal) h⟩
  | .seq a b, Q, st, h => by
    obtain ⟨e1, s1, k1, k2⟩ := awp_det fine a h
    cases e1 with
    | normal =>
      obtain ⟨s1', hle, hb⟩ := k1
      obtain ⟨e2, s2, l1, l2⟩ := awp_det fine b hb
      exact ⟨e2, s2, l1, fun Q' h => k2 _ ⟨s1', hle, l2 Q' h⟩⟩
    | _ => exact ⟨_, s1, k1, fun Q' h => k2 (seqK (weak (awp cl b Q')) Q') h⟩
  | .cond c x y, Q, st, h => by
    simp only [awp, condWp] at h ⊢
    split at h
    · rename_i b hb
      cases b with
      | true =>
        obtain ⟨e, s, k1, k2⟩ := awp_det fine x (h.1 rfl)
        exact ⟨e, s, k1, fun Q' h => ⟨fun _ => k2 Q' h, fun hf => (nomatch hf)⟩⟩
      | false =>
        obtain ⟨e, s, k1, k2⟩ := awp_det fine y (h.2 rfl)
        exact ⟨e, s, k1, fun Q' h => ⟨fun hf => (nomatch hf), fun _ => k2 Q' h⟩⟩
    · exact h.elim
  | .block id b, Q, st, h => by
    obtain ⟨e1, s1, k1, k2⟩ := awp_det fine b h
    cases e1 with
    | exit i =>
      simp only [blkK] at k1
      by_cases hi : i = id
      · rw [if_pos hi] at k1
        exact ⟨.normal, s1, k1, fun Q' h => k2 (blkK id Q') (by simp only [blkK, if_pos hi]; exact h)⟩
      · rw [if_neg hi] at k1
        exact ⟨.exit i, s1, k1, fun Q' h => k2 (blkK id Q') (by simp only [blkK, if_neg hi]; exact h)⟩
    | _ => exact ⟨_, s1, k1, fun Q' h => k2 (blkK id Q') h⟩
  | .loop b, Q, st, h => by
    obtain ⟨n, h⟩ := h
    have key : ∀ n st, loopP (awp cl b) Q n st → ∃ e s, Q e s ∧ ∀ Q' : Exit → St → Prop, Q' e s → loopP (awp cl b) Q' n st := by
      intro n
      induction n with
      | zero => intro st h; exact h.elim
      | succ n ih =>
        rintro st ⟨st', hle, h⟩
        obtain ⟨e1, s1, k1, k2⟩ := awp_det fine b h
        cases e1 with
        | normal =>
          obtain ⟨e2, s2, l1, l2⟩ := ih s1 k1
          exact ⟨e2, s2, l1, fun Q' h => ⟨st', hle, k2 _ (l2 Q' h)⟩⟩
        | _ => exact ⟨_, s1, k1, fun Q' h => ⟨st', hle, k2 (seqK (loopP (awp cl b) Q' n) Q') h⟩⟩
    obtain ⟨e, s, k1, k2⟩ := key n st h
    exact ⟨e, s, k1, fun Q' h => ⟨n, k2 Q' h⟩⟩
  | .exit id, Q, st, h => ⟨.exit id, st, h, fun _ h => h⟩
  | .goto l, Q, st, h => ⟨.goto l, st, h, fun _ h => h⟩
  | .jump l x r, Q, st, h => by
    have key : ∀ n st, jumpP l (awp cl r) Q n st → ∃ e s, Q e s ∧ ∀ Q' : Exit → St → Prop, Q' e s → jumpP l (awp cl r) Q' n st := by
      intro n
      induction n with
      | zero => intro st h; exact h.elim
      | succ n ih =>
        rintro st ⟨st', hle, h⟩
        obtain ⟨e1, s1, k1, k2⟩ := awp_det fine r h
        cases e1 with
        | goto i =>
          obtain ⟨hi, k1⟩ := k1
          obtain ⟨e2, s2, l1, l2⟩ := ih s1 k1
          exact ⟨e2, s2, l1, fun Q' h => ⟨st', hle, k2 _ ⟨hi, l2 Q' h⟩⟩⟩
        | _ => exact ⟨_, s1, k1, fun Q' h => ⟨st', hle, k2 (jmpK l (jumpP l (awp cl r) Q' n) Q') h⟩⟩
    obtain ⟨e1, s1, k1, k2⟩ := awp_det fine x h
    cases e1 with
    | goto i =>
      obtain ⟨hi, n, k1⟩ := k1
      obtain ⟨e2, s2, l1, l2⟩ := key n s1 k1
      exact ⟨e2, s2, l1, fun Q' h => k2 _ ⟨hi, n, l2 Q' h⟩⟩
    | _ => exact ⟨_, s1, k1, fun Q' h => k2 (jmpK l (fun st => ∃ n, jumpP l (awp cl r) Q' n st) Q') h⟩
  | .ret, Q, st, h => ⟨.ret, st, h, fun _ h => h⟩
def PostQ (rs : List ARes) (R : DV → Prop) : Exit → St → Prop := fun e st =>
  match e with
  | .normal | .ret => ∃ v r, resV st rs = some v ∧ v.toDVt st.hp = some r ∧ R r
  | _ => False
theorem post_pure (fine : Fine cl) {c : ACode} {rs : List ARes} {R : DV → Prop} {st : St} (h : awp cl c (PostQ rs R) st) : ∃ r, R r ∧ awp cl c (PureQ rs r) st := by
  obtain ⟨e, s, k1, k2⟩ := awp_det fine c h
  cases e with
  | normal => obtain ⟨v, r, h1, h2, h3⟩ := k1; exact ⟨r, h3, k2 _ ⟨v, h1, h2⟩⟩
  | ret => obtain ⟨v, r, h1, h2, h3⟩ := k1; exact ⟨r, h3, k2 _ ⟨v, h1, h2⟩⟩
  | _ => exact k1.elim
theorem loose_ok {P : Program} {H : Hint} {f : FuncId} {n : Nat} {ac : ACode} {rs : List ARes} (fok : FnOk P H f n ac rs) (ok : CallOk P H.glob cl) (fine : Fine cl) {Pre : List DV → Prop} {R : List DV → DV → Prop}
    (hw : ∀ ds, Pre ds → awp cl ac (PostQ rs (R ds)) ⟨argE 0 (dvArgs ds), ⟨0, []⟩⟩) : ∃ G, PureFn P H.glob f G ∧ ∀ ds, Pre ds → ∃ r, G ds = some r ∧ R ds r := by
  classical
  have hall : ∀ ds, Pre ds → ∃ r, R ds r ∧ awp cl ac (PureQ rs r) ⟨argE 0 (dvArgs ds), ⟨0, []⟩⟩ := fun ds h => post_pure fine (hw ds h)
  refine ⟨fun ds => if h : Pre ds then some (Classical.choose (hall ds h)) else none, pure_fn fok ok ?_, fun ds h => ⟨Classical.choose (hall ds h), by simp [h], (Classical.choose_spec (hall ds h)).1⟩⟩
  intro ds r hr
  by_cases h : Pre ds
  · simp only [h, dif_pos] at hr
    cases hr
    exact (Classical.choose_spec (hall ds h)).2
  · simp only [h, dif_neg, not_false_eq_true] at hr
    cases hr
end
theorem Z0 {α : Type} {o : Option α} {a : α} {K : α → Prop} (h : o = some a) (hk : K a) : opt o K := by subst h; exact hk
section
variable {cl : Call} {d : Nat} {r : List AOper} {K : St → Prop} {env : Env} {nx nx' : Nat} {ob : List (Nat × Ob)} {hp : Hp} {x y : Opd} {k : IntKind} {a b : Int}
theorem ev_leq_t {e : Env} {h : Hp} (hx : ev e x = .c (.d (.int k a))) (hy : ev e y = .c (.d (.int k b))) (hr : a ≤ b) : eval cl e h (.bin .leq x y) = some (.c (.d (.bool true)), h) := ev_cmp hx hy (by simp [binInt]; omega) rfl
theorem ev_leq_f {e : Env} {h : Hp} (hx : ev e x = .c (.d (.int k a))) (hy : ev e y = .c (.d (.int k b))) (hr : b < a) : eval cl e h (.bin .leq x y) = some (.c (.d (.bool false)), h) := ev_cmp hx hy (by simp [binInt]; omega) rfl
theorem ZD (hx : ev env x = .c (.d (.int k a))) (hy : ev env y = .c (.d (.int k b))) (h1 : a < b → opsWp cl r K ⟨(d, .c (.d (.bool true))) :: env, ⟨nx, ob⟩⟩) (h2 : b ≤ a → opsWp cl r K ⟨(d, .c (.d (.bool false))) :: env, ⟨nx, ob⟩⟩) :
    opsWp cl (⟨some d, .bin .lss x y, none⟩ :: r) K ⟨env, ⟨nx, ob⟩⟩ := by
  by_cases h : a < b
  · exact ZB (ev_lss_t hx hy h) (h1 h)
  · exact ZB (ev_lss_f hx hy (by omega)) (h2 (by omega))
theorem ZE (hx : ev env x = .c (.d (.int k a))) (hy : ev env y = .c (.d (.int k b))) (h1 : a ≤ b → opsWp cl r K ⟨(d, .c (.d (.bool true))) :: env, ⟨nx, ob⟩⟩) (h2 : b < a → opsWp cl r K ⟨(d, .c (.d (.bool false))) :: env, ⟨nx, ob⟩⟩) :
    opsWp cl (⟨some d, .bin .leq x y, none⟩ :: r) K ⟨env, ⟨nx, ob⟩⟩ := by
  by_cases h : a ≤ b
  · exact ZB (ev_leq_t hx hy h) (h1 h)
  · exact ZB (ev_leq_f hx hy (by omega)) (h2 (by omega))
theorem ZF (hx : ev env x = .c (.d (.int k a))) (hy : ev env y = .c (.d (.int k b))) (h1 : b < a → opsWp cl r K ⟨(d, .c (.d (.bool true))) :: env, ⟨nx, ob⟩⟩) (h2 : a ≤ b → opsWp cl r K ⟨(d, .c (.d (.bool false))) :: env, ⟨nx, ob⟩⟩) :
    opsWp cl (⟨some d, .bin .gtr x y, none⟩ :: r) K ⟨env, ⟨nx, ob⟩⟩ := by
  by_cases h : b < a
  · exact ZB (ev_gtr_t hx hy h) (h1 h)
  · exact ZB (ev_gtr_f hx hy (by omega)) (h2 (by omega))
theorem ZG (hx : ev env x = .c (.d (.int k a))) (hy : ev env y = .c (.d (.int k b))) (h1 : b ≤ a → opsWp cl r K ⟨(d, .c (.d (.bool true))) :: env, ⟨nx, ob⟩⟩) (h2 : a < b → opsWp cl r K ⟨(d, .c (.d (.bool false))) :: env, ⟨nx, ob⟩⟩) :
    opsWp cl (⟨some d, .bin .geq x y, none⟩ :: r) K ⟨env, ⟨nx, ob⟩⟩ := by
  by_cases h : b ≤ a
  · exact ZB (ev_geq_t hx hy h) (h1 h)
  · exact ZB (ev_geq_f hx hy (by omega)) (h2 (by omega))
theorem ZH (hx : ev env x = .c (.d (.int k a))) (hy : ev env y = .c (.d (.int k b))) (h1 : a = b → opsWp cl r K ⟨(d, .c (.d (.bool true))) :: env, ⟨nx, ob⟩⟩) (h2 : a ≠ b → opsWp cl r K ⟨(d, .c (.d (.bool false))) :: env, ⟨nx, ob⟩⟩) :
    opsWp cl (⟨some d, .bin .eql x y, none⟩ :: r) K ⟨env, ⟨nx, ob⟩⟩ := by
  by_cases h : a = b
  · exact ZB (ev_eql_t hx hy h) (h1 h)
  · exact ZB (ev_eql_f hx hy h) (h2 h)
theorem ZI (hx : ev env x = .c (.d (.int k a))) (hy : ev env y = .c (.d (.int k b))) (h1 : a ≠ b → opsWp cl r K ⟨(d, .c (.d (.bool true))) :: env, ⟨nx, ob⟩⟩) (h2 : a = b → opsWp cl r K ⟨(d, .c (.d (.bool false))) :: env, ⟨nx, ob⟩⟩) :
    opsWp cl (⟨some d, .bin .neq x y, none⟩ :: r) K ⟨env, ⟨nx, ob⟩⟩ := by
  by_cases h : a = b
  · exact ZB (ev_neq_f hx hy h) (h2 h)
  · exact ZB (ev_neq_t hx hy h) (h1 h)
theorem ev_eqs_t {e : Env} {h : Hp} {s t : List UInt8} (hx : ev e x = .c (.d (.str s))) (hy : ev e y = .c (.d (.str t))) (hr : s = t) : eval cl e h (.bin .eql x y) = some (.c (.d (.bool true)), h) := by simp [eval, hx, hy, binV, binD, binStr, hr]
theorem ev_eqs_f {e : Env} {h : Hp} {s t : List UInt8} (hx : ev e x = .c (.d (.str s))) (hy : ev e y = .c (.d (.str t))) (hr : s ≠ t) : eval cl e h (.bin .eql x y) = some (.c (.d (.bool false)), h) := by simp [eval, hx, hy, binV, binD, binStr, hr]
theorem ev_nes_t {e : Env} {h : Hp} {s t : List UInt8} (hx : ev e x = .c (.d (.str s))) (hy : ev e y = .c (.d (.str t))) (hr : s ≠ t) : eval cl e h (.bin .neq x y) = some (.c (.d (.bool true)), h) := by simp [eval, hx, hy, binV, binD, binStr, hr]
theorem ev_nes_f {e : Env} {h : Hp} {s t : List UInt8} (hx : ev e x = .c (.d (.str s))) (hy : ev e y = .c (.d (.str t))) (hr : s = t) : eval cl e h (.bin .neq x y) = some (.c (.d (.bool false)), h) := by simp [eval, hx, hy, binV, binD, binStr, hr]
theorem ZJ {s t : List UInt8} (hx : ev env x = .c (.d (.str s))) (hy : ev env y = .c (.d (.str t))) (h1 : s = t → opsWp cl r K ⟨(d, .c (.d (.bool true))) :: env, ⟨nx, ob⟩⟩) (h2 : s ≠ t → opsWp cl r K ⟨(d, .c (.d (.bool false))) :: env, ⟨nx, ob⟩⟩) :
    opsWp cl (⟨some d, .bin .eql x y, none⟩ :: r) K ⟨env, ⟨nx, ob⟩⟩ := by
  by_cases h : s = t
  · exact ZB (ev_eqs_t hx hy h) (h1 h)
  · exact ZB (ev_eqs_f hx hy h) (h2 h)
theorem ZK {s t : List UInt8} (hx : ev env x = .c (.d (.str s))) (hy : ev env y = .c (.d (.str t))) (h1 : s ≠ t → opsWp cl r K ⟨(d, .c (.d (.bool true))) :: env, ⟨nx, ob⟩⟩) (h2 : s = t → opsWp cl r K ⟨(d, .c (.d (.bool false))) :: env, ⟨nx, ob⟩⟩) :
    opsWp cl (⟨some d, .bin .neq x y, none⟩ :: r) K ⟨env, ⟨nx, ob⟩⟩ := by
  by_cases h : s = t
  · exact ZB (ev_nes_f hx hy h) (h2 h)
  · exact ZB (ev_nes_t hx hy h) (h1 h)
theorem step_bool {v : Bool} {t : Nat} {ops : List AOper} (h1 : v = true → opsWp cl ops K ⟨(t, .c (.d (.bool true))) :: env, hp⟩) (h2 : v = false → opsWp cl ops K ⟨(t, .c (.d (.bool false))) :: env, hp⟩) : opsWp cl ops K ⟨(t, .c (.d (.bool v))) :: env, hp⟩ := by
  cases v
  · exact h2 rfl
  · exact h1 rfl
theorem ZL (hx : ev env x = .c (.d (.int .i64 a))) (hy : ev env y = .c (.d (.int .i64 b))) (h0 : -9223372036854775808 ≤ a + b) (h1 : a + b ≤ 9223372036854775807) (hk : opsWp cl r K ⟨(d, .c (.d (.int .i64 (a + b)))) :: env, ⟨nx, ob⟩⟩) :
    opsWp cl (⟨some d, .bin .add x y, none⟩ :: r) K ⟨env, ⟨nx, ob⟩⟩ := ZB (ev_add hx hy h0 h1) hk
theorem ZM (hx : ev env x = .c (.d (.int .i64 a))) (hy : ev env y = .c (.d (.int .i64 b))) (h0 : -9223372036854775808 ≤ a - b) (h1 : a - b ≤ 9223372036854775807) (hk : opsWp cl r K ⟨(d, .c (.d (.int .i64 (a - b)))) :: env, ⟨nx, ob⟩⟩) :
    opsWp cl (⟨some d, .bin .sub x y, none⟩ :: r) K ⟨env, ⟨nx, ob⟩⟩ := ZB (ev_sub hx hy h0 h1) hk
theorem encB_inj {s t : List UInt8} (h : encB s = encB t) : s = t := by
  induction s generalizing t with
  | nil => cases t with | nil => rfl | cons b r => cases h
  | cons a r ih =>
    cases t with
    | nil => cases h
    | cons b q =>
      have h' : [D.int .u8 a.toNat] :: encB r = [D.int .u8 b.toNat] :: encB q := h
      injection h' with e1 e2
      injection e1 with e1 _
      injection e1 with _ e1
      have : a = b := UInt8.toNat_inj.1 (by omega)
      rw [this, ih e2]
theorem encB_length (s : List UInt8) : (encB s).length = s.length := by simp [encB]
theorem encB_at {s : List UInt8} {i : Nat} {b : UInt8} (h : s[i]? = some b) : (encB s)[i]? = some [.int .u8 b.toNat] := by simp [encB, h]
theorem ZN {s : List UInt8} {sz : Nat} {i : Int} (hx : ev env x = .c (.d (.list sz (encB s)))) (hy : ev env y = .c (.d (.int k i))) (h0 : 0 ≤ i) (h1 : i < s.length)
    (hk : ∀ c : UInt8, s[i.toNat]? = some c → c.toNat < 256 → opsWp cl r K ⟨(d, .c (.lptr [.int .u8 c.toNat] 0)) :: env, ⟨nx, ob⟩⟩) : opsWp cl (⟨some d, .idxAddr 1 x y, none⟩ :: r) K ⟨env, ⟨nx, ob⟩⟩ := by
  have hlt : i.toNat < s.length := by omega
  exact ZB (ev_idx hx hy h0 (encB_at (List.getElem?_eq_getElem hlt)) rfl) (hk _ (List.getElem?_eq_getElem hlt) (UInt8.toNat_lt _))
theorem strAt_ev {e : Env} {h : Hp} {s : List UInt8} {i : Int} {c : UInt8} (hx : ev e x = .c (.d (.str s))) (hy : ev e y = .c (.d (.int k i))) (h0 : 0 ≤ i) (hc : s[i.toNat]? = some c) : eval cl e h (.strAt x y) = some (.c (.d (.int .u8 c.toNat)), h) := by
  simp only [eval, hx, hy, asInt, if_pos h0, hc]
theorem ZO {s : List UInt8} {i : Int} (hx : ev env x = .c (.d (.str s))) (hy : ev env y = .c (.d (.int k i))) (h0 : 0 ≤ i) (h1 : i < s.length)
    (hk : ∀ c : UInt8, s[i.toNat]? = some c → c.toNat < 256 → opsWp cl r K ⟨(d, .c (.d (.int .u8 c.toNat))) :: env, ⟨nx, ob⟩⟩) : opsWp cl (⟨some d, .strAt x y, none⟩ :: r) K ⟨env, ⟨nx, ob⟩⟩ := by
  have hlt : i.toNat < s.length := by omega
  exact ZB (strAt_ev hx hy h0 (List.getElem?_eq_getElem hlt)) (hk _ (List.getElem?_eq_getElem hlt) (UInt8.toNat_lt _))
theorem decB_enc' : ∀ (s : List UInt8), decB (encB s) = some s
  | [] => rfl
  | b :: r => by
    have ih := decB_enc' r
    unfold encB at ih ⊢
    simp only [List.map_cons, decB, ih]
    simp
theorem ZR {sz : Nat} {s : List UInt8} (hx : ev env x = .c (.d (.list sz (encB s)))) (hk : opsWp cl r K ⟨(d, .c (.d (.str s))) :: env, ⟨nx, ob⟩⟩) : opsWp cl (⟨some d, .b2s x, none⟩ :: r) K ⟨env, ⟨nx, ob⟩⟩ :=
  ZB (by simp only [eval, hx, C.lst, C.toD, decB_enc']) hk
def loOf (e : Env) : Option Opd → Option Int
  | none => some 0
  | some o => asInt (ev e o)
def hiOf (e : Env) (n : Nat) : Option Opd → Option Int
  | none => some n
  | some o => asInt (ev e o)
theorem bounds_of {e : Env} {n : Nat} {lo hi : Option Opd} {l h : Int} (hl : loOf e lo = some l) (hh : hiOf e n hi = some h) (h0 : 0 ≤ l) (h1 : l ≤ h) (h2 : h ≤ n) : bounds e n lo hi none = some (l.toNat, h.toNat) := by
  have e1 : bnd e (dflt n none) n hi = some h.toNat := by
    cases hi with
    | none => simp only [hiOf, Option.some.injEq] at hh; subst hh; simp [bnd, dflt]
    | some o =>
      have c : 0 ≤ h ∧ h ≤ (n : Int) := by omega
      simp only [hiOf] at hh
      simp only [bnd, hh, if_pos c]
  have e2 : bnd e (some 0) h.toNat lo = some l.toNat := by
    cases lo with
    | none => simp only [loOf, Option.some.injEq] at hl; subst hl; rfl
    | some o =>
      have c : 0 ≤ l ∧ l ≤ ((h.toNat : Nat) : Int) := by omega
      simp only [loOf] at hl
      simp only [bnd, hl, if_pos c]
  have e0 : bnd e (some n) n none = some n := rfl
  unfold bounds
  rw [e0]
  simp only [e1, e2]
theorem ev_slb {e : Env} {hp : Hp} {lo hi : Option Opd} {sz : Nat} {s : List UInt8} {l h : Int} (hx : ev e x = .c (.d (.list sz (encB s)))) (hs : sz = 1 ∨ s = []) (hl : loOf e lo = some l) (hh : hiOf e s.length hi = some h) (h0 : 0 ≤ l) (h1 : l ≤ h) (h2 : h ≤ s.length) :
    eval cl e hp (.slice 1 x lo hi none) = some (.c (.d (.list 1 (encB ((s.take h.toNat).drop l.toNat)))), hp) := by
  obtain ⟨nx, ob⟩ := hp
  have h1' : sized sz 1 (encB s) = true := by
    rcases hs with rfl | rfl
    · simp [sized]
    · simp [sized, encB]
  have hb : bounds e (encB s).length lo hi none = some (l.toNat, h.toNat) := by rw [encB_length]; exact bounds_of hl hh h0 h1 h2
  simp only [eval, hx, C.lst, C.toD, h1', hb]
  simp [C.shed, encB, List.map_take, List.map_drop]
theorem ZP {lo hi : Option Opd} {sz : Nat} {s : List UInt8} {l h : Int} (hx : ev env x = .c (.d (.list sz (encB s)))) (hs : sz = 1 ∨ s = []) (hl : loOf env lo = some l) (hh : hiOf env s.length hi = some h) (h0 : 0 ≤ l) (h1 : l ≤ h) (h2 : h ≤ s.length)
    (hk : ∀ s', s' = (s.take h.toNat).drop l.toNat → (s'.length : Int) = h - l → opsWp cl r K ⟨(d, .c (.d (.list 1 (encB s')))) :: env, ⟨nx, ob⟩⟩) : opsWp cl (⟨some d, .slice 1 x lo hi none, none⟩ :: r) K ⟨env, ⟨nx, ob⟩⟩ :=
  ZB (ev_slb hx hs hl hh h0 h1 h2) (hk _ rfl (by simp; omega))
theorem ev_sub_s {e : Env} {hp : Hp} {lo hi : Option Opd} {s : List UInt8} {l h : Int} (hx : ev e x = .c (.d (.str s))) (hl : loOf e lo = some l) (hh : hiOf e s.length hi = some h) (h0 : 0 ≤ l) (h1 : l ≤ h) (h2 : h ≤ s.length) :
    eval cl e hp (.substr x lo hi) = some (.c (.d (.str ((s.take h.toNat).drop l.toNat))), hp) := by
  simp only [eval, hx, bounds_of hl hh h0 h1 h2]
theorem ZQ {lo hi : Option Opd} {s : List UInt8} {l h : Int} (hx : ev env x = .c (.d (.str s))) (hl : loOf env lo = some l) (hh : hiOf env s.length hi = some h) (h0 : 0 ≤ l) (h1 : l ≤ h) (h2 : h ≤ s.length)
    (hk : ∀ s', s' = (s.take h.toNat).drop l.toNat → (s'.length : Int) = h - l → opsWp cl r K ⟨(d, .c (.d (.str s'))) :: env, ⟨nx, ob⟩⟩) : opsWp cl (⟨some d, .substr x lo hi, none⟩ :: r) K ⟨env, ⟨nx, ob⟩⟩ :=
  ZB (ev_sub_s hx hl hh h0 h1 h2) (hk _ rfl (by simp; omega))
theorem step_b2bh {z n sz : Nat} {l : List (List D)} {rest : List (Nat × Ob)} (hx : ev env x = .c (.own z n)) (hs : sz = 1) (hn : n = l.length) (h0 : 0 < n) (hk : opsWp cl r K ⟨(d, .c (.own z n)) :: env, ⟨nx, (z, .row 1 l) :: rest⟩⟩) :
    opsWp cl (⟨some d, .b2b x, none⟩ :: r) K ⟨env, ⟨nx, (z, .row sz l) :: rest⟩⟩ := by
  subst hs
  refine ZB (v := .c (.own z n)) ?_ hk
  simp only [eval, hx, look_hd, put_hd]
  rw [if_pos ⟨trivial, hn, h0⟩]
theorem toD_own {h : Hp} {z n sz : Nat} {l : List (List D)} (hl : look h.obs z = some (.row sz l)) (hn : n = l.length) : C.toD h (.own z n) = some (.list sz l) := by
  simp only [C.toD, hl, if_pos hn]
theorem step_len_own {z n sz : Nat} {l : List (List D)} (hx : ev env x = .c (.own z n)) (hl : look ob z = some (.row sz l)) (hn : n = l.length) (hk : opsWp cl r K ⟨(d, .c (.d (.int .i64 l.length))) :: env, ⟨nx, ob⟩⟩) : opsWp cl (⟨some d, .len x, none⟩ :: r) K ⟨env, ⟨nx, ob⟩⟩ :=
  ZB (v := .c (.d (.int .i64 l.length))) (by simp only [eval, hx, C.lst, toD_own (h := ⟨nx, ob⟩) hl hn]) hk
theorem step_lit1 {v : Int} (hx : ev env x = .c (.d (.int .u8 v))) (h0 : 0 ≤ v) (h1 : v < 256) (hk : ∀ c : UInt8, (c.toNat : Int) = v → opsWp cl r K ⟨(d, .c (.d (.list 1 (encB [c])))) :: env, ⟨nx, ob⟩⟩) :
    opsWp cl (⟨some d, .lit 1 1 [.int .u8 0] [(0, x)] false, none⟩ :: r) K ⟨env, ⟨nx, ob⟩⟩ := by
  have e : ((UInt8.ofNat v.toNat).toNat : Int) = v := by rw [UInt8.toNat_ofNat']; omega
  refine ZB (v := .c (.d (.list 1 (encB [UInt8.ofNat v.toNat])))) (ob' := ob) (nx' := nx) ?_ (hk _ e)
  have e2 : encB [UInt8.ofNat v.toNat] = [[.int .u8 v]] := by simp only [encB, List.map_cons, List.map_nil, e]
  rw [e2]
  simp only [eval, repl, fillE, hx, V.cells, toDs, C.toD, splice, over]
  rfl
theorem encB_app (s t : List UInt8) : encB s ++ encB t = encB (s ++ t) := by simp [encB]
theorem step_app_b {ob' : List (List D) → List (Nat × Ob)} {z n sz : Nat} {s t : List UInt8} (hx : ev env x = .c (.own z n)) (hy : ev env y = .c (.d (.list sz (encB t)))) (hl : look ob z = some (.row 1 (encB s))) (hn : n = (encB s).length) (hz : sz = 1 ∨ t = []) (hr : s.length + t.length ≤ 2147483648)
    (hp : ∀ l, put ob z (.row 1 l) = some (ob' l)) (hk : ∀ u : List UInt8, u = s ++ t → u.length = s.length + t.length → opsWp cl r K ⟨(d, .c (.own z (encB u).length)) :: env, ⟨nx, ob' (encB u)⟩⟩) :
    opsWp cl (⟨some d, .append x y 1, none⟩ :: r) K ⟨env, ⟨nx, ob⟩⟩ := by
  refine ZB (v := .c (.own z (encB (s ++ t)).length)) (ob' := ob' (encB (s ++ t))) (nx' := nx) ?_ (hk _ rfl (by simp))
  have h1 : sized sz 1 (encB t) = true := by
    rcases hz with rfl | rfl
    · simp [sized]
    · simp [sized, encB]
  have h2 : True ∧ n = (encB s).length ∧ (encB s).length + (encB t).length ≤ room := ⟨trivial, hn, by rw [encB_length, encB_length]; exact hr⟩
  simp only [eval, hy, C.lst, C.toD, h1, hx, hl]
  rw [if_pos h2, hp, encB_app]
theorem Z1 {f : Nat} {args : List Opd} {G : List DV → Option DV} {ds : List DV} {q : DV} {v : V} (hf : cl.pure f = some G) (hd : toDVs ⟨nx, ob⟩ (evs env args) = some ds) (hs : shedVs ob (evs env args) = ob) (hG : G ds = some q) (hv : q.toV = some v)
    (hk : opsWp cl r K ⟨(d, v) :: env, ⟨nx, ob⟩⟩) : opsWp cl (⟨some d, .pcall f args, none⟩ :: r) K ⟨env, ⟨nx, ob⟩⟩ := by
  refine ZB (ev_pcall hf hd hG hv (ob' := ob) ?_) hk
  split
  · rfl
  · exact hs
theorem step_vfn {f : Opd} {g : Nat} {args : List Opd} {G : List DV → Option DV} {ds : List DV} {q : DV} {v : V} (hx : ev env f = .c (.d (.fn g))) (hh : cl.heap g = none) (hp : cl.pure g = some G) (hd : toDVs ⟨nx, ob⟩ (evs env args) = some ds) (hG : G ds = some q) (hv : q.toV = some v) (hf : q.flat = true)
    (hk : opsWp cl r K ⟨(d, v) :: env, ⟨nx, ob⟩⟩) : opsWp cl (⟨some d, .vcall f args, none⟩ :: r) K ⟨env, ⟨nx, ob⟩⟩ := by
  refine step_vcall ?_
  rw [hx]
  exact vcall_pure hh hp hd hG hv hf hk
theorem step_vclo {f : Opd} {g : Nat} {caps : List C} {args : List Opd} {T : List V → Hp → (V → Hp → Prop) → Prop} (hx : ev env f = .c (.clo g caps)) (hT : cl.heap g = some T)
    (hk : T (evs env args ++ caps.map V.c) ⟨nx, ob⟩ (fun v h => opsWp cl r K ⟨(d, v) :: env, h⟩)) : opsWp cl (⟨some d, .vcall f args, none⟩ :: r) K ⟨env, ⟨nx, ob⟩⟩ := by
  refine step_vcall ?_
  rw [hx]
  simp only [vcallWp, hT]
  exact hk
theorem pastOk_all {op : AOp} {v : V} {bb : Nat} (hall : ∀ h, eval cl env h op = some (v, h)) : ∀ past : List (Nat × Ent), pastOk cl bb ⟨op, env, hp, v, hp, false⟩ past
  | [] => trivial
  | (i, e) :: rest => by
    refine ⟨?_, pastOk_all hall rest⟩
    unfold pairOk
    cases e.wr
    · trivial
    · exact .inr (.inr (hall _))
theorem dstep_all {op : AOp} {v : V} {past : List (Nat × Ent)} {j bb : Nat} {bs : List Nat} (hall : ∀ h, eval cl env h op = some (v, h)) (hk : dopsWp cl ((j, ⟨op, env, hp, v, hp, false⟩) :: past) (j + 1) bs r K ⟨(d, v) :: env, hp⟩) :
    dopsWp cl past j (bb :: bs) (⟨some d, op, none⟩ :: r) K ⟨env, hp⟩ := ZY (hall hp) (pastOk_all hall past) hk
end
theorem loose_by {P : Program} {H : Hint} {cl : Call} {f : FuncId} {n : Nat} {ac : ACode} {rs : List ARes} {ι : Type} {arg : ι → List DV} {Pre : ι → Prop} {R : ι → DV → Prop} (fok : FnOk P H f n ac rs) (ok : CallOk P H.glob cl) (fine : Fine cl)
    (same : ∀ i j, Pre i → Pre j → arg i = arg j → ∀ r, R i r → R j r) (hw : ∀ i, Pre i → awp cl ac (PostQ rs (R i)) ⟨argE 0 (dvArgs (arg i)), ⟨0, []⟩⟩) : ∃ G, PureFn P H.glob f G ∧ ∀ i, Pre i → ∃ r, G (arg i) = some r ∧ R i r := by
  obtain ⟨G, h1, h2⟩ := loose_ok fok ok fine (Pre := fun ds => ∃ i, Pre i ∧ arg i = ds) (R := fun ds r => ∃ i, Pre i ∧ arg i = ds ∧ R i r) (by
    rintro ds ⟨i, hp, rfl⟩
    obtain ⟨e, s, k1, k2⟩ := awp_det fine ac (hw i hp)
    refine k2 _ ?_
    cases e with
    | normal => obtain ⟨v, r, h1, h2, h3⟩ := k1; exact ⟨v, r, h1, h2, i, hp, rfl, h3⟩
    | ret => obtain ⟨v, r, h1, h2, h3⟩ := k1; exact ⟨v, r, h1, h2, i, hp, rfl, h3⟩
    | _ => exact k1.elim)
  refine ⟨G, h1, fun i hp => ?_⟩
  obtain ⟨r, e1, j, hj, e2, e3⟩ := h2 _ ⟨i, hp, rfl⟩
  exact ⟨r, e1, same j i hj hp e2 r e3⟩
theorem GoH {P R : Prop} (r : R) (h : R → P := by first | (intro hR; (first | (with_reducible first|apply Za|apply Zb|apply Zc|apply Zd|apply Ze|apply Zf|apply Zg|apply Zh|apply Zi|apply Zj|apply Zk|apply Zl|apply Zm|apply Zn|apply Zo|apply Zp|apply Zq|apply Zr|apply Zs|apply Zt|apply Zu)|(with_reducible refine Zv (by decide) ?_)|((with_reducible apply Zw);rfl)|((with_reducible apply Zx);rfl;decide)|((with_reducible apply Zy);rfl)|((with_reducible apply Zz);rfl)|((with_reducible apply ZA);rfl)); exact hR)) : P := h r
def gval (e : Env) : Option (Nat × Bool) → Option Bool
  | none => some true
  | some (g, want) => match getV e g with
    | .c (.d (.bool b)) => some (b == want)
    | .tup [] => some false
    | _ => none
def runOp (cl : Call) (o : AOp) (st : St) : Option (V × Hp) :=
  match o with
  | .hcall _ _ => none
  | .vcall f args => (match ev st.env f with
    | .c (.d (.fn g)) => (match cl.heap g, cl.pure g with
      | none, some G => (match toDVs st.hp (evs st.env args) with
        | some ds => (match G ds with
          | some r => (match r.toV with
            | some v => some (v, if r.flat then st.hp else ⟨st.hp.next, shedVs st.hp.obs (evs st.env args)⟩)
            | none => none)
          | none => none)
        | none => none)
      | _, _ => none)
    | _ => none)
  | o => eval cl st.env st.hp o
def runOps (cl : Call) : List AOper → St → Option St
  | [], st => some st
  | o :: r, st => match gval st.env o.guard with
    | some true => (match runOp cl o.op st with
      | some (v, h) => runOps cl r (st.put o.dst v h)
      | none => none)
    | some false => runOps cl r (st.put o.dst (.tup []) st.hp)
    | none => none
def once : List Nat → Env → Env
  | _, [] => []
  | seen, (t, v) :: r => if seen.contains t then once seen r else (t, v) :: once (t :: seen) r
def exec (cl : Call) : Nat → ACode → St → Option (Exit × St)
  | 0, _, _ => none
  | n + 1, c, st => match c with
    | .skip => some (.normal, st)
    | .region ops => (match runOps cl ops st with | some st' => some (.normal, st') | none => none)
    | .seq a b => (match exec cl n a st with
      | some (.normal, st') => exec cl n b st'
      | r => r)
    | .cond c x y => (match ev st.env c with
      | .c (.d (.bool true)) => exec cl n x st
      | .c (.d (.bool false)) => exec cl n y st
      | _ => none)
    | .block id b => (match exec cl n b st with
      | some (.exit i, st') => if i = id then some (.normal, st') else some (.exit i, st')
      | r => r)
    | .loop b => (match exec cl n b st with
      | some (.normal, st') => exec cl n (.loop b) ⟨once [] st'.env, st'.hp⟩
      | r => r)
    | .exit id => some (.exit id, st)
    | .goto l => some (.goto l, st)
    | .ret => some (.ret, st)
    | _ => none
theorem once_get (t : Nat) : ∀ (e : Env) (seen : List Nat), t ∉ seen → getV (once seen e) t = getV e t
  | [], _, _ => rfl
  | (k, v) :: r, seen, h => by
    unfold once
    by_cases hc : seen.contains k = true
    · rw [if_pos hc]
      have hk : k ∈ seen := by simpa using hc
      have hne : k ≠ t := fun e => h (e ▸ hk)
      rw [once_get t r seen h]
      simp [getV, hne]
    · rw [if_neg hc]
      by_cases hkt : k = t
      · simp [getV, hkt]
      · simp only [getV, hkt, if_false]
        exact once_get t r (k :: seen) (by simp [Ne.symm hkt, h])
theorem Le.trans {a b c : St} (h1 : Le a b) (h2 : Le b c) : Le a c :=
  ⟨fun t => by
    rcases h2.1 t with h | h
    · rw [h]; exact h1.1 t
    · exact .inr h, fun y o h => h1.2.1 y o (h2.2.1 y o h), Nat.le_trans h1.2.2 h2.2.2⟩
theorem weak_le {K : St → Prop} {a b : St} (h : Le a b) (k : weak K b) : weak K a := by
  obtain ⟨c, h2, k⟩ := k
  exact ⟨c, h.trans h2, k⟩
section
variable {cl : Call}
theorem runOp_wp {o : AOp} {st : St} {v : V} {h : Hp} (he : runOp cl o st = some (v, h)) {K : V → Hp → Prop} (hk : K v h) : opWp cl o st K := by
  cases o
  case hcall => cases he
  case vcall f args =>
    simp only [runOp] at he
    simp only [opWp, vcallWp]
    split at he
    · rename_i g hg
      rw [hg]
      simp only
      split at he
      · rename_i G h1 h2
        rw [h1, h2]
        simp only
        split at he
        · rename_i ds hd
          rw [hd]
          simp only [opt]
          split at he
          · rename_i r hr
            rw [hr]
            simp only
            split at he
            · rename_i v' hv
              rw [hv]
              cases he
              exact hk
            · cases he
          · cases he
        · cases he
      · cases he
    · cases he
  all_goals
    simp only [runOp] at he
    simp only [opWp, he, opt]
    exact hk
theorem runOps_wp : ∀ {ops : List AOper} {st st' : St}, runOps cl ops st = some st' → ∀ {K : St → Prop}, K st' → opsWp cl ops K st
  | [], st, st', h, K, hk => by cases h; exact hk
  | o :: r, st, st', h, K, hk => by
    unfold runOps at h
    have hw : ∀ (W : Bool → Prop) (b : Bool), gval st.env o.guard = some b → W b → wanted st.env o.guard W := by
      intro W b hg hW
      cases hgd : o.guard with
      | none => rw [hgd] at hg; cases hg; exact hW
      | some gw =>
        obtain ⟨g, want⟩ := gw
        rw [hgd] at hg
        simp only [gval] at hg
        simp only [wanted]
        split at hg
        · rename_i b' hb'
          rw [hb']
          cases hg
          refine ⟨fun e => ?_, fun e => ?_⟩
          · have : (b' == want) = true := by simpa using e
            rwa [this] at hW
          · have : (b' == want) = false := by simpa using e
            rwa [this] at hW
        · rename_i hb'
          rw [hb']
          cases hg
          exact hW
        · cases hg
    unfold opsWp
    split at h
    · rename_i hg
      split at h
      · rename_i v hp hr
        refine hw _ true hg ?_
        simp only [if_true]
        exact runOp_wp hr (runOps_wp h hk)
      · cases h
    · rename_i hg
      refine hw _ false hg ?_
      simp only [Bool.false_eq_true, if_false]
      exact runOps_wp h hk
    · cases h
theorem exec_wp : ∀ (n : Nat) (c : ACode) (st st' : St) (e : Exit), exec cl n c st = some (e, st') → ∀ {Q : Exit → St → Prop}, Q e st' → awp cl c Q st ∧ (∀ b, c = .loop b → loopP (awp cl b) Q n st)
  | 0, c, st, st', e, h, Q, hq => by cases h
  | n + 1, c, st, st', e, h, Q, hq => by
    have ih := exec_wp n
    cases c with
    | skip => cases h; exact ⟨hq, fun b hb => by cases hb⟩
    | region ops =>
      refine ⟨?_, fun b hb => by cases hb⟩
      simp only [exec] at h
      split at h
      · rename_i st1 hr
        cases h
        exact runOps_wp hr hq
      · cases h
    | dregion ops bef => simp only [exec] at h; cases h
    | seq x y =>
      refine ⟨?_, fun b hb => by cases hb⟩
      simp only [exec] at h
      simp only [awp]
      cases hx : exec cl n x st with
      | none => rw [hx] at h; cases h
      | some r =>
        obtain ⟨e1, st1⟩ := r
        rw [hx] at h
        cases e1 with
        | normal => exact (ih x st st1 _ hx (Zg (ih y st1 st' e h hq).1)).1
        | _ => cases h; exact (ih x st _ _ hx (Q := seqK (weak (awp cl y Q)) Q) hq).1
    | cond c x y =>
      refine ⟨?_, fun b hb => by cases hb⟩
      simp only [exec] at h
      simp only [awp, condWp]
      split at h
      · rename_i hb; rw [hb]; exact ⟨fun _ => (ih x st st' e h hq).1, fun hf => (nomatch hf)⟩
      · rename_i hb; rw [hb]; exact ⟨fun hf => (nomatch hf), fun _ => (ih y st st' e h hq).1⟩
      · cases h
    | block id b =>
      refine ⟨?_, fun b hb => by cases hb⟩
      simp only [exec] at h
      simp only [awp]
      cases hx : exec cl n b st with
      | none => rw [hx] at h; cases h
      | some r =>
        obtain ⟨e1, st1⟩ := r
        rw [hx] at h
        cases e1 with
        | exit i =>
          simp only at h
          refine (ih b st st1 _ hx ?_).1
          simp only [blkK]
          by_cases hi : i = id
          · rw [if_pos hi] at h ⊢; cases h; exact hq
          · rw [if_neg hi] at h ⊢; cases h; exact hq
        | _ => cases h; exact (ih b st _ _ hx (Q := blkK id Q) hq).1
    | loop b =>
      have key : loopP (awp cl b) Q (n + 1) st := by
        simp only [exec] at h
        cases hx : exec cl n b st with
        | none => rw [hx] at h; cases h
        | some r =>
          obtain ⟨e1, st1⟩ := r
          rw [hx] at h
          cases e1 with
          | normal =>
            have h2 := (ih _ _ _ _ h hq).2 b rfl
            refine Zg (ih b st st1 _ hx ?_).1
            show loopP (awp cl b) Q n st1
            cases n with
            | zero => exact h2.elim
            | succ n =>
              have hle : Le st1 ⟨once [] st1.env, st1.hp⟩ := ⟨fun t => .inl (once_get t st1.env [] (by simp)), fun _ _ h => h, Nat.le_refl _⟩
              exact weak_le hle h2
          | _ => cases h; exact Zg (ih b st _ _ hx (Q := seqK (loopP (awp cl b) Q n) Q) hq).1
      exact ⟨⟨n + 1, key⟩, fun b' hb => by cases hb; exact key⟩
    | exit id => cases h; exact ⟨hq, fun b hb => by cases hb⟩
    | goto l => cases h; exact ⟨hq, fun b hb => by cases hb⟩
    | jump l x r => simp only [exec] at h; cases h
    | ret => cases h; exact ⟨hq, fun b hb => by cases hb⟩
end
def memberD : List D :=
  [.int .i64 1, .str [9, 10, 13, 32], .int .i64 2, .str [97, 98, 99, 100, 101, 102, 103, 104, 105, 106, 107, 108, 109, 110, 111, 112, 113, 114, 115, 116, 117, 118, 119, 120, 121, 122],
   .int .i64 3, .str [65, 66, 67, 68, 69, 70, 71, 72, 73, 74, 75, 76, 77, 78, 79, 80, 81, 82, 83, 84, 85, 86, 87, 88, 89, 90, 95], .int .i64 4, .str [48, 49, 50, 51, 52, 53, 54, 55, 56, 57],
   .int .i64 5, .str [43, 45, 42, 47, 92, 94, 60, 62, 61, 126, 58, 46, 63, 64, 35, 38, 36, 33], .int .i64 6, .str [40, 41, 44, 124, 59, 91, 93, 123, 125], .int .i64 7, .str [39], .int .i64 8, .str [37]]
def glb (m : Int) : Nat → Option (List D) := fun g => if g = 0 then some memberD else if g = 1 then some [.int .i64 m] else none
def HP : List Nat := [42, 63, 80]
def startF (g : Nat) : Nat := if 1 ≤ g ∧ g ≤ 5 then 2 ^ g - 2 else 0
structure RowsOk (f : Nat → Nat) : Prop where
  lt : ∀ x, f x < 1024
  irr : ∀ x, (f x).testBit x = false
  trans : ∀ x y z, (f x).testBit y = true → (f y).testBit z = true → (f x).testBit z = true
theorem startF_bit : ∀ x y : Nat, (startF x).testBit y = decide (1 ≤ x ∧ x ≤ 5 ∧ 1 ≤ y ∧ y < x) := by
  intro x y
  by_cases hx : 1 ≤ x ∧ x ≤ 5
  · by_cases hy : y < 10
    · have : ∀ x < 6, ∀ y < 10, (startF x).testBit y = decide (1 ≤ x ∧ x ≤ 5 ∧ 1 ≤ y ∧ y < x) := by decide +kernel
      exact this x (by omega) y hy
    · have hl : startF x < 2 ^ y := by
        have h1 : startF x < 2 ^ 10 := by
          have : ∀ x < 6, startF x < 2 ^ 10 := by decide +kernel
          exact this x (by omega)
        exact Nat.lt_of_lt_of_le h1 (Nat.pow_le_pow_right (by omega) (by omega))
      rw [Nat.testBit_lt_two_pow hl]
      simp
      omega
  · unfold startF
    rw [if_neg hx, Nat.zero_testBit]
    simp
    omega
theorem start_ok : RowsOk startF := by
  refine ⟨fun x => ?_, fun x => ?_, fun x y z h1 h2 => ?_⟩
  · unfold startF
    split
    · rename_i h
      have : ∀ x < 6, 2 ^ x - 2 < 1024 := by decide +kernel
      exact this x (by omega)
    · omega
  · rw [startF_bit]; simp
  · rw [startF_bit] at *
    simp only [decide_eq_true_eq] at *
    omega
def rowsD (f : Nat → Int) : List D := [.int .i64 (f 0), .int .i64 (f 1), .int .i64 (f 2), .int .i64 (f 3), .int .i64 (f 4), .int .i64 (f 5), .int .i64 (f 6), .int .i64 (f 7), .int .i64 (f 8), .int .i64 (f 9)]
def rowsC (f : Nat → Int) : List C := (rowsD f).map .d
theorem ten {i : Nat} (h : i < 10) : i = 0 ∨ i = 1 ∨ i = 2 ∨ i = 3 ∨ i = 4 ∨ i = 5 ∨ i = 6 ∨ i = 7 ∨ i = 8 ∨ i = 9 := by omega
theorem rows_at (f : Nat → Int) {i : Nat} (h : i < 10) : sub (rowsC f) (i * 1) 1 = some [.d (.int .i64 (f i))] := by
  rcases ten h with rfl | rfl | rfl | rfl | rfl | rfl | rfl | rfl | rfl | rfl <;> rfl
theorem rows_ld (f : Nat → Int) {i : Nat} (h : i < 10) : mkV false (sub (rowsC f) (0 + i * 1) 1) = some (.c (.d (.int .i64 (f i)))) := by
  rw [Nat.zero_add, rows_at f h]
  rfl
theorem rowsD_eq {f f' : Nat → Int} (h : ∀ x, x < 10 → f x = f' x) : rowsD f = rowsD f' := by
  unfold rowsD
  rw [h 0 (by omega), h 1 (by omega), h 2 (by omega), h 3 (by omega), h 4 (by omega), h 5 (by omega), h 6 (by omega), h 7 (by omega), h 8 (by omega), h 9 (by omega)]
theorem rowsD_inj {f f' : Nat → Int} (h : rowsD f = rowsD f') : ∀ x, x < 10 → f x = f' x := by
  intro x hx
  simp only [rowsD, List.cons.injEq, D.int.injEq, true_and, and_true] at h
  rcases ten hx with rfl | rfl | rfl | rfl | rfl | rfl | rfl | rfl | rfl | rfl <;> omega
def bitI (x : Int) (h : Nat) : Bool := decide (x.fdiv (2 ^ h) % 2 = 1)
theorem and1_int (a : Int) : binInt .and .i64 a 1 = some (.int .i64 (a % 2)) := by
  have h1 : (BitVec.ofInt 64 (1 : Int)).toNat = 1 := by decide
  show some (D.int .i64 (IntKind.wrap .i64 (((BitVec.ofInt 64 a &&& BitVec.ofInt 64 (1 : Int)).toNat : Nat) : Int))) = _
  rw [BitVec.toNat_and, h1, Nat.and_one_is_mod, BitVec.toNat_ofInt]
  have e : (((a % ((2 ^ 64 : Nat) : Int)).toNat % 2 : Nat) : Int) = a % 2 := by
    have : ((2 ^ 64 : Nat) : Int) = 18446744073709551616 := by decide
    rw [this]
    omega
  rw [e, wrap64 (by omega) (by omega)]
theorem shr_int {a : Int} {h : Nat} (hh : h < 10) : shiftInt .shr .i64 a (h : Int) = some (.int .i64 (a.fdiv (2 ^ h))) := by
  rcases ten hh with rfl | rfl | rfl | rfl | rfl | rfl | rfl | rfl | rfl | rfl <;> rfl
section
variable {cl : Call} {env e : Env} {h : Hp} {x y : Opd} {d : Nat} {r : List AOper} {K : St → Prop} {nx : Nat} {ob : List (Nat × Ob)}
theorem ev_and1 {a : Int} (hx : ev e x = .c (.d (.int .i64 a))) (hy : ev e y = .c (.d (.int .i64 1))) : eval cl e h (.bin .and x y) = some (.c (.d (.int .i64 (a % 2))), h) := by
  simp only [eval, hx, hy, binV, binD, isShift, and1_int a]
  rfl
theorem ev_shr {k : IntKind} {a : Int} {b : Nat} (hx : ev e x = .c (.d (.int .i64 a))) (hy : ev e y = .c (.d (.int k (b : Int)))) (hb : b < 10) : eval cl e h (.bin .shr x y) = some (.c (.d (.int .i64 (a.fdiv (2 ^ b)))), h) := by
  simp only [eval, hx, hy, binV, binD, isShift, shr_int hb]
  rfl
theorem ev_arrn {k : IntKind} {z o i sz len : Nat} (hx : ev e x = .c (.ptr z o)) (hy : ev e y = .c (.d (.int k (i : Int)))) (hi : i < len) : eval cl e h (.arrAddr x y sz len) = some (.c (.ptr z (o + i * sz)), h) := by
  have h1 : (0 : Int) ≤ (i : Int) ∧ (i : Int) < ((len : Nat) : Int) := by omega
  simp only [eval, hy, asInt, if_pos h1, hx, Int.toNat_natCast]
end
open Classical in
noncomputable def fam {ι : Type} (arg : ι → List DV) (Pre : ι → Prop) (res : ι → DV) (ds : List DV) : Option DV := if h : ∃ i, Pre i ∧ arg i = ds then some (res (Classical.choose h)) else none
theorem fam_eq {ι : Type} {arg : ι → List DV} {Pre : ι → Prop} {res : ι → DV} (i : ι) (hp : Pre i) (inj : ∀ j, Pre j → arg j = arg i → res j = res i) : fam arg Pre res (arg i) = some (res i) := by
  have h : ∃ j, Pre j ∧ arg j = arg i := ⟨i, hp, rfl⟩
  unfold fam
  rw [dif_pos h]
  obtain ⟨h1, h2⟩ := Classical.choose_spec h
  rw [inj _ h1 h2]
theorem fam_ok {P : Program} {H : Hint} {cl : Call} {f : FuncId} {n : Nat} {ac : ACode} {rs : List ARes} {ι : Type} {arg : ι → List DV} {Pre : ι → Prop} {res : ι → DV} (fok : FnOk P H f n ac rs) (ok : CallOk P H.glob cl)
    (hw : ∀ i, Pre i → awp cl ac (PureQ rs (res i)) ⟨argE 0 (dvArgs (arg i)), ⟨0, []⟩⟩) : PureFn P H.glob f (fam arg Pre res) := by
  refine pure_fn fok ok (fun ds r h => ?_)
  unfold fam at h
  split at h
  · rename_i hx
    obtain ⟨h1, h2⟩ := Classical.choose_spec hx
    cases h
    have h3 := hw _ h1
    rw [h2] at h3
    exact h3
  · cases h
def resOf (st : St) (rs : List ARes) : Option DV := match resV st rs with | some v => v.toDVt st.hp | none => none
def runD (cl : Call) (n : Nat) (c : ACode) (rs : List ARes) (st : St) : Option DV := match exec cl n c st with
  | some (.ret, st') => resOf st' rs
  | some (.normal, st') => resOf st' rs
  | _ => none
theorem resOf_q {st : St} {rs : List ARes} {r : DV} (h : resOf st rs = some r) : ∃ v, resV st rs = some v ∧ v.toDVt st.hp = some r := by
  unfold resOf at h
  split at h
  · rename_i v hv; exact ⟨v, hv, h⟩
  · cases h
theorem run_pure {cl : Call} {n : Nat} {c : ACode} {rs : List ARes} {st : St} {r : DV} (h : runD cl n c rs st = some r) : awp cl c (PureQ rs r) st := by
  unfold runD at h
  split at h
  · rename_i st' he; exact (exec_wp n c st st' _ he (resOf_q h)).1
  · rename_i st' he; exact (exec_wp n c st st' _ he (resOf_q h)).1
  · cases h
end Go.Am
