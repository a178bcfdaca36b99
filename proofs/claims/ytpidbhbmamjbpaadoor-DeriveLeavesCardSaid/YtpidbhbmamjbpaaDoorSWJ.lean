/-
  DeriveLeaves: the law's function.
-/
import Derived.Test.YtpidbhbmamjbpaaDoorSWI
namespace Go.Am
open Go
theorem ev_sameA {cl : Call} {env : Env} {h : Hp} {x y : Opd} {ks : List Nat} {cs : List C} {ds : List D} (hx : ev env x = .agg cs) (hy : ev env y = .agg cs) (hd : flatDs cs = some ds) (hs : sameFs ks ds ds = some true) : eval cl env h (.eqA false ks x y) = some (.c (.d (.bool true)), h) := by
  simp only [eval, hx, hy, hd, hs]
def lvN (s : List UInt8) : List D := [.int .i64 1, .str s, .int .i64 0, .int .i64 1, .int .i64 0]
theorem same_leaf (s : List UInt8) : sameFs [0, 1, 0, 0, 0] (lvN s) (lvN s) = some true := by simp [sameFs, sameF, lvN]
def lvC (b : Bool) (n : Int) (sz : Nat) (E : List (List D)) (s : List UInt8) : Prop := (b = true ∧ n = 1 ∧ sz = 5 ∧ E = [lvN s]) ∨ (b = false ∧ n = 0 ∧ sz = 0 ∧ E = [])
noncomputable def cl303 : Call := tbl [(6, G310), (7, T311), (8, T312)]
set_option maxRecDepth 8000 in
set_option maxHeartbeats 4000000 in
theorem w303c {b : Bool} {n k a c e : Int} {sz nx : Nat} {E : List (List D)} {s : List UInt8} {ob : List (Nat × Ob)} (hc : lvC b n sz E s) (h0 : look ob 0 = some (.cells [.d (.int .i64 k), .d (.int .i64 a), .d (.int .i64 c), .d (.str s), .d (.int .i64 e)])) :
    awp cl303 (c303r.tail 8) (PureQ [.t 2] (.c (.bool true))) ⟨[(1, .c (.ptr 0 0)), (3, .c (.d (.bool true))), (5, .c (.d (.int .i64 n))), (6, .c (.d (.list sz E))), (7, .c (.d (.int .i64 0))), (10, .c (.d (.bool b)))], ⟨nx, ob⟩⟩ := by
  unfold c303r
  dsimp only [ACode.tail]
  have hsm := same_leaf s
  unfold lvC lvN at hc
  unfold lvN at hsm
  rcases hc with ⟨rfl, rfl, rfl, rfl⟩ | ⟨rfl, rfl, rfl, rfl⟩
  · repeat' first
      | refine GoH ?_
      | (with_reducible first | apply ZS | apply ZT)
      | refine ZY (ev_load rfl h0 rfl) (by (repeat' first|exact True.intro|refine ⟨?_, ?_⟩|exact .inl rfl|exact .inr (.inl rfl)|exact .inr (.inr rfl)|rfl)) ?_
      | refine ZY (ev_sameA rfl rfl rfl hsm) (by (repeat' first|exact True.intro|refine ⟨?_, ?_⟩|exact .inl rfl|exact .inr (.inl rfl)|exact .inr (.inr rfl)|rfl)) ?_
      | (with_reducible first|apply ZS|apply ZT)|((with_reducible apply ZU);rfl)|((with_reducible apply ZV);rfl;decide)|((with_reducible apply ZW);rfl)|refine ZX rfl rfl ?_|refine ZY rfl (by (repeat' first|exact True.intro|refine ⟨?_, ?_⟩|exact .inl rfl|exact .inr (.inl rfl)|exact .inr (.inr rfl)|rfl)) ?_
      | refine ZB rfl ?_|refine ZC rfl ?_
    exact ⟨_, rfl, rfl⟩
  · repeat' first | refine GoH ?_ | refine ZB rfl ?_|refine ZC rfl ?_
    exact ⟨_, rfl, rfl⟩
def lvPart1 (s : List UInt8) : Prop := s = [43] ∨ s = [105, 102] ∨ s = [116, 104, 101, 110] ∨ s = [91] ∨ s = [93]
theorem lvPart_iff (s : List UInt8) : lvPart s = true ↔ lvPart1 s := by
  unfold lvPart lvPart1
  simp [or_assoc]
set_option maxRecDepth 8000 in
set_option maxHeartbeats 4000000 in
theorem w303b {n k a c e : Int} {sz nx : Nat} {E : List (List D)} {s : List UInt8} {ob : List (Nat × Ob)} (hc : lvC (memI [3, 4, 5] k || (memI [1, 2] k && !lvPart s)) n sz E s) (h0 : look ob 0 = some (.cells [.d (.int .i64 k), .d (.int .i64 a), .d (.int .i64 c), .d (.str s), .d (.int .i64 e)])) :
    awp cl303 (c303r.tail 7) (PureQ [.t 2] (.c (.bool true))) ⟨[(1, .c (.ptr 0 0)), (3, .c (.d (.bool true))), (5, .c (.d (.int .i64 n))), (6, .c (.d (.list sz E))), (7, .c (.d (.int .i64 0))), (9, .c (.d (.bool (lvPart s))))], ⟨nx, ob⟩⟩ := by
  have tl := fun b (hb : lvC b n sz E s) => w303c (nx := nx) hb h0
  generalize lvPart s = p at *
  unfold c303r at *
  dsimp only [ACode.tail] at *
  by_cases k3 : k = 3
  · subst k3
    have hc : lvC true n sz E s := hc
    repeat' first
      | ((with_reducible apply weak_keep [1, 3, 5, 6, 7, 10]); rfl; exact tl _ hc)
      | refine GoH ?_
      | refine ZB (ev_load rfl h0 rfl) ?_
      | refine ZB rfl ?_|refine ZC rfl ?_
  by_cases k4 : k = 4
  · subst k4
    have hc : lvC true n sz E s := hc
    repeat' first
      | ((with_reducible apply weak_keep [1, 3, 5, 6, 7, 10]); rfl; exact tl _ hc)
      | refine GoH ?_
      | refine ZB (ev_load rfl h0 rfl) ?_
      | refine ZB rfl ?_|refine ZC rfl ?_
  by_cases k5 : k = 5
  · subst k5
    have hc : lvC true n sz E s := hc
    repeat' first
      | ((with_reducible apply weak_keep [1, 3, 5, 6, 7, 10]); rfl; exact tl _ hc)
      | refine GoH ?_
      | refine ZB (ev_load rfl h0 rfl) ?_
      | refine ZB rfl ?_|refine ZC rfl ?_
  by_cases k1 : k = 1
  · subst k1
    have hc : lvC (!p) n sz E s := hc
    repeat' first
      | ((with_reducible apply weak_keep [1, 3, 5, 6, 7, 10]); rfl; exact tl _ hc)
      | refine GoH ?_
      | refine ZB (ev_load rfl h0 rfl) ?_
      | refine ZB rfl ?_|refine ZC rfl ?_
  by_cases k2 : k = 2
  · subst k2
    have hc : lvC (!p) n sz E s := hc
    repeat' first
      | ((with_reducible apply weak_keep [1, 3, 5, 6, 7, 10]); rfl; exact tl _ hc)
      | refine GoH ?_
      | refine ZB (ev_load rfl h0 rfl) ?_
      | refine ZB rfl ?_|refine ZC rfl ?_
  have e1 : memI [3, 4, 5] k = false := by simp [memI, idxI, k3, k4, k5]
  have e2 : memI [1, 2] k = false := by simp [memI, idxI, k1, k2]
  rw [e1, e2] at hc
  have hc : lvC false n sz E s := hc
  repeat' first
    | ((with_reducible apply weak_keep [1, 3, 5, 6, 7, 10]); rfl; exact tl _ hc)
    | refine GoH ?_
    | refine ZB (ev_load rfl h0 rfl) ?_
    | refine ZB (ev_eql_f rfl rfl k3) ?_
    | refine ZB (ev_eql_f rfl rfl k4) ?_
    | refine ZB (ev_eql_f rfl rfl k5) ?_
    | refine ZB (ev_eql_f rfl rfl k1) ?_
    | refine ZB (ev_eql_f rfl rfl k2) ?_
    | refine ZB rfl ?_|refine ZC rfl ?_
set_option maxRecDepth 8000 in
set_option maxHeartbeats 4000000 in
theorem w303a {n k a c e : Int} {sz nx : Nat} {E : List (List D)} {s : List UInt8} {ob : List (Nat × Ob)} (hc : lvC (memI [3, 4, 5] k || (memI [1, 2] k && !lvPart s)) n sz E s) (h0 : look ob 0 = some (.cells [.d (.int .i64 k), .d (.int .i64 a), .d (.int .i64 c), .d (.str s), .d (.int .i64 e)])) :
    awp cl303 (c303r.tail 6) (PureQ [.t 2] (.c (.bool true))) ⟨[(1, .c (.ptr 0 0)), (3, .c (.d (.bool true))), (5, .c (.d (.int .i64 n))), (6, .c (.d (.list sz E))), (7, .c (.d (.int .i64 0)))], ⟨nx, ob⟩⟩ := by
  have tl := w303b (nx := nx) hc h0
  clear hc
  have hs : (s = [43] ∨ s = [105, 102] ∨ s = [116, 104, 101, 110] ∨ s = [91] ∨ s = [93]) ∨ ¬ (s = [43] ∨ s = [105, 102] ∨ s = [116, 104, 101, 110] ∨ s = [91] ∨ s = [93]) := Classical.em _
  unfold c303r at *
  dsimp only [ACode.tail] at *
  rcases hs with (rfl | rfl | rfl | rfl | rfl) | hs
  · repeat' first
      | ((with_reducible apply weak_keep [1, 3, 5, 6, 7, 9]); rfl; exact tl)
      | refine GoH ?_
      | refine ZB (ev_load rfl h0 rfl) ?_
      | refine ZB rfl ?_|refine ZC rfl ?_
  · repeat' first
      | ((with_reducible apply weak_keep [1, 3, 5, 6, 7, 9]); rfl; exact tl)
      | refine GoH ?_
      | refine ZB (ev_load rfl h0 rfl) ?_
      | refine ZB rfl ?_|refine ZC rfl ?_
  · repeat' first
      | ((with_reducible apply weak_keep [1, 3, 5, 6, 7, 9]); rfl; exact tl)
      | refine GoH ?_
      | refine ZB (ev_load rfl h0 rfl) ?_
      | refine ZB rfl ?_|refine ZC rfl ?_
  · repeat' first
      | ((with_reducible apply weak_keep [1, 3, 5, 6, 7, 9]); rfl; exact tl)
      | refine GoH ?_
      | refine ZB (ev_load rfl h0 rfl) ?_
      | refine ZB rfl ?_|refine ZC rfl ?_
  · repeat' first
      | ((with_reducible apply weak_keep [1, 3, 5, 6, 7, 9]); rfl; exact tl)
      | refine GoH ?_
      | refine ZB (ev_load rfl h0 rfl) ?_
      | refine ZB rfl ?_|refine ZC rfl ?_
  · have hp : lvPart s = false := by
      rw [Bool.eq_false_iff]
      intro h
      exact hs ((lvPart_iff s).1 h)
    rw [hp] at tl
    simp only [not_or] at hs
    obtain ⟨s1, s2, s3, s4, s5⟩ := hs
    repeat' first
      | ((with_reducible apply weak_keep [1, 3, 5, 6, 7, 9]); rfl; exact tl)
      | refine GoH ?_
      | refine ZB (ev_load rfl h0 rfl) ?_
      | refine ZB (ev_eqs_f rfl rfl s1) ?_
      | refine ZB (ev_eqs_f rfl rfl s2) ?_
      | refine ZB (ev_eqs_f rfl rfl s3) ?_
      | refine ZB (ev_eqs_f rfl rfl s4) ?_
      | refine ZB (ev_eqs_f rfl rfl s5) ?_
      | refine ZB rfl ?_|refine ZC rfl ?_
noncomputable def T303 : List DV → Option DV := fam (fun x : Tk5 => [.agg (tkD x)]) (fun x => x.s.length ≤ 9223372036854775807) (fun _ => .c (.bool true))
theorem T303_eq {x : Tk5} (h : x.s.length ≤ 9223372036854775807) : T303 [.agg (tkD x)] = some (.c (.bool true)) := by
  refine fam_eq (ι := Tk5) x h ?_
  intro _ _ _
  rfl
set_option maxRecDepth 8000 in
set_option maxHeartbeats 8000000 in
theorem w303 (x : Tk5) (hx : x.s.length ≤ 9223372036854775807) : awp cl303 c303r (PureQ [.t 2] (.c (.bool true))) ⟨argE 0 (dvArgs [.agg (tkD x)]), ⟨0, []⟩⟩ := by
  obtain ⟨k, a, c, s, e⟩ := x
  simp only at hx
  have h310 : G310 [] = some (.c (.bool true)) := rfl
  have h311 := T311_eq (sz := 3) (L := lvL) (by decide)
  rw [lv_add] at h311
  generalize hm : (if (20 : Int) < (s.length : Nat) then (20 : Int) else (s.length : Nat)) = m
  have m0 : 0 ≤ m := by split at hm <;> omega
  have m1 : m ≤ (s.length : Nat) := by split at hm <;> omega
  generalize hs' : (s.take m.toNat).drop (0 : Int).toNat = s'
  have hcnt := lv_cnt ⟨k, a, c, s', e⟩ 3 5
  have hcn := T312_eq (esz := 3) (tsz := 0) (ops := lvE) (f := liftF startF) (toks := []) ⟨by decide, by decide⟩
  rw [cnt_none] at hcn
  obtain ⟨n, sz, E, hr, hc⟩ : ∃ n sz E, (if lvAlone ⟨k, a, c, s', e⟩ = true then DV.tup [.c (.int .i64 1), .c (.list 5 [ndD ⟨1, s', 0, 1, 0⟩])] else .tup [.c (.int .i64 0), .c (.list 0 [])]) = .tup [.c (.int .i64 n), .c (.list sz E)] ∧ lvC (lvAlone ⟨k, a, c, s', e⟩) n sz E s' := by
    cases lvAlone ⟨k, a, c, s', e⟩
    · exact ⟨0, 0, [], rfl, .inr ⟨rfl, rfl, rfl, rfl⟩⟩
    · exact ⟨1, 5, [lvN s'], rfl, .inl ⟨rfl, rfl, rfl, rfl⟩⟩
  rw [hr] at hcnt
  clear hr
  have tl := fun nx ob => w303a (nx := nx) (ob := ob) (k := k) (a := a) (c := c) (e := e) hc
  clear hc
  unfold cl303 at *
  unfold envD zs lvE lvL at *
  simp only [tkD] at h311 hcnt
  unfold c303r at *
  dsimp only [ACode.tail] at *
  repeat' first
    | ((with_reducible apply weak_keep [1, 3, 5, 6, 7]); rfl; exact tl _ _ rfl)
    | refine GoH ?_
    | ((with_reducible apply Z1 (f := 6));rfl;rfl;rfl;exact h310;rfl)
    | ((with_reducible apply Z1 (f := 7));rfl;rfl;rfl;exact h311;rfl)
    | ((with_reducible apply Z1 (f := 8));rfl;rfl;rfl;exact hcnt;rfl)
    | ((with_reducible apply Z1 (f := 8));rfl;rfl;rfl;exact hcn;rfl)
    | refine ZB ((ev_min rfl rfl).trans (by rw [hm])) ?_
    | refine ZB ((ev_sub_s rfl rfl rfl (by omega) m0 m1).trans (by rw [hs'])) ?_
    | refine ZB rfl ?_|refine ZC rfl ?_
theorem deriveLeaves_ok (m : Int) : PureFn Go.Proofs.Tryd.prog (glb m) 4 T303 := fam_ok (fn303r m) (callOk_cons (pok310 m) (callOk_cons (pok311 (p42E m)) (callOk_cons (pok312 m) (callOk_nil _ _)))) w303
end Go.Am
