/-
  ShapeBack: the law's function comes to true, whatever it is given.
-/
import Derived.Test.YtgbefhljbdjncaaDoorProg
import Derived.Shelf.Strings.OnBuilder
import Derived.Test.YtgbefhljbdjncaaDoorMJ
import Derived.Test.YtgbefhljbdjncaaDoorMY
namespace Go.Proofs
open Go.Shelf
def Tryd.lays156_ren : Go.Shelf.Ren := ⟨fun | 156 => 59 | 165 => 75 | 166 => 76 | 169 => 77 | 240 => 88 | 241 => 89 | 276 => 105 | 277 => 106 | n => n, fun | 31 => 24 | 9 => 9 | 3 => 3 | 4 => 4 | 0 => 0 | 20 => 20 | 72 => 113 | 76 => 117 | 70 => 111 | 37 => 63 | 75 => 116 | 127 => 134 | 164 => 145 | 5 => 5 | 80 => 119 | n => n, fun | n => n⟩
theorem Tryd.lays156 : Go.Proofs.Lays.n156 Tryd.prog Tryd.lays156_ren := {
  mixed := by kernel_rfl
  f156 := Tryd.func59.trans (congrArg some (by kernel_rfl))
  f165 := Tryd.func75.trans (congrArg some (by kernel_rfl))
  f166 := Tryd.func76.trans (congrArg some (by kernel_rfl))
  f169 := Tryd.func77.trans (congrArg some (by kernel_rfl))
  f240 := Tryd.func88.trans (congrArg some (by kernel_rfl))
  f241 := Tryd.func89.trans (congrArg some (by kernel_rfl))
  f276 := Tryd.func105.trans (congrArg some (by kernel_rfl))
  f277 := Tryd.func106.trans (congrArg some (by kernel_rfl))
  t0 := Tryd.underlying0
  a0 := Tryd.isAgg0
  z0 := Tryd.sizeOf0
  v0 := Tryd.zeroValue0
  t3 := Tryd.underlying3
  a3 := Tryd.isAgg3
  z3 := Tryd.sizeOf3
  v3 := Tryd.zeroValue3
  t4 := Tryd.underlying4
  a4 := Tryd.isAgg4
  z4 := Tryd.sizeOf4
  v4 := Tryd.zeroValue4
  t9 := Tryd.underlying9
  a9 := Tryd.isAgg9
  z9 := Tryd.sizeOf9
  v9 := Tryd.zeroValue9
  t20 := Tryd.underlying20
  a20 := Tryd.isAgg20
  z20 := Tryd.sizeOf20
  v20 := Tryd.zeroValue20
  t31 := Tryd.underlying24
  a31 := Tryd.isAgg24
  z31 := Tryd.sizeOf24
  v31 := Tryd.zeroValue24
  t37 := Tryd.underlying63
  a37 := Tryd.isAgg63
  z37 := Tryd.sizeOf63
  v37 := Tryd.zeroValue63
  t70 := Tryd.underlying111
  a70 := Tryd.isAgg111
  z70 := Tryd.sizeOf111
  v70 := Tryd.zeroValue111
  t72 := Tryd.underlying113
  a72 := Tryd.isAgg113
  z72 := Tryd.sizeOf113
  v72 := Tryd.zeroValue113
  t75 := Tryd.underlying116
  a75 := Tryd.isAgg116
  z75 := Tryd.sizeOf116
  v75 := Tryd.zeroValue116
  t76 := Tryd.underlying117
  a76 := Tryd.isAgg117
  z76 := Tryd.sizeOf117
  v76 := Tryd.zeroValue117
  t127 := Tryd.underlying134
  a127 := Tryd.isAgg134
  z127 := Tryd.sizeOf134
  v127 := Tryd.zeroValue134
  t164 := Tryd.underlying145
  a164 := Tryd.isAgg145
  z164 := Tryd.sizeOf145
  v164 := Tryd.zeroValue145 }
theorem Tryd.extra156 : Builder.Extra Tryd.prog Tryd.lays156_ren :=
  ⟨⟨by kernel_rfl, by kernel_rfl⟩, Tryd.underlying5, Tryd.isAgg5, Tryd.sizeOf5, Tryd.zeroValue5, by kernel_rfl, by kernel_rfl, by kernel_rfl, by decide⟩
end Go.Proofs
namespace Go.Am
open Go
def joinOf (ss : List (List UInt8)) (sep : List UInt8) : List UInt8 := Lib.join ss sep
/-- What may be joined: not too long. -/
def joinOk (ss : List (List UInt8)) (sep : List UInt8) : Bool := decide (ss.length ≤ room) && decide ((joinOf ss sep).length ≤ room)
def G59 : List DV → Option DV
  | [.c (.list sz l), .c (.str sep)] => match strsOf l with
    | some ss => if (sz = 1 ∨ ss = []) ∧ joinOk ss sep = true then some (.c (.str (joinOf ss sep))) else none
    | none => none
  | _ => none
theorem kept_below {w w' : World} (h : RowKit.Below w.heap.size w w') : Kept (fun _ => False) w w' := ⟨h.os, h.tape, h.output, h.size, fun b hb _ => h.block b hb⟩
theorem map_data : ∀ ss : List (List UInt8), (ss.map fun s => (⟨⟨s⟩⟩ : ByteArray)).map (fun x => x.data.toList) = ss
  | [] => rfl
  | s :: r => by simp only [List.map_cons, map_data r]
theorem ofStrs_flat : ∀ ss : List (List UInt8), (ofStrs ss).flatten = ss.map D.str
  | [] => rfl
  | s :: r => by
    have := ofStrs_flat r
    show ([D.str s] :: ofStrs r).flatten = _
    simp only [List.flatten_cons, this]
    rfl
theorem pok59 (m : Int) : PureOk Go.Proofs.Tryd.prog (glb m) 59 G59 := by
  refine .inl ⟨enters_of (fn := Go.Proofs.Tryd.f59) (c := (Go.Proofs.Tryd.f59.body).getD .skip) (by kernel_rfl) (by kernel_rfl) (by kernel_rfl), ?_⟩
  intro w A ds vs r hgl hA hds hG
  unfold G59 at hG
  split at hG
  · rename_i sz l sep
    split at hG
    · rename_i ss hss
      split at hG
      · rename_i hok
        cases hG
        obtain ⟨hsz, hok⟩ := hok
        obtain rfl := strsOf_get hss
        simp only [joinOk, Bool.and_eq_true, decide_eq_true_eq] at hok
        obtain ⟨hl1, hl2⟩ := hok
        unfold room at hl1 hl2
        obtain ⟨u, v, rfl, h1, h2⟩ := ds_two hds
        obtain rfl := repdv_str h2
        cases h1 with
        | c _ _ h1 =>
          generalize hl : ofStrs ss = l at h1
          cases h1 with
          | nil _ a c =>
            have : ss = [] := by cases ss with | nil => rfl | cons b r => cases hl
            subst this
            refine Calls.mono (Go.Proofs.Any.strings_Join_none Go.Proofs.Tryd.lays156 Go.Proofs.Tryd.extra156 a c ⟨⟨sep⟩⟩ w) ?_
            rintro e w' ⟨rfl, rfl⟩
            exact ⟨Kept.refl _ _, .c _ _ (.str _)⟩
          | list _ _ b off c us hpos hz' hse hc hnA hcell hrepd =>
            have hlen : l.length = ss.length := by rw [← hl]; exact ofStrs_len ss
            have hne : ss ≠ [] := by intro e; rw [e] at hlen; simp only [List.length_nil] at hlen; omega
            have hs1 : sz = 1 := hsz.resolve_right hne
            subst hs1
            rw [hlen]
            have hx : ∀ (j : Nat) x, (ss.map fun s => (⟨⟨s⟩⟩ : ByteArray))[j]? = some x → w.cell? ⟨b, off + j, none⟩ = some (.string x) := by
              intro j x hj
              rw [List.getElem?_map] at hj
              cases hsj : ss[j]? with
              | none => rw [hsj] at hj; cases hj
              | some s =>
                rw [hsj] at hj
                cases hj
                have hjl : j < ss.length := (List.getElem?_eq_some_iff.1 hsj).1
                have e1 : cellAt w b (off + j) = some (us j) := hcell j (by omega)
                have e2 : l.flatten[j]? = some (.str s) := by rw [← hl, ofStrs_flat, List.getElem?_map, hsj]; rfl
                have e3 := hrepd j _ e2
                have e4 : us j = .string ⟨⟨s⟩⟩ := by
                  generalize us j = z at e3
                  cases e3
                  rfl
                rw [← e4]
                exact e1
            have hb : b < w.heap.size := by
              have := hcell 0 (by omega)
              exact cellAt_lt this
            have key := Go.Proofs.Any.strings_Join Go.Proofs.Tryd.lays156 Go.Proofs.Tryd.extra156 b off c (ss.map fun s => (⟨⟨s⟩⟩ : ByteArray)) ⟨⟨sep⟩⟩ w hx hb (by simp; omega) (by simp; omega)
              (by rw [map_data]; have : (joinOf ss sep).length ≤ 140737488355328 := by omega
                  exact this)
            rw [List.length_map] at key
            refine Calls.mono key ?_
            rintro e w' ⟨rfl, hbel⟩
            refine ⟨kept_below hbel, .c _ _ ?_⟩
            rw [map_data]
            exact .str _
      · cases hG
    · cases hG
  · cases hG

def G58 : List DV → Option DV
  | [.c (.bool b)] => some (.c (.str (if b then [95] else [])))
  | _ => none
theorem w58 (ds : List DV) (r : DV) (h : G58 ds = some r) : awp (tbl []) c58 (PureQ [.t 2] r) ⟨argE 0 (dvArgs ds), ⟨0, []⟩⟩ := by
  unfold G58 at h
  split at h
  · rename_i b
    cases h
    unfold c58
    cases b <;> (repeat' first |  with_reducible refine awp_seq ?_ | with_reducible refine awp_region ?_ | with_reducible refine ops_nil ?_ | with_reducible refine seqK_n ?_ | with_reducible refine seqK_r ?_ | with_reducible refine seqK_e ?_ | with_reducible refine weak_id ?_ | with_reducible refine awp_ret ?_ | with_reducible refine awp_skip ?_ | with_reducible refine awp_exit ?_ | with_reducible refine awp_block ?_ | with_reducible refine blkK_n ?_ | with_reducible refine blkK_r ?_ | with_reducible refine blkK_e ?_ | with_reducible refine awp_goto ?_ | with_reducible refine jmpK_n ?_ | with_reducible refine jmpK_r ?_ | with_reducible refine jmpK_e ?_ | with_reducible refine jmpK_g ?_ | with_reducible refine seqK_g ?_ | with_reducible refine blkK_g ?_ | (with_reducible refine blkK_o (by decide) ?_) | ((with_reducible apply step_go); rfl) | ((with_reducible apply step_skip); rfl; decide) | ((with_reducible apply step_skip_u); rfl) | ((with_reducible apply awp_cond_t); rfl) | ((with_reducible apply awp_cond_f); rfl) | refine step_op rfl ?_ | refine step_op0 rfl ?_) <;> exact ⟨_, rfl, rfl⟩
  · cases h
theorem pok58 (m : Int) : PureOk Go.Proofs.Tryd.prog (glb m) 58 G58 := pure_ok (fn58 m) (callOk_nil _ _) w58
/-- A shape's pattern. -/
def textOf (v : SV) : List UInt8 := (if v.left then [95] else []) ++ joinOf v.parts [95] ++ (if v.right then [95] else [])
def G34 : List DV → Option DV
  | [.agg [.list sz l, .bool a, .bool b]] => match strsOf l with
    | some ss => if (sz = 1 ∨ ss = []) ∧ joinOk ss [95] = true then some (.c (.str (textOf ⟨ss, a, b⟩))) else none
    | none => none
  | _ => none
theorem evalR_vfn {cl : Call} {e : Env} {h : Hp} {f : Opd} {g : Nat} {args : List Opd} {G : List DV → Option DV} {ds : List DV} {q : DV} {v : V} (hx : ev e f = .c (.d (.fn g))) (hh : cl.heap g = none) (hp : cl.pure g = some G) (hd : toDVs h (evs e args) = some ds) (hG : G ds = some q) (hv : q.toV = some v) (hf : q.flat = true) :
    evalR cl e h (.vcall f args) v h := by
  unfold evalR
  simp only [opWp]
  rw [hx]
  exact vcall_pure hh hp hd hG hv hf ⟨rfl, rfl⟩
set_option maxRecDepth 8000 in
set_option maxHeartbeats 2000000 in
theorem w34 (ds : List DV) (r : DV) (h : G34 ds = some r) : awp (tbl [(58, G58), (59, G59)]) c34 (PureQ [.t 2] r) ⟨argE 0 (dvArgs ds), ⟨0, []⟩⟩ := by
  unfold G34 at h
  split at h
  · rename_i sz l a b
    split at h
    · rename_i ss hss
      split at h
      · rename_i hok
        cases h
        have h59 : G59 [.c (.list sz l), .c (.str [95])] = some (.c (.str (joinOf ss [95]))) := by simp only [G59, hss, if_pos hok]
        have h58a : G58 [.c (.bool a)] = some (.c (.str (if a then [95] else []))) := rfl
        have h58b : G58 [.c (.bool b)] = some (.c (.str (if b then [95] else []))) := rfl
        have hl : (joinOf ss [95]).length ≤ 2147483648 := by
          have := hok.2
          simp only [joinOk, Bool.and_eq_true, decide_eq_true_eq] at this
          exact this.2
        have hla : (if a = true then [95] else ([] : List UInt8)).length ≤ 1 := by split <;> simp
        have hlb : (if b = true then [95] else ([] : List UInt8)).length ≤ 1 := by split <;> simp
        unfold c34
        repeat' first
          |  with_reducible refine awp_seq ?_ | with_reducible refine awp_region ?_ | with_reducible refine ops_nil ?_ | with_reducible refine seqK_n ?_ | with_reducible refine seqK_r ?_ | with_reducible refine seqK_e ?_ | with_reducible refine weak_id ?_ | with_reducible refine awp_ret ?_ | with_reducible refine awp_skip ?_ | with_reducible refine awp_exit ?_ | with_reducible refine awp_block ?_ | with_reducible refine blkK_n ?_ | with_reducible refine blkK_r ?_ | with_reducible refine blkK_e ?_ | with_reducible refine awp_goto ?_ | with_reducible refine jmpK_n ?_ | with_reducible refine jmpK_r ?_ | with_reducible refine jmpK_e ?_ | with_reducible refine jmpK_g ?_ | with_reducible refine seqK_g ?_ | with_reducible refine blkK_g ?_ | (with_reducible refine blkK_o (by decide) ?_) | ((with_reducible apply step_go); rfl) | ((with_reducible apply step_skip); rfl; decide) | ((with_reducible apply step_skip_u); rfl) | ((with_reducible apply awp_cond_t); rfl) | ((with_reducible apply awp_cond_f); rfl) | refine step_op rfl ?_ | refine step_op0 rfl ?_
          | with_reducible refine awp_dregion ?_
          | refine dstep_i rfl (ev_adds rfl rfl (by first | omega | (simp only [List.length_append]; omega))) ?_
          | refine dstep_q (ev_pcall rfl rfl h59 rfl rfl) (by (repeat' first | exact True.intro | refine ⟨?_, ?_⟩ | exact .inl rfl | exact .inr (.inl rfl) | exact .inr (.inr rfl) | rfl)) ?_
          | refine dstep_w (evalR_vfn rfl rfl rfl rfl h58a rfl rfl) (by (repeat' first | exact True.intro | refine ⟨?_, ?_⟩ | exact .inl rfl | exact .inr (.inl rfl) | exact .inr (.inr rfl) | rfl)) ?_
          | refine dstep_w (evalR_vfn rfl rfl rfl rfl h58b rfl rfl) (by (repeat' first | exact True.intro | refine ⟨?_, ?_⟩ | exact .inl rfl | exact .inr (.inl rfl) | exact .inr (.inr rfl) | rfl)) ?_
          | with_reducible refine awp_dregion ?_ | with_reducible refine dops_nil ?_ | ((with_reducible apply dstep_go); rfl) | ((with_reducible apply dstep_skip); rfl; decide) | ((with_reducible apply dstep_skip_u); rfl) | refine dstep_i rfl rfl ?_ | refine dstep_q rfl (by (repeat' first | exact True.intro | refine ⟨?_, ?_⟩ | exact .inl rfl | exact .inr (.inl rfl) | exact .inr (.inr rfl) | rfl)) ?_
        exact ⟨_, rfl, rfl⟩
      · cases h
    · cases h
  · cases h
theorem pok34 (m : Int) : PureOk Go.Proofs.Tryd.prog (glb m) 34 G34 := pure_ok (fn34 m) (callOk_cons (pok58 m) (callOk_cons (pok59 m) (callOk_nil _ _))) w34
end Go.Am
namespace Go.Am
open Go
/-! ### Plain laws: texts of shapes -/
theorem join_cons2 (x y : List UInt8) (r : List (List UInt8)) : joinOf (x :: y :: r) [95] = x ++ 95 :: joinOf (y :: r) [95] := by
  simp [joinOf, Lib.join, List.intercalate, List.intersperse]
theorem join_single (x : List UInt8) : joinOf [x] [95] = x := by
  simp [joinOf, Lib.join, List.intercalate, List.intersperse]
theorem join_cut : ∀ s : List UInt8, joinOf (cutU 95 s) [95] = s
  | [] => by simp [cutU, join_single]
  | b :: r => by
    have ih := join_cut r
    unfold cutU
    by_cases h : b = 95
    · rw [if_pos h]
      cases hr : cutU 95 r with
      | nil => exact absurd hr (cutU_ne _ _)
      | cons x y =>
        rw [hr] at ih
        rw [join_cons2, ih, h]
        rfl
    · rw [if_neg h]
      cases hr : cutU 95 r with
      | nil => exact absurd hr (cutU_ne _ _)
      | cons x y =>
        rw [hr] at ih
        simp only
        cases y with
        | nil => rw [join_single] at ih ⊢; rw [ih]
        | cons z w => rw [join_cons2] at ih ⊢; rw [List.cons_append, ih]
theorem join_app : ∀ (q : List (List UInt8)), q ≠ [] → joinOf (q ++ [[]]) [95] = joinOf q [95] ++ [95]
  | [], h => (h rfl).elim
  | [x], _ => by rw [List.singleton_append, join_cons2, join_single, join_single]
  | x :: y :: r, _ => by
    have ih := join_app (y :: r) (by simp)
    rw [List.cons_append, List.cons_append, join_cons2, join_cons2]
    rw [List.cons_append] at ih
    rw [ih]
    simp
theorem text_trim {s : List UInt8} (h : (trim (cutU 95 s)).parts ≠ []) : textOf (trim (cutU 95 s)) = s := by
  have hj := join_cut s
  generalize hP : cutU 95 s = P at *
  cases P with
  | nil => exact absurd hP (cutU_ne _ _)
  | cons p0 rest =>
    unfold trim at h ⊢
    simp only at h ⊢
    have hL : (stripL (p0 :: rest)).2 ≠ [] → s = (if (stripL (p0 :: rest)).1 then [95] else []) ++ joinOf (stripL (p0 :: rest)).2 [95] := by
      intro hne
      rw [stripL_cons] at hne ⊢
      by_cases h0 : p0 = []
      · rw [if_pos h0] at hne ⊢
        simp only at hne ⊢
        cases rest with
        | nil => exact absurd rfl hne
        | cons y r => rw [h0, join_cons2] at hj; rw [← hj]; rfl
      · rw [if_neg h0]
        simp only
        rw [hj]
        rfl
    unfold textOf
    simp only
    rcases stripR_cases (stripL (p0 :: rest)).2 with ⟨q, hq1, hq2⟩ | hq
    · rw [hq2] at h ⊢
      simp only at h ⊢
      rw [hL (by rw [hq1]; simp), hq1, join_app q h]
      simp
    · rw [hq] at h ⊢
      simp only at h ⊢
      rw [hL h]
      simp
theorem shape_text {part : List UInt8 → Bool} {s : List UInt8} {v : SV} (h : shapeOf part s = some v) : textOf v = s := by
  obtain ⟨h1, h2, h3⟩ := shapeOf_some h
  rw [← h2]
  refine text_trim ?_
  rw [h2]
  obtain ⟨p, l, r⟩ := v
  obtain ⟨m1, _⟩ := mayS_inv h3
  intro e
  simp only at e
  rw [e] at m1
  simp at m1
theorem trim_sub {P : List (List UInt8)} {q : List UInt8} (h : q ∈ (trim P).parts) : q ∈ P := by
  have h1 : q ∈ (stripL P).2 := by
    unfold trim at h
    simp only at h
    rcases stripR_cases (stripL P).2 with ⟨w, h1, h2⟩ | h1
    · rw [h2] at h; rw [h1]; simp only at h; simp [h]
    · rw [h1] at h; exact h
  cases P with
  | nil => exact h1
  | cons p0 rest =>
    rw [stripL_cons] at h1
    by_cases h0 : p0 = []
    · rw [if_pos h0] at h1; simp only at h1; simp [h1]
    · rw [if_neg h0] at h1; exact h1
theorem text_len (v : SV) : (joinOf v.parts [95]).length ≤ (textOf v).length := by
  unfold textOf
  simp only [List.length_append]
  omega
theorem partV_inv {G : List DV → Option DV} (hG : KB R37 G) {s : List UInt8} (hr : s.length ≤ room) (h : partV G s = true) : ∃ kind a b code : Int, G [.c (.list 1 (encB s))] = some (.c (.list 5 [[.int .i64 kind, .int .i64 a, .int .i64 b, .str s, .int .i64 code]])) ∧ (kind = 1 ∨ kind = 2 ∨ kind = 6) ∧ Lib.indexByte s 95 < 0 := by
  obtain ⟨r, h1, l, rfl, htok, _, _⟩ := hG 1 s (.inl rfl) hr
  match l, htok with
  | [], _ => simp only [partV, h1] at h; cases h
  | x :: y :: l', _ => simp only [partV, h1] at h; cases h
  | [x], htok =>
    obtain ⟨kind, a, b, code, text, rfl⟩ := htok x (by simp)
    rw [partV_one h1] at h
    simp only [Bool.and_eq_true, Bool.or_eq_true, beq_iff_eq, Bool.not_eq_true', decide_eq_false_iff_not] at h
    obtain ⟨⟨⟨e, hi⟩, hk⟩, _⟩ := h
    subst e
    exact ⟨kind, a, b, code, h1, by rcases hk with (h | h) | h <;> simp [h], by omega⟩

/-! ### The reference's Same -/
def G33 : List DV → Option DV
  | [.agg [.list _ l, .bool a, .bool b], .agg [.list _ l', .bool a', .bool b']] => match strsOf l, strsOf l' with
    | some ss, some ss' => if ss.length ≤ room ∧ ss'.length ≤ room then some (.c (.bool (a == a' && b == b' && ss == ss'))) else none
    | _, _ => none
  | _ => none
def c33r : ACode := match c33 with
  | .seq _ (.seq _ x) => x
  | x => x
set_option maxRecDepth 8000 in
set_option maxHeartbeats 4000000 in
theorem w33 (ds : List DV) (r : DV) (h : G33 ds = some r) : awp (tbl []) c33 (PureQ [.t 4] r) ⟨argE 0 (dvArgs ds), ⟨0, []⟩⟩ := by
  unfold G33 at h
  split at h
  · rename_i sz l a b sz' l' a' b'
    split at h
    · rename_i ss ss' hss hss'
      obtain rfl := strsOf_get hss
      obtain rfl := strsOf_get hss'
      split at h
      · rename_i hroom
        obtain ⟨hr1, hr2⟩ := hroom
        unfold room at hr1 hr2
        cases h
        have hl1 := ofStrs_len ss
        have hl2 := ofStrs_len ss'
        by_cases hab : a = a' ∧ b = b' ∧ ss.length = ss'.length
        · obtain ⟨rfl, rfl, hlen⟩ := hab
          have e : (a == a && b == b && ss == ss') = (ss == ss') := by simp
          rw [e]
          have hna : (!(a == a)) = false := by simp
          have hnb : (!(b == b)) = false := by simp
          have hgo : awp (tbl []) c33r (PureQ [.t 4] (.c (.bool (ss == ss')))) ⟨[(2, .c (.ptr 0 0)), (3, .c (.ptr 1 0))], ⟨2, [(1, .cells [.d (.list sz' (ofStrs ss')), .d (.bool a), .d (.bool b)]), (0, .cells [.d (.list sz (ofStrs ss)), .d (.bool a), .d (.bool b)])]⟩⟩ := by
            unfold c33r c33
            dsimp only
            repeat' first |  with_reducible refine awp_seq ?_ | with_reducible refine awp_region ?_ | with_reducible refine ops_nil ?_ | with_reducible refine seqK_n ?_ | with_reducible refine seqK_r ?_ | with_reducible refine seqK_e ?_ | with_reducible refine weak_id ?_ | with_reducible refine awp_ret ?_ | with_reducible refine awp_skip ?_ | with_reducible refine awp_exit ?_ | with_reducible refine awp_block ?_ | with_reducible refine blkK_n ?_ | with_reducible refine blkK_r ?_ | with_reducible refine blkK_e ?_ | with_reducible refine awp_goto ?_ | with_reducible refine jmpK_n ?_ | with_reducible refine jmpK_r ?_ | with_reducible refine jmpK_e ?_ | with_reducible refine jmpK_g ?_ | with_reducible refine seqK_g ?_ | with_reducible refine blkK_g ?_ | (with_reducible refine blkK_o (by decide) ?_) | ((with_reducible apply step_go); rfl) | ((with_reducible apply step_skip); rfl; decide) | ((with_reducible apply step_skip_u); rfl) | ((with_reducible apply awp_cond_t); rfl) | ((with_reducible apply awp_cond_f); rfl) | refine step_op rfl ?_ | refine step_op0 rfl ?_
            refine awp_loop (fun n st => ∃ i : Nat, i ≤ ss.length ∧ n = ss.length - i + 1 ∧ ss.take i = ss'.take i ∧
              st = ⟨[(2, .c (.ptr 0 0)), (3, .c (.ptr 1 0)), (5, .c (.d (.int .i64 (i : Nat))))], ⟨2, [(1, .cells [.d (.list sz' (ofStrs ss')), .d (.bool a), .d (.bool b)]), (0, .cells [.d (.list sz (ofStrs ss)), .d (.bool a), .d (.bool b)])]⟩⟩) (ss.length + 1) ?_ (by rintro st ⟨i, h1, h2, _⟩; omega) ?_
            · exact weak_keep [2, 3, 5] rfl ⟨0, by omega, by omega, by simp, rfl⟩
            · rintro n K hK st ⟨i, hi, hn, hpre, rfl⟩
              by_cases hend : i = ss.length
              · have e2 : (ss == ss') = true := by
                  have h1 : ss.take i = ss := List.take_of_length_le (by omega)
                  have h2 : ss'.take i = ss' := List.take_of_length_le (by omega)
                  rw [h1, h2] at hpre
                  simp [hpre]
                rw [e2]
                repeat' first |  with_reducible refine awp_seq ?_ | with_reducible refine awp_region ?_ | with_reducible refine ops_nil ?_ | with_reducible refine seqK_n ?_ | with_reducible refine seqK_r ?_ | with_reducible refine seqK_e ?_ | with_reducible refine weak_id ?_ | with_reducible refine awp_ret ?_ | with_reducible refine awp_skip ?_ | with_reducible refine awp_exit ?_ | with_reducible refine awp_block ?_ | with_reducible refine blkK_n ?_ | with_reducible refine blkK_r ?_ | with_reducible refine blkK_e ?_ | with_reducible refine awp_goto ?_ | with_reducible refine jmpK_n ?_ | with_reducible refine jmpK_r ?_ | with_reducible refine jmpK_e ?_ | with_reducible refine jmpK_g ?_ | with_reducible refine seqK_g ?_ | with_reducible refine blkK_g ?_ | (with_reducible refine blkK_o (by decide) ?_) | ((with_reducible apply step_go); rfl) | ((with_reducible apply step_skip); rfl; decide) | ((with_reducible apply step_skip_u); rfl) | ((with_reducible apply awp_cond_t); rfl) | ((with_reducible apply awp_cond_f); rfl) | ((with_reducible apply step_lss); rfl; rfl; all_goals (intro hc; first | (exfalso; omega) | skip)) | ((with_reducible apply step_leq); rfl; rfl; all_goals (intro hc; first | (exfalso; omega) | skip)) | ((with_reducible apply step_gtr); rfl; rfl; all_goals (intro hc; first | (exfalso; omega) | skip)) | ((with_reducible apply step_geq); rfl; rfl; all_goals (intro hc; first | (exfalso; omega) | skip)) | ((with_reducible apply step_eql); rfl; rfl; all_goals (intro hc; first | (exfalso; omega) | skip)) | ((with_reducible apply step_neq); rfl; rfl; all_goals (intro hc; first | (exfalso; omega) | skip)) | ((with_reducible apply step_eqs); rfl; rfl; all_goals (intro hc; first | contradiction | skip)) | ((with_reducible apply step_nes); rfl; rfl; all_goals (intro hc; first | contradiction | skip)) | ((with_reducible apply step_addi); rfl; rfl; omega; omega) | ((with_reducible apply step_subi); rfl; rfl; omega; omega) | ((with_reducible apply step_byte); rfl; rfl; omega; omega; intro c hget hc) | ((with_reducible apply step_char); rfl; rfl; omega; omega; intro c hget hc) | ((with_reducible apply step_slb); rfl; (first | exact .inl rfl | assumption); rfl; rfl; omega; omega; omega; intro s' hs' hl') | ((with_reducible apply step_sub_s); rfl; rfl; rfl; omega; omega; omega; intro s' hs' hl') | ((with_reducible apply step_bs); rfl) |  with_reducible refine awp_seq ?_ | with_reducible refine awp_region ?_ | with_reducible refine ops_nil ?_ | with_reducible refine seqK_n ?_ | with_reducible refine seqK_r ?_ | with_reducible refine seqK_e ?_ | with_reducible refine weak_id ?_ | with_reducible refine awp_ret ?_ | with_reducible refine awp_skip ?_ | with_reducible refine awp_exit ?_ | with_reducible refine awp_block ?_ | with_reducible refine blkK_n ?_ | with_reducible refine blkK_r ?_ | with_reducible refine blkK_e ?_ | with_reducible refine awp_goto ?_ | with_reducible refine jmpK_n ?_ | with_reducible refine jmpK_r ?_ | with_reducible refine jmpK_e ?_ | with_reducible refine jmpK_g ?_ | with_reducible refine seqK_g ?_ | with_reducible refine blkK_g ?_ | (with_reducible refine blkK_o (by decide) ?_) | ((with_reducible apply step_go); rfl) | ((with_reducible apply step_skip); rfl; decide) | ((with_reducible apply step_skip_u); rfl) | ((with_reducible apply awp_cond_t); rfl) | ((with_reducible apply awp_cond_f); rfl) | refine step_op rfl ?_ | refine step_op0 rfl ?_
                exact ⟨_, rfl, rfl⟩
              · have hlt : i < ss.length := by omega
                have hlt' : i < ss'.length := by omega
                have hx : (ofStrs ss)[(i : Int).toNat]? = some [.str ss[i]] := by simp [ofStrs_get, hlt]
                have hx' : (ofStrs ss')[(i : Int).toNat]? = some [.str ss'[i]] := by simp [ofStrs_get, hlt']
                by_cases heq : ss[i] = ss'[i]
                · repeat' first
                    |  with_reducible refine awp_seq ?_ | with_reducible refine awp_region ?_ | with_reducible refine ops_nil ?_ | with_reducible refine seqK_n ?_ | with_reducible refine seqK_r ?_ | with_reducible refine seqK_e ?_ | with_reducible refine weak_id ?_ | with_reducible refine awp_ret ?_ | with_reducible refine awp_skip ?_ | with_reducible refine awp_exit ?_ | with_reducible refine awp_block ?_ | with_reducible refine blkK_n ?_ | with_reducible refine blkK_r ?_ | with_reducible refine blkK_e ?_ | with_reducible refine awp_goto ?_ | with_reducible refine jmpK_n ?_ | with_reducible refine jmpK_r ?_ | with_reducible refine jmpK_e ?_ | with_reducible refine jmpK_g ?_ | with_reducible refine seqK_g ?_ | with_reducible refine blkK_g ?_ | (with_reducible refine blkK_o (by decide) ?_) | ((with_reducible apply step_go); rfl) | ((with_reducible apply step_skip); rfl; decide) | ((with_reducible apply step_skip_u); rfl) | ((with_reducible apply awp_cond_t); rfl) | ((with_reducible apply awp_cond_f); rfl) | ((with_reducible apply step_lss); rfl; rfl; all_goals (intro hc; first | (exfalso; omega) | skip)) | ((with_reducible apply step_leq); rfl; rfl; all_goals (intro hc; first | (exfalso; omega) | skip)) | ((with_reducible apply step_gtr); rfl; rfl; all_goals (intro hc; first | (exfalso; omega) | skip)) | ((with_reducible apply step_geq); rfl; rfl; all_goals (intro hc; first | (exfalso; omega) | skip)) | ((with_reducible apply step_eql); rfl; rfl; all_goals (intro hc; first | (exfalso; omega) | skip)) | ((with_reducible apply step_neq); rfl; rfl; all_goals (intro hc; first | (exfalso; omega) | skip)) | ((with_reducible apply step_eqs); rfl; rfl; all_goals (intro hc; first | contradiction | skip)) | ((with_reducible apply step_nes); rfl; rfl; all_goals (intro hc; first | contradiction | skip)) | ((with_reducible apply step_addi); rfl; rfl; omega; omega) | ((with_reducible apply step_subi); rfl; rfl; omega; omega) | ((with_reducible apply step_byte); rfl; rfl; omega; omega; intro c hget hc) | ((with_reducible apply step_char); rfl; rfl; omega; omega; intro c hget hc) | ((with_reducible apply step_slb); rfl; (first | exact .inl rfl | assumption); rfl; rfl; omega; omega; omega; intro s' hs' hl') | ((with_reducible apply step_sub_s); rfl; rfl; rfl; omega; omega; omega; intro s' hs' hl') | ((with_reducible apply step_bs); rfl)
                    |  with_reducible refine awp_seq ?_ | with_reducible refine awp_region ?_ | with_reducible refine ops_nil ?_ | with_reducible refine seqK_n ?_ | with_reducible refine seqK_r ?_ | with_reducible refine seqK_e ?_ | with_reducible refine weak_id ?_ | with_reducible refine awp_ret ?_ | with_reducible refine awp_skip ?_ | with_reducible refine awp_exit ?_ | with_reducible refine awp_block ?_ | with_reducible refine blkK_n ?_ | with_reducible refine blkK_r ?_ | with_reducible refine blkK_e ?_ | with_reducible refine awp_goto ?_ | with_reducible refine jmpK_n ?_ | with_reducible refine jmpK_r ?_ | with_reducible refine jmpK_e ?_ | with_reducible refine jmpK_g ?_ | with_reducible refine seqK_g ?_ | with_reducible refine blkK_g ?_ | (with_reducible refine blkK_o (by decide) ?_) | ((with_reducible apply step_go); rfl) | ((with_reducible apply step_skip); rfl; decide) | ((with_reducible apply step_skip_u); rfl) | ((with_reducible apply awp_cond_t); rfl) | ((with_reducible apply awp_cond_f); rfl) | refine step_op rfl ?_ | refine step_op0 rfl ?_
                    | with_reducible refine awp_dregion ?_
                    | refine dstep_q (ev_idx rfl rfl (by omega) hx rfl) (by (repeat' first | exact True.intro | refine ⟨?_, ?_⟩ | exact .inl rfl | exact .inr (.inl rfl) | exact .inr (.inr rfl) | rfl)) ?_
                    | refine dstep_q (ev_idx rfl rfl (by omega) hx' rfl) (by (repeat' first | exact True.intro | refine ⟨?_, ?_⟩ | exact .inl rfl | exact .inr (.inl rfl) | exact .inr (.inr rfl) | rfl)) ?_
                    | refine dstep_i rfl (ev_nes_f rfl rfl heq) ?_
                    | with_reducible refine awp_dregion ?_ | with_reducible refine dops_nil ?_ | ((with_reducible apply dstep_go); rfl) | ((with_reducible apply dstep_skip); rfl; decide) | ((with_reducible apply dstep_skip_u); rfl) | refine dstep_i rfl rfl ?_ | refine dstep_q rfl (by (repeat' first | exact True.intro | refine ⟨?_, ?_⟩ | exact .inl rfl | exact .inr (.inl rfl) | exact .inr (.inr rfl) | rfl)) ?_
                  refine hK _ (weak_keep [2, 3, 5] rfl ⟨i + 1, by omega, by omega, ?_, rfl⟩)
                  rw [List.take_add_one, List.take_add_one, hpre, List.getElem?_eq_getElem hlt, List.getElem?_eq_getElem hlt', heq]
                · have e2 : (ss == ss') = false := by
                    refine Bool.eq_false_iff.2 fun h => heq ?_
                    have : ss = ss' := by simpa using h
                    subst this
                    rfl
                  rw [e2]
                  repeat' first
                    |  with_reducible refine awp_seq ?_ | with_reducible refine awp_region ?_ | with_reducible refine ops_nil ?_ | with_reducible refine seqK_n ?_ | with_reducible refine seqK_r ?_ | with_reducible refine seqK_e ?_ | with_reducible refine weak_id ?_ | with_reducible refine awp_ret ?_ | with_reducible refine awp_skip ?_ | with_reducible refine awp_exit ?_ | with_reducible refine awp_block ?_ | with_reducible refine blkK_n ?_ | with_reducible refine blkK_r ?_ | with_reducible refine blkK_e ?_ | with_reducible refine awp_goto ?_ | with_reducible refine jmpK_n ?_ | with_reducible refine jmpK_r ?_ | with_reducible refine jmpK_e ?_ | with_reducible refine jmpK_g ?_ | with_reducible refine seqK_g ?_ | with_reducible refine blkK_g ?_ | (with_reducible refine blkK_o (by decide) ?_) | ((with_reducible apply step_go); rfl) | ((with_reducible apply step_skip); rfl; decide) | ((with_reducible apply step_skip_u); rfl) | ((with_reducible apply awp_cond_t); rfl) | ((with_reducible apply awp_cond_f); rfl) | ((with_reducible apply step_lss); rfl; rfl; all_goals (intro hc; first | (exfalso; omega) | skip)) | ((with_reducible apply step_leq); rfl; rfl; all_goals (intro hc; first | (exfalso; omega) | skip)) | ((with_reducible apply step_gtr); rfl; rfl; all_goals (intro hc; first | (exfalso; omega) | skip)) | ((with_reducible apply step_geq); rfl; rfl; all_goals (intro hc; first | (exfalso; omega) | skip)) | ((with_reducible apply step_eql); rfl; rfl; all_goals (intro hc; first | (exfalso; omega) | skip)) | ((with_reducible apply step_neq); rfl; rfl; all_goals (intro hc; first | (exfalso; omega) | skip)) | ((with_reducible apply step_eqs); rfl; rfl; all_goals (intro hc; first | contradiction | skip)) | ((with_reducible apply step_nes); rfl; rfl; all_goals (intro hc; first | contradiction | skip)) | ((with_reducible apply step_addi); rfl; rfl; omega; omega) | ((with_reducible apply step_subi); rfl; rfl; omega; omega) | ((with_reducible apply step_byte); rfl; rfl; omega; omega; intro c hget hc) | ((with_reducible apply step_char); rfl; rfl; omega; omega; intro c hget hc) | ((with_reducible apply step_slb); rfl; (first | exact .inl rfl | assumption); rfl; rfl; omega; omega; omega; intro s' hs' hl') | ((with_reducible apply step_sub_s); rfl; rfl; rfl; omega; omega; omega; intro s' hs' hl') | ((with_reducible apply step_bs); rfl)
                    |  with_reducible refine awp_seq ?_ | with_reducible refine awp_region ?_ | with_reducible refine ops_nil ?_ | with_reducible refine seqK_n ?_ | with_reducible refine seqK_r ?_ | with_reducible refine seqK_e ?_ | with_reducible refine weak_id ?_ | with_reducible refine awp_ret ?_ | with_reducible refine awp_skip ?_ | with_reducible refine awp_exit ?_ | with_reducible refine awp_block ?_ | with_reducible refine blkK_n ?_ | with_reducible refine blkK_r ?_ | with_reducible refine blkK_e ?_ | with_reducible refine awp_goto ?_ | with_reducible refine jmpK_n ?_ | with_reducible refine jmpK_r ?_ | with_reducible refine jmpK_e ?_ | with_reducible refine jmpK_g ?_ | with_reducible refine seqK_g ?_ | with_reducible refine blkK_g ?_ | (with_reducible refine blkK_o (by decide) ?_) | ((with_reducible apply step_go); rfl) | ((with_reducible apply step_skip); rfl; decide) | ((with_reducible apply step_skip_u); rfl) | ((with_reducible apply awp_cond_t); rfl) | ((with_reducible apply awp_cond_f); rfl) | refine step_op rfl ?_ | refine step_op0 rfl ?_
                    | with_reducible refine awp_dregion ?_
                    | refine dstep_q (ev_idx rfl rfl (by omega) hx rfl) (by (repeat' first | exact True.intro | refine ⟨?_, ?_⟩ | exact .inl rfl | exact .inr (.inl rfl) | exact .inr (.inr rfl) | rfl)) ?_
                    | refine dstep_q (ev_idx rfl rfl (by omega) hx' rfl) (by (repeat' first | exact True.intro | refine ⟨?_, ?_⟩ | exact .inl rfl | exact .inr (.inl rfl) | exact .inr (.inr rfl) | rfl)) ?_
                    | refine dstep_i rfl (ev_nes_t rfl rfl heq) ?_
                    | with_reducible refine awp_dregion ?_ | with_reducible refine dops_nil ?_ | ((with_reducible apply dstep_go); rfl) | ((with_reducible apply dstep_skip); rfl; decide) | ((with_reducible apply dstep_skip_u); rfl) | refine dstep_i rfl rfl ?_ | refine dstep_q rfl (by (repeat' first | exact True.intro | refine ⟨?_, ?_⟩ | exact .inl rfl | exact .inr (.inl rfl) | exact .inr (.inr rfl) | rfl)) ?_
                  exact ⟨_, rfl, rfl⟩
          cases a <;> cases b <;>
          (unfold c33
           repeat' first
            | exact weak_keep [2, 3] rfl hgo
            |  with_reducible refine awp_seq ?_ | with_reducible refine awp_region ?_ | with_reducible refine ops_nil ?_ | with_reducible refine seqK_n ?_ | with_reducible refine seqK_r ?_ | with_reducible refine seqK_e ?_ | with_reducible refine weak_id ?_ | with_reducible refine awp_ret ?_ | with_reducible refine awp_skip ?_ | with_reducible refine awp_exit ?_ | with_reducible refine awp_block ?_ | with_reducible refine blkK_n ?_ | with_reducible refine blkK_r ?_ | with_reducible refine blkK_e ?_ | with_reducible refine awp_goto ?_ | with_reducible refine jmpK_n ?_ | with_reducible refine jmpK_r ?_ | with_reducible refine jmpK_e ?_ | with_reducible refine jmpK_g ?_ | with_reducible refine seqK_g ?_ | with_reducible refine blkK_g ?_ | (with_reducible refine blkK_o (by decide) ?_) | ((with_reducible apply step_go); rfl) | ((with_reducible apply step_skip); rfl; decide) | ((with_reducible apply step_skip_u); rfl) | ((with_reducible apply awp_cond_t); rfl) | ((with_reducible apply awp_cond_f); rfl) | ((with_reducible apply step_lss); rfl; rfl; all_goals (intro hc; first | (exfalso; omega) | skip)) | ((with_reducible apply step_leq); rfl; rfl; all_goals (intro hc; first | (exfalso; omega) | skip)) | ((with_reducible apply step_gtr); rfl; rfl; all_goals (intro hc; first | (exfalso; omega) | skip)) | ((with_reducible apply step_geq); rfl; rfl; all_goals (intro hc; first | (exfalso; omega) | skip)) | ((with_reducible apply step_eql); rfl; rfl; all_goals (intro hc; first | (exfalso; omega) | skip)) | ((with_reducible apply step_neq); rfl; rfl; all_goals (intro hc; first | (exfalso; omega) | skip)) | ((with_reducible apply step_eqs); rfl; rfl; all_goals (intro hc; first | contradiction | skip)) | ((with_reducible apply step_nes); rfl; rfl; all_goals (intro hc; first | contradiction | skip)) | ((with_reducible apply step_addi); rfl; rfl; omega; omega) | ((with_reducible apply step_subi); rfl; rfl; omega; omega) | ((with_reducible apply step_byte); rfl; rfl; omega; omega; intro c hget hc) | ((with_reducible apply step_char); rfl; rfl; omega; omega; intro c hget hc) | ((with_reducible apply step_slb); rfl; (first | exact .inl rfl | assumption); rfl; rfl; omega; omega; omega; intro s' hs' hl') | ((with_reducible apply step_sub_s); rfl; rfl; rfl; omega; omega; omega; intro s' hs' hl') | ((with_reducible apply step_bs); rfl)
            |  with_reducible refine awp_seq ?_ | with_reducible refine awp_region ?_ | with_reducible refine ops_nil ?_ | with_reducible refine seqK_n ?_ | with_reducible refine seqK_r ?_ | with_reducible refine seqK_e ?_ | with_reducible refine weak_id ?_ | with_reducible refine awp_ret ?_ | with_reducible refine awp_skip ?_ | with_reducible refine awp_exit ?_ | with_reducible refine awp_block ?_ | with_reducible refine blkK_n ?_ | with_reducible refine blkK_r ?_ | with_reducible refine blkK_e ?_ | with_reducible refine awp_goto ?_ | with_reducible refine jmpK_n ?_ | with_reducible refine jmpK_r ?_ | with_reducible refine jmpK_e ?_ | with_reducible refine jmpK_g ?_ | with_reducible refine seqK_g ?_ | with_reducible refine blkK_g ?_ | (with_reducible refine blkK_o (by decide) ?_) | ((with_reducible apply step_go); rfl) | ((with_reducible apply step_skip); rfl; decide) | ((with_reducible apply step_skip_u); rfl) | ((with_reducible apply awp_cond_t); rfl) | ((with_reducible apply awp_cond_f); rfl) | refine step_op rfl ?_ | refine step_op0 rfl ?_)
        · have e : (a == a' && b == b' && ss == ss') = false := by
            refine Bool.eq_false_iff.2 fun h => hab ?_
            simp only [Bool.and_eq_true, beq_iff_eq] at h
            exact ⟨h.1.1, h.1.2, by rw [h.2]⟩
          rw [e]
          have hne : a = a' → b = b' → ss.length ≠ ss'.length := fun h1 h2 h3 => hab ⟨h1, h2, h3⟩
          cases a <;> cases a' <;> cases b <;> cases b' <;>
          ((try have hne := hne rfl rfl)
           unfold c33
           repeat' first
            |  with_reducible refine awp_seq ?_ | with_reducible refine awp_region ?_ | with_reducible refine ops_nil ?_ | with_reducible refine seqK_n ?_ | with_reducible refine seqK_r ?_ | with_reducible refine seqK_e ?_ | with_reducible refine weak_id ?_ | with_reducible refine awp_ret ?_ | with_reducible refine awp_skip ?_ | with_reducible refine awp_exit ?_ | with_reducible refine awp_block ?_ | with_reducible refine blkK_n ?_ | with_reducible refine blkK_r ?_ | with_reducible refine blkK_e ?_ | with_reducible refine awp_goto ?_ | with_reducible refine jmpK_n ?_ | with_reducible refine jmpK_r ?_ | with_reducible refine jmpK_e ?_ | with_reducible refine jmpK_g ?_ | with_reducible refine seqK_g ?_ | with_reducible refine blkK_g ?_ | (with_reducible refine blkK_o (by decide) ?_) | ((with_reducible apply step_go); rfl) | ((with_reducible apply step_skip); rfl; decide) | ((with_reducible apply step_skip_u); rfl) | ((with_reducible apply awp_cond_t); rfl) | ((with_reducible apply awp_cond_f); rfl) | ((with_reducible apply step_lss); rfl; rfl; all_goals (intro hc; first | (exfalso; omega) | skip)) | ((with_reducible apply step_leq); rfl; rfl; all_goals (intro hc; first | (exfalso; omega) | skip)) | ((with_reducible apply step_gtr); rfl; rfl; all_goals (intro hc; first | (exfalso; omega) | skip)) | ((with_reducible apply step_geq); rfl; rfl; all_goals (intro hc; first | (exfalso; omega) | skip)) | ((with_reducible apply step_eql); rfl; rfl; all_goals (intro hc; first | (exfalso; omega) | skip)) | ((with_reducible apply step_neq); rfl; rfl; all_goals (intro hc; first | (exfalso; omega) | skip)) | ((with_reducible apply step_eqs); rfl; rfl; all_goals (intro hc; first | contradiction | skip)) | ((with_reducible apply step_nes); rfl; rfl; all_goals (intro hc; first | contradiction | skip)) | ((with_reducible apply step_addi); rfl; rfl; omega; omega) | ((with_reducible apply step_subi); rfl; rfl; omega; omega) | ((with_reducible apply step_byte); rfl; rfl; omega; omega; intro c hget hc) | ((with_reducible apply step_char); rfl; rfl; omega; omega; intro c hget hc) | ((with_reducible apply step_slb); rfl; (first | exact .inl rfl | assumption); rfl; rfl; omega; omega; omega; intro s' hs' hl') | ((with_reducible apply step_sub_s); rfl; rfl; rfl; omega; omega; omega; intro s' hs' hl') | ((with_reducible apply step_bs); rfl)
            |  with_reducible refine awp_seq ?_ | with_reducible refine awp_region ?_ | with_reducible refine ops_nil ?_ | with_reducible refine seqK_n ?_ | with_reducible refine seqK_r ?_ | with_reducible refine seqK_e ?_ | with_reducible refine weak_id ?_ | with_reducible refine awp_ret ?_ | with_reducible refine awp_skip ?_ | with_reducible refine awp_exit ?_ | with_reducible refine awp_block ?_ | with_reducible refine blkK_n ?_ | with_reducible refine blkK_r ?_ | with_reducible refine blkK_e ?_ | with_reducible refine awp_goto ?_ | with_reducible refine jmpK_n ?_ | with_reducible refine jmpK_r ?_ | with_reducible refine jmpK_e ?_ | with_reducible refine jmpK_g ?_ | with_reducible refine seqK_g ?_ | with_reducible refine blkK_g ?_ | (with_reducible refine blkK_o (by decide) ?_) | ((with_reducible apply step_go); rfl) | ((with_reducible apply step_skip); rfl; decide) | ((with_reducible apply step_skip_u); rfl) | ((with_reducible apply awp_cond_t); rfl) | ((with_reducible apply awp_cond_f); rfl) | refine step_op rfl ?_ | refine step_op0 rfl ?_
           exact ⟨_, rfl, rfl⟩)
      · cases h
    · cases h
  · cases h
theorem pok33 (m : Int) : PureOk Go.Proofs.Tryd.prog (glb m) 33 G33 := pure_ok (fn33 m) (callOk_nil _ _) w33

/-! ### The law -/
def c11r : ACode := match c11 with
  | .seq _ (.seq _ (.seq _ (.seq _ (.seq _ (.seq _ x))))) => x
  | x => x
set_option maxRecDepth 8000 in
set_option maxHeartbeats 8000000 in
theorem w11r {G : List DV → Option DV} (hG : KB R37 G) {ps : List (List UInt8)} {l r : Bool} (hm : mayS (partV G) ⟨ps, l, r⟩ = true) (hlen : ∀ p ∈ ps, p.length ≤ 40) : awp (tbl [(17, G17), (18, G18), (19, G19 (partV G)), (33, G33), (34, G34), (37, G)]) c11r (PureQ [.t 2] (.c (.bool true)))
    ⟨[(5, .c (.ptr 0 0))], ⟨1, [(0, .cells [.d (.list 1 (ofStrs ps)), .d (.bool l), .d (.bool r)])]⟩⟩ := by
  obtain ⟨m1, m2, m3, m4⟩ := mayS_inv hm
  have hl := ofStrs_len ps
  unfold c11r c11
  dsimp only
  repeat' first |  with_reducible refine awp_seq ?_ | with_reducible refine awp_region ?_ | with_reducible refine ops_nil ?_ | with_reducible refine seqK_n ?_ | with_reducible refine seqK_r ?_ | with_reducible refine seqK_e ?_ | with_reducible refine weak_id ?_ | with_reducible refine awp_ret ?_ | with_reducible refine awp_skip ?_ | with_reducible refine awp_exit ?_ | with_reducible refine awp_block ?_ | with_reducible refine blkK_n ?_ | with_reducible refine blkK_r ?_ | with_reducible refine blkK_e ?_ | with_reducible refine awp_goto ?_ | with_reducible refine jmpK_n ?_ | with_reducible refine jmpK_r ?_ | with_reducible refine jmpK_e ?_ | with_reducible refine jmpK_g ?_ | with_reducible refine seqK_g ?_ | with_reducible refine blkK_g ?_ | (with_reducible refine blkK_o (by decide) ?_) | ((with_reducible apply step_go); rfl) | ((with_reducible apply step_skip); rfl; decide) | ((with_reducible apply step_skip_u); rfl) | ((with_reducible apply awp_cond_t); rfl) | ((with_reducible apply awp_cond_f); rfl) | refine step_op rfl ?_ | refine step_op0 rfl ?_
  refine awp_loop (fun n st => ∃ i : Nat, i ≤ ps.length ∧ n = ps.length - i + 1 ∧ st = ⟨[(5, .c (.ptr 0 0)), (7, .c (.d (.int .i64 (i : Nat))))], ⟨1, [(0, .cells [.d (.list 1 (ofStrs ps)), .d (.bool l), .d (.bool r)])]⟩⟩) (ps.length + 1) ?_ (by rintro st ⟨i, h1, h2, _⟩; omega) ?_
  · exact weak_keep [5, 7] rfl ⟨0, by omega, by omega, rfl⟩
  · rintro n K hK st ⟨i, hi, hn, rfl⟩
    by_cases hend : i = ps.length
    · repeat' first |  with_reducible refine awp_seq ?_ | with_reducible refine awp_region ?_ | with_reducible refine ops_nil ?_ | with_reducible refine seqK_n ?_ | with_reducible refine seqK_r ?_ | with_reducible refine seqK_e ?_ | with_reducible refine weak_id ?_ | with_reducible refine awp_ret ?_ | with_reducible refine awp_skip ?_ | with_reducible refine awp_exit ?_ | with_reducible refine awp_block ?_ | with_reducible refine blkK_n ?_ | with_reducible refine blkK_r ?_ | with_reducible refine blkK_e ?_ | with_reducible refine awp_goto ?_ | with_reducible refine jmpK_n ?_ | with_reducible refine jmpK_r ?_ | with_reducible refine jmpK_e ?_ | with_reducible refine jmpK_g ?_ | with_reducible refine seqK_g ?_ | with_reducible refine blkK_g ?_ | (with_reducible refine blkK_o (by decide) ?_) | ((with_reducible apply step_go); rfl) | ((with_reducible apply step_skip); rfl; decide) | ((with_reducible apply step_skip_u); rfl) | ((with_reducible apply awp_cond_t); rfl) | ((with_reducible apply awp_cond_f); rfl) | ((with_reducible apply step_lss); rfl; rfl; all_goals (intro hc; first | (exfalso; omega) | skip)) | ((with_reducible apply step_leq); rfl; rfl; all_goals (intro hc; first | (exfalso; omega) | skip)) | ((with_reducible apply step_gtr); rfl; rfl; all_goals (intro hc; first | (exfalso; omega) | skip)) | ((with_reducible apply step_geq); rfl; rfl; all_goals (intro hc; first | (exfalso; omega) | skip)) | ((with_reducible apply step_eql); rfl; rfl; all_goals (intro hc; first | (exfalso; omega) | skip)) | ((with_reducible apply step_neq); rfl; rfl; all_goals (intro hc; first | (exfalso; omega) | skip)) | ((with_reducible apply step_eqs); rfl; rfl; all_goals (intro hc; first | contradiction | skip)) | ((with_reducible apply step_nes); rfl; rfl; all_goals (intro hc; first | contradiction | skip)) | ((with_reducible apply step_addi); rfl; rfl; omega; omega) | ((with_reducible apply step_subi); rfl; rfl; omega; omega) | ((with_reducible apply step_byte); rfl; rfl; omega; omega; intro c hget hc) | ((with_reducible apply step_char); rfl; rfl; omega; omega; intro c hget hc) | ((with_reducible apply step_slb); rfl; (first | exact .inl rfl | assumption); rfl; rfl; omega; omega; omega; intro s' hs' hl') | ((with_reducible apply step_sub_s); rfl; rfl; rfl; omega; omega; omega; intro s' hs' hl') | ((with_reducible apply step_bs); rfl) |  with_reducible refine awp_seq ?_ | with_reducible refine awp_region ?_ | with_reducible refine ops_nil ?_ | with_reducible refine seqK_n ?_ | with_reducible refine seqK_r ?_ | with_reducible refine seqK_e ?_ | with_reducible refine weak_id ?_ | with_reducible refine awp_ret ?_ | with_reducible refine awp_skip ?_ | with_reducible refine awp_exit ?_ | with_reducible refine awp_block ?_ | with_reducible refine blkK_n ?_ | with_reducible refine blkK_r ?_ | with_reducible refine blkK_e ?_ | with_reducible refine awp_goto ?_ | with_reducible refine jmpK_n ?_ | with_reducible refine jmpK_r ?_ | with_reducible refine jmpK_e ?_ | with_reducible refine jmpK_g ?_ | with_reducible refine seqK_g ?_ | with_reducible refine blkK_g ?_ | (with_reducible refine blkK_o (by decide) ?_) | ((with_reducible apply step_go); rfl) | ((with_reducible apply step_skip); rfl; decide) | ((with_reducible apply step_skip_u); rfl) | ((with_reducible apply awp_cond_t); rfl) | ((with_reducible apply awp_cond_f); rfl) | refine step_op rfl ?_ | refine step_op0 rfl ?_
      exact ⟨_, rfl, rfl⟩
    · have hlt : i < ps.length := by omega
      have hx : (ofStrs ps)[(i : Int).toNat]? = some [.str ps[i]] := by simp [ofStrs_get, hlt]
      have hpart : partV G ps[i] = true := by
        have := m4
        unfold badS at this
        rw [List.any_eq_false] at this
        have := this _ (List.getElem_mem hlt)
        simpa using this
      have h40 := hlen _ (List.getElem_mem hlt)
      obtain ⟨kind, a, b, code, h37, hk, hi95⟩ := partV_inv hG (by unfold room; omega) hpart
      generalize ps[i] = x at hx h37 hi95 h40
      have hs2b : ∀ nx ob e, ev e (.t 82) = .c (.d (.str x)) → eval (tbl [(17, G17), (18, G18), (19, G19 (partV G)), (33, G33), (34, G34), (37, G)]) e ⟨nx, ob⟩ (.s2b (.t 82) false) = some (.c (.d (.list 1 (encB x))), ⟨nx, ob⟩) := by
        intro nx ob e he
        simp only [eval, he]
        rw [if_pos (by unfold room; omega)]
      rcases hk with rfl | rfl | rfl <;>
      (repeat' first
        |  with_reducible refine awp_seq ?_ | with_reducible refine awp_region ?_ | with_reducible refine ops_nil ?_ | with_reducible refine seqK_n ?_ | with_reducible refine seqK_r ?_ | with_reducible refine seqK_e ?_ | with_reducible refine weak_id ?_ | with_reducible refine awp_ret ?_ | with_reducible refine awp_skip ?_ | with_reducible refine awp_exit ?_ | with_reducible refine awp_block ?_ | with_reducible refine blkK_n ?_ | with_reducible refine blkK_r ?_ | with_reducible refine blkK_e ?_ | with_reducible refine awp_goto ?_ | with_reducible refine jmpK_n ?_ | with_reducible refine jmpK_r ?_ | with_reducible refine jmpK_e ?_ | with_reducible refine jmpK_g ?_ | with_reducible refine seqK_g ?_ | with_reducible refine blkK_g ?_ | (with_reducible refine blkK_o (by decide) ?_) | ((with_reducible apply step_go); rfl) | ((with_reducible apply step_skip); rfl; decide) | ((with_reducible apply step_skip_u); rfl) | ((with_reducible apply awp_cond_t); rfl) | ((with_reducible apply awp_cond_f); rfl) | ((with_reducible apply step_lss); rfl; rfl; all_goals (intro hc; first | (exfalso; omega) | skip)) | ((with_reducible apply step_leq); rfl; rfl; all_goals (intro hc; first | (exfalso; omega) | skip)) | ((with_reducible apply step_gtr); rfl; rfl; all_goals (intro hc; first | (exfalso; omega) | skip)) | ((with_reducible apply step_geq); rfl; rfl; all_goals (intro hc; first | (exfalso; omega) | skip)) | ((with_reducible apply step_eql); rfl; rfl; all_goals (intro hc; first | (exfalso; omega) | skip)) | ((with_reducible apply step_neq); rfl; rfl; all_goals (intro hc; first | (exfalso; omega) | skip)) | ((with_reducible apply step_eqs); rfl; rfl; all_goals (intro hc; first | contradiction | skip)) | ((with_reducible apply step_nes); rfl; rfl; all_goals (intro hc; first | contradiction | skip)) | ((with_reducible apply step_addi); rfl; rfl; omega; omega) | ((with_reducible apply step_subi); rfl; rfl; omega; omega) | ((with_reducible apply step_byte); rfl; rfl; omega; omega; intro c hget hc) | ((with_reducible apply step_char); rfl; rfl; omega; omega; intro c hget hc) | ((with_reducible apply step_slb); rfl; (first | exact .inl rfl | assumption); rfl; rfl; omega; omega; omega; intro s' hs' hl') | ((with_reducible apply step_sub_s); rfl; rfl; rfl; omega; omega; omega; intro s' hs' hl') | ((with_reducible apply step_bs); rfl)
        | ((with_reducible apply step_pc (f := 37)); rfl; rfl; rfl; exact h37; rfl)
        | refine step_op (ev_idx rfl rfl (by omega) hx rfl) ?_
        | refine step_op (hs2b _ _ _ rfl) ?_
        |  with_reducible refine awp_seq ?_ | with_reducible refine awp_region ?_ | with_reducible refine ops_nil ?_ | with_reducible refine seqK_n ?_ | with_reducible refine seqK_r ?_ | with_reducible refine seqK_e ?_ | with_reducible refine weak_id ?_ | with_reducible refine awp_ret ?_ | with_reducible refine awp_skip ?_ | with_reducible refine awp_exit ?_ | with_reducible refine awp_block ?_ | with_reducible refine blkK_n ?_ | with_reducible refine blkK_r ?_ | with_reducible refine blkK_e ?_ | with_reducible refine awp_goto ?_ | with_reducible refine jmpK_n ?_ | with_reducible refine jmpK_r ?_ | with_reducible refine jmpK_e ?_ | with_reducible refine jmpK_g ?_ | with_reducible refine seqK_g ?_ | with_reducible refine blkK_g ?_ | (with_reducible refine blkK_o (by decide) ?_) | ((with_reducible apply step_go); rfl) | ((with_reducible apply step_skip); rfl; decide) | ((with_reducible apply step_skip_u); rfl) | ((with_reducible apply awp_cond_t); rfl) | ((with_reducible apply awp_cond_f); rfl) | refine step_op rfl ?_ | refine step_op0 rfl ?_
        | with_reducible refine awp_dregion ?_
        | refine dstep_q (ev_idx rfl rfl (by omega) hx rfl) (by (repeat' first | exact True.intro | refine ⟨?_, ?_⟩ | exact .inl rfl | exact .inr (.inl rfl) | exact .inr (.inr rfl) | rfl)) ?_
        | refine dstep_i rfl (ev_nes_f rfl rfl rfl) ?_
        | with_reducible refine awp_dregion ?_ | with_reducible refine dops_nil ?_ | ((with_reducible apply dstep_go); rfl) | ((with_reducible apply dstep_skip); rfl; decide) | ((with_reducible apply dstep_skip_u); rfl) | refine dstep_i rfl rfl ?_ | refine dstep_q rfl (by (repeat' first | exact True.intro | refine ⟨?_, ?_⟩ | exact .inl rfl | exact .inr (.inl rfl) | exact .inr (.inr rfl) | rfl)) ?_
       refine awp_loop (fun n st => ∃ j : Nat, j ≤ x.length ∧ n = x.length - j + 1 ∧ st = ⟨[(5, .c (.ptr 0 0)), (7, .c (.d (.int .i64 (i : Nat)))), (9, .c (.d (.int .i64 (j : Nat))))], ⟨1, [(0, .cells [.d (.list 1 (ofStrs ps)), .d (.bool l), .d (.bool r)])]⟩⟩) (x.length + 1) ?_ (by rintro st ⟨i, h1, h2, _⟩; omega) ?_
       · exact weak_keep [5, 7, 9] rfl ⟨0, by omega, by omega, rfl⟩
       · rintro n' K' hK' st ⟨j, hj, hn', rfl⟩
         by_cases hje : j = x.length
         · repeat' first
            |  with_reducible refine awp_seq ?_ | with_reducible refine awp_region ?_ | with_reducible refine ops_nil ?_ | with_reducible refine seqK_n ?_ | with_reducible refine seqK_r ?_ | with_reducible refine seqK_e ?_ | with_reducible refine weak_id ?_ | with_reducible refine awp_ret ?_ | with_reducible refine awp_skip ?_ | with_reducible refine awp_exit ?_ | with_reducible refine awp_block ?_ | with_reducible refine blkK_n ?_ | with_reducible refine blkK_r ?_ | with_reducible refine blkK_e ?_ | with_reducible refine awp_goto ?_ | with_reducible refine jmpK_n ?_ | with_reducible refine jmpK_r ?_ | with_reducible refine jmpK_e ?_ | with_reducible refine jmpK_g ?_ | with_reducible refine seqK_g ?_ | with_reducible refine blkK_g ?_ | (with_reducible refine blkK_o (by decide) ?_) | ((with_reducible apply step_go); rfl) | ((with_reducible apply step_skip); rfl; decide) | ((with_reducible apply step_skip_u); rfl) | ((with_reducible apply awp_cond_t); rfl) | ((with_reducible apply awp_cond_f); rfl) | ((with_reducible apply step_lss); rfl; rfl; all_goals (intro hc; first | (exfalso; omega) | skip)) | ((with_reducible apply step_leq); rfl; rfl; all_goals (intro hc; first | (exfalso; omega) | skip)) | ((with_reducible apply step_gtr); rfl; rfl; all_goals (intro hc; first | (exfalso; omega) | skip)) | ((with_reducible apply step_geq); rfl; rfl; all_goals (intro hc; first | (exfalso; omega) | skip)) | ((with_reducible apply step_eql); rfl; rfl; all_goals (intro hc; first | (exfalso; omega) | skip)) | ((with_reducible apply step_neq); rfl; rfl; all_goals (intro hc; first | (exfalso; omega) | skip)) | ((with_reducible apply step_eqs); rfl; rfl; all_goals (intro hc; first | contradiction | skip)) | ((with_reducible apply step_nes); rfl; rfl; all_goals (intro hc; first | contradiction | skip)) | ((with_reducible apply step_addi); rfl; rfl; omega; omega) | ((with_reducible apply step_subi); rfl; rfl; omega; omega) | ((with_reducible apply step_byte); rfl; rfl; omega; omega; intro c hget hc) | ((with_reducible apply step_char); rfl; rfl; omega; omega; intro c hget hc) | ((with_reducible apply step_slb); rfl; (first | exact .inl rfl | assumption); rfl; rfl; omega; omega; omega; intro s' hs' hl') | ((with_reducible apply step_sub_s); rfl; rfl; rfl; omega; omega; omega; intro s' hs' hl') | ((with_reducible apply step_bs); rfl)
            | refine step_op (ev_idx rfl rfl (by omega) hx rfl) ?_
            |  with_reducible refine awp_seq ?_ | with_reducible refine awp_region ?_ | with_reducible refine ops_nil ?_ | with_reducible refine seqK_n ?_ | with_reducible refine seqK_r ?_ | with_reducible refine seqK_e ?_ | with_reducible refine weak_id ?_ | with_reducible refine awp_ret ?_ | with_reducible refine awp_skip ?_ | with_reducible refine awp_exit ?_ | with_reducible refine awp_block ?_ | with_reducible refine blkK_n ?_ | with_reducible refine blkK_r ?_ | with_reducible refine blkK_e ?_ | with_reducible refine awp_goto ?_ | with_reducible refine jmpK_n ?_ | with_reducible refine jmpK_r ?_ | with_reducible refine jmpK_e ?_ | with_reducible refine jmpK_g ?_ | with_reducible refine seqK_g ?_ | with_reducible refine blkK_g ?_ | (with_reducible refine blkK_o (by decide) ?_) | ((with_reducible apply step_go); rfl) | ((with_reducible apply step_skip); rfl; decide) | ((with_reducible apply step_skip_u); rfl) | ((with_reducible apply awp_cond_t); rfl) | ((with_reducible apply awp_cond_f); rfl) | refine step_op rfl ?_ | refine step_op0 rfl ?_
           exact hK _ (weak_keep [5, 7] rfl ⟨i + 1, by omega, by omega, rfl⟩)
         · have hjl : j < x.length := by omega
           repeat' first
            |  with_reducible refine awp_seq ?_ | with_reducible refine awp_region ?_ | with_reducible refine ops_nil ?_ | with_reducible refine seqK_n ?_ | with_reducible refine seqK_r ?_ | with_reducible refine seqK_e ?_ | with_reducible refine weak_id ?_ | with_reducible refine awp_ret ?_ | with_reducible refine awp_skip ?_ | with_reducible refine awp_exit ?_ | with_reducible refine awp_block ?_ | with_reducible refine blkK_n ?_ | with_reducible refine blkK_r ?_ | with_reducible refine blkK_e ?_ | with_reducible refine awp_goto ?_ | with_reducible refine jmpK_n ?_ | with_reducible refine jmpK_r ?_ | with_reducible refine jmpK_e ?_ | with_reducible refine jmpK_g ?_ | with_reducible refine seqK_g ?_ | with_reducible refine blkK_g ?_ | (with_reducible refine blkK_o (by decide) ?_) | ((with_reducible apply step_go); rfl) | ((with_reducible apply step_skip); rfl; decide) | ((with_reducible apply step_skip_u); rfl) | ((with_reducible apply awp_cond_t); rfl) | ((with_reducible apply awp_cond_f); rfl) | ((with_reducible apply step_lss); rfl; rfl; all_goals (intro hc; first | (exfalso; omega) | skip)) | ((with_reducible apply step_leq); rfl; rfl; all_goals (intro hc; first | (exfalso; omega) | skip)) | ((with_reducible apply step_gtr); rfl; rfl; all_goals (intro hc; first | (exfalso; omega) | skip)) | ((with_reducible apply step_geq); rfl; rfl; all_goals (intro hc; first | (exfalso; omega) | skip)) | ((with_reducible apply step_eql); rfl; rfl; all_goals (intro hc; first | (exfalso; omega) | skip)) | ((with_reducible apply step_neq); rfl; rfl; all_goals (intro hc; first | (exfalso; omega) | skip)) | ((with_reducible apply step_eqs); rfl; rfl; all_goals (intro hc; first | contradiction | skip)) | ((with_reducible apply step_nes); rfl; rfl; all_goals (intro hc; first | contradiction | skip)) | ((with_reducible apply step_addi); rfl; rfl; omega; omega) | ((with_reducible apply step_subi); rfl; rfl; omega; omega) | ((with_reducible apply step_byte); rfl; rfl; omega; omega; intro c hget hc) | ((with_reducible apply step_char); rfl; rfl; omega; omega; intro c hget hc) | ((with_reducible apply step_slb); rfl; (first | exact .inl rfl | assumption); rfl; rfl; omega; omega; omega; intro s' hs' hl') | ((with_reducible apply step_sub_s); rfl; rfl; rfl; omega; omega; omega; intro s' hs' hl') | ((with_reducible apply step_bs); rfl)
            | refine step_op (ev_idx rfl rfl (by omega) hx rfl) ?_
            |  with_reducible refine awp_seq ?_ | with_reducible refine awp_region ?_ | with_reducible refine ops_nil ?_ | with_reducible refine seqK_n ?_ | with_reducible refine seqK_r ?_ | with_reducible refine seqK_e ?_ | with_reducible refine weak_id ?_ | with_reducible refine awp_ret ?_ | with_reducible refine awp_skip ?_ | with_reducible refine awp_exit ?_ | with_reducible refine awp_block ?_ | with_reducible refine blkK_n ?_ | with_reducible refine blkK_r ?_ | with_reducible refine blkK_e ?_ | with_reducible refine awp_goto ?_ | with_reducible refine jmpK_n ?_ | with_reducible refine jmpK_r ?_ | with_reducible refine jmpK_e ?_ | with_reducible refine jmpK_g ?_ | with_reducible refine seqK_g ?_ | with_reducible refine blkK_g ?_ | (with_reducible refine blkK_o (by decide) ?_) | ((with_reducible apply step_go); rfl) | ((with_reducible apply step_skip); rfl; decide) | ((with_reducible apply step_skip_u); rfl) | ((with_reducible apply awp_cond_t); rfl) | ((with_reducible apply awp_cond_f); rfl) | refine step_op rfl ?_ | refine step_op0 rfl ?_
           · exfalso
             have h95 : c = 95 := UInt8.toNat_inj.1 (by show c.toNat = 95; omega)
             have hge := Lib.indexByte_ge x 95
             have := Lib.indexByte_none (l := x) (c := 95) (by omega) j
             rw [h95] at hget
             exact this (by simpa using hget)
           · exact hK' _ (weak_keep [5, 7, 9] rfl ⟨j + 1, by omega, by omega, rfl⟩))
def G11 : List DV → Option DV
  | [.c (.str _)] => some (.c (.bool true))
  | _ => none
set_option maxRecDepth 8000 in
set_option maxHeartbeats 8000000 in
theorem w11 {G : List DV → Option DV} (hG : KB R37 G) (ds : List DV) (r : DV) (h : G11 ds = some r) : awp (tbl [(17, G17), (18, G18), (19, G19 (partV G)), (33, G33), (34, G34), (37, G)]) c11 (PureQ [.t 2] r) ⟨argE 0 (dvArgs ds), ⟨0, []⟩⟩ := by
  unfold G11 at h
  split at h
  · rename_i s
    cases h
    have h17 : G17 [] = some (.c (.bool true)) := rfl
    have h18 : G18 [.c (.str s)] = some (.c (.str (s.take 60))) := rfl
    generalize s.take 60 = p at h18
    cases hS : shapeOf (partV G) p with
    | none =>
      have h19 : G19 (partV G) [.c (.str p)] = some (.tup [.agg [.list 0 [], .bool false, .bool false], .c (.int .i64 23)]) := by simp only [G19, hS]; rfl
      have h33 : G33 [.agg [.list 0 [], .bool false, .bool false], .agg [.list 0 [], .bool false, .bool false]] = some (.c (.bool true)) := by kernel_rfl
      unfold c11
      repeat' first
        |  with_reducible refine awp_seq ?_ | with_reducible refine awp_region ?_ | with_reducible refine ops_nil ?_ | with_reducible refine seqK_n ?_ | with_reducible refine seqK_r ?_ | with_reducible refine seqK_e ?_ | with_reducible refine weak_id ?_ | with_reducible refine awp_ret ?_ | with_reducible refine awp_skip ?_ | with_reducible refine awp_exit ?_ | with_reducible refine awp_block ?_ | with_reducible refine blkK_n ?_ | with_reducible refine blkK_r ?_ | with_reducible refine blkK_e ?_ | with_reducible refine awp_goto ?_ | with_reducible refine jmpK_n ?_ | with_reducible refine jmpK_r ?_ | with_reducible refine jmpK_e ?_ | with_reducible refine jmpK_g ?_ | with_reducible refine seqK_g ?_ | with_reducible refine blkK_g ?_ | (with_reducible refine blkK_o (by decide) ?_) | ((with_reducible apply step_go); rfl) | ((with_reducible apply step_skip); rfl; decide) | ((with_reducible apply step_skip_u); rfl) | ((with_reducible apply awp_cond_t); rfl) | ((with_reducible apply awp_cond_f); rfl) | ((with_reducible apply step_lss); rfl; rfl; all_goals (intro hc; first | (exfalso; omega) | skip)) | ((with_reducible apply step_leq); rfl; rfl; all_goals (intro hc; first | (exfalso; omega) | skip)) | ((with_reducible apply step_gtr); rfl; rfl; all_goals (intro hc; first | (exfalso; omega) | skip)) | ((with_reducible apply step_geq); rfl; rfl; all_goals (intro hc; first | (exfalso; omega) | skip)) | ((with_reducible apply step_eql); rfl; rfl; all_goals (intro hc; first | (exfalso; omega) | skip)) | ((with_reducible apply step_neq); rfl; rfl; all_goals (intro hc; first | (exfalso; omega) | skip)) | ((with_reducible apply step_eqs); rfl; rfl; all_goals (intro hc; first | contradiction | skip)) | ((with_reducible apply step_nes); rfl; rfl; all_goals (intro hc; first | contradiction | skip)) | ((with_reducible apply step_addi); rfl; rfl; omega; omega) | ((with_reducible apply step_subi); rfl; rfl; omega; omega) | ((with_reducible apply step_byte); rfl; rfl; omega; omega; intro c hget hc) | ((with_reducible apply step_char); rfl; rfl; omega; omega; intro c hget hc) | ((with_reducible apply step_slb); rfl; (first | exact .inl rfl | assumption); rfl; rfl; omega; omega; omega; intro s' hs' hl') | ((with_reducible apply step_sub_s); rfl; rfl; rfl; omega; omega; omega; intro s' hs' hl') | ((with_reducible apply step_bs); rfl)
        | ((with_reducible apply step_pc (f := 17)); rfl; rfl; rfl; exact h17; rfl)
        | ((with_reducible apply step_pc (f := 18)); rfl; rfl; rfl; exact h18; rfl)
        | ((with_reducible apply step_pc (f := 19)); rfl; rfl; rfl; exact h19; rfl)
        | ((with_reducible apply step_pc (f := 33)); rfl; rfl; rfl; exact h33; rfl)
        |  with_reducible refine awp_seq ?_ | with_reducible refine awp_region ?_ | with_reducible refine ops_nil ?_ | with_reducible refine seqK_n ?_ | with_reducible refine seqK_r ?_ | with_reducible refine seqK_e ?_ | with_reducible refine weak_id ?_ | with_reducible refine awp_ret ?_ | with_reducible refine awp_skip ?_ | with_reducible refine awp_exit ?_ | with_reducible refine awp_block ?_ | with_reducible refine blkK_n ?_ | with_reducible refine blkK_r ?_ | with_reducible refine blkK_e ?_ | with_reducible refine awp_goto ?_ | with_reducible refine jmpK_n ?_ | with_reducible refine jmpK_r ?_ | with_reducible refine jmpK_e ?_ | with_reducible refine jmpK_g ?_ | with_reducible refine seqK_g ?_ | with_reducible refine blkK_g ?_ | (with_reducible refine blkK_o (by decide) ?_) | ((with_reducible apply step_go); rfl) | ((with_reducible apply step_skip); rfl; decide) | ((with_reducible apply step_skip_u); rfl) | ((with_reducible apply awp_cond_t); rfl) | ((with_reducible apply awp_cond_f); rfl) | refine step_op rfl ?_ | refine step_op0 rfl ?_
      exact ⟨_, rfl, rfl⟩
    | some v =>
      obtain ⟨h40, ht, hm⟩ := shapeOf_some hS
      have htext := shape_text hS
      obtain ⟨ps, l, rr⟩ := v
      obtain ⟨m1, m2, m3, m4⟩ := mayS_inv hm
      have hl := ofStrs_len ps
      have hjl := text_len ⟨ps, l, rr⟩
      rw [htext] at hjl
      have h19 : G19 (partV G) [.c (.str p)] = some (.tup [.agg [.list 1 (ofStrs ps), .bool l, .bool rr], .c (.int .i64 0)]) := by simp only [G19, hS]; rfl
      have h34 : G34 [.agg [.list 1 (ofStrs ps), .bool l, .bool rr]] = some (.c (.str p)) := by
        simp only [G34, strsOf_back]
        rw [if_pos ⟨.inl trivial, by simp only [joinOk, Bool.and_eq_true, decide_eq_true_eq]; unfold room; simp only at hjl; omega⟩, htext]
      have hpl : ∀ q ∈ ps, q.length ≤ 40 := by
        intro q hq
        have hsub : q ∈ cutU 95 p := by
          have e := congrArg SV.parts ht
          simp only at e
          rw [← e] at hq
          exact trim_sub hq
        have := (cutU_len 95 p).2 q hsub
        omega
      have hfin := w11r hG hm hpl
      have hff : l = false → rr = false → ps.length ≠ 1 := by
        intro e1 e2 e3
        rcases m3 e3 with h | h
        · rw [e1] at h; cases h
        · rw [e2] at h; cases h
      cases l <;> cases rr <;>
      ((try have hff := hff rfl rfl)
       unfold c11
       repeat' first
        | exact weak_keep [5] rfl hfin
        |  with_reducible refine awp_seq ?_ | with_reducible refine awp_region ?_ | with_reducible refine ops_nil ?_ | with_reducible refine seqK_n ?_ | with_reducible refine seqK_r ?_ | with_reducible refine seqK_e ?_ | with_reducible refine weak_id ?_ | with_reducible refine awp_ret ?_ | with_reducible refine awp_skip ?_ | with_reducible refine awp_exit ?_ | with_reducible refine awp_block ?_ | with_reducible refine blkK_n ?_ | with_reducible refine blkK_r ?_ | with_reducible refine blkK_e ?_ | with_reducible refine awp_goto ?_ | with_reducible refine jmpK_n ?_ | with_reducible refine jmpK_r ?_ | with_reducible refine jmpK_e ?_ | with_reducible refine jmpK_g ?_ | with_reducible refine seqK_g ?_ | with_reducible refine blkK_g ?_ | (with_reducible refine blkK_o (by decide) ?_) | ((with_reducible apply step_go); rfl) | ((with_reducible apply step_skip); rfl; decide) | ((with_reducible apply step_skip_u); rfl) | ((with_reducible apply awp_cond_t); rfl) | ((with_reducible apply awp_cond_f); rfl) | ((with_reducible apply step_lss); rfl; rfl; all_goals (intro hc; first | (exfalso; omega) | skip)) | ((with_reducible apply step_leq); rfl; rfl; all_goals (intro hc; first | (exfalso; omega) | skip)) | ((with_reducible apply step_gtr); rfl; rfl; all_goals (intro hc; first | (exfalso; omega) | skip)) | ((with_reducible apply step_geq); rfl; rfl; all_goals (intro hc; first | (exfalso; omega) | skip)) | ((with_reducible apply step_eql); rfl; rfl; all_goals (intro hc; first | (exfalso; omega) | skip)) | ((with_reducible apply step_neq); rfl; rfl; all_goals (intro hc; first | (exfalso; omega) | skip)) | ((with_reducible apply step_eqs); rfl; rfl; all_goals (intro hc; first | contradiction | skip)) | ((with_reducible apply step_nes); rfl; rfl; all_goals (intro hc; first | contradiction | skip)) | ((with_reducible apply step_addi); rfl; rfl; omega; omega) | ((with_reducible apply step_subi); rfl; rfl; omega; omega) | ((with_reducible apply step_byte); rfl; rfl; omega; omega; intro c hget hc) | ((with_reducible apply step_char); rfl; rfl; omega; omega; intro c hget hc) | ((with_reducible apply step_slb); rfl; (first | exact .inl rfl | assumption); rfl; rfl; omega; omega; omega; intro s' hs' hl') | ((with_reducible apply step_sub_s); rfl; rfl; rfl; omega; omega; omega; intro s' hs' hl') | ((with_reducible apply step_bs); rfl)
        | ((with_reducible apply step_pc (f := 17)); rfl; rfl; rfl; exact h17; rfl)
        | ((with_reducible apply step_pc (f := 18)); rfl; rfl; rfl; exact h18; rfl)
        | ((with_reducible apply step_pc (f := 19)); rfl; rfl; rfl; exact h19; rfl)
        | ((with_reducible apply step_pc (f := 34)); rfl; rfl; rfl; exact h34; rfl)
        |  with_reducible refine awp_seq ?_ | with_reducible refine awp_region ?_ | with_reducible refine ops_nil ?_ | with_reducible refine seqK_n ?_ | with_reducible refine seqK_r ?_ | with_reducible refine seqK_e ?_ | with_reducible refine weak_id ?_ | with_reducible refine awp_ret ?_ | with_reducible refine awp_skip ?_ | with_reducible refine awp_exit ?_ | with_reducible refine awp_block ?_ | with_reducible refine blkK_n ?_ | with_reducible refine blkK_r ?_ | with_reducible refine blkK_e ?_ | with_reducible refine awp_goto ?_ | with_reducible refine jmpK_n ?_ | with_reducible refine jmpK_r ?_ | with_reducible refine jmpK_e ?_ | with_reducible refine jmpK_g ?_ | with_reducible refine seqK_g ?_ | with_reducible refine blkK_g ?_ | (with_reducible refine blkK_o (by decide) ?_) | ((with_reducible apply step_go); rfl) | ((with_reducible apply step_skip); rfl; decide) | ((with_reducible apply step_skip_u); rfl) | ((with_reducible apply awp_cond_t); rfl) | ((with_reducible apply awp_cond_f); rfl) | refine step_op rfl ?_ | refine step_op0 rfl ?_)
  · cases h
/-- THE LAW's FUNCTION: true, of any text. -/
theorem shapeBack_ok (m : Int) : PureFn Go.Proofs.Tryd.prog (glb m) 11 G11 := by
  obtain ⟨G, p37, hG⟩ := lexAll m
  have p46 := pok46 (.inl p37) hG
  have p19 := pok19 (pok47 (pok63 (pok45 p46)))
  exact pure_fn (fn11 m) (callOk_cons (pok17 hG p19) (callOk_cons (pok18 m) (callOk_cons p19 (callOk_cons (pok33 m) (callOk_cons (pok34 m) (callOk_cons (.inl p37) (callOk_nil _ _))))))) (w11 hG)
end Go.Am
