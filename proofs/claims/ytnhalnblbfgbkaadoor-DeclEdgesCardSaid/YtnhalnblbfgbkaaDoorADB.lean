/-
  Directives: decl.operator, Of; of a text; digits.Put.
-/
import Derived.Test.YtnhalnblbfgbkaaDoorADA
import Derived.Test.YtnhalnblbfgbkaaDoorALK
import Derived.Test.YtnhalnblbfgbkaaDoorANQ
namespace Go.Am
open Go
def simpleV (kind name : List UInt8) : List UInt8 × Int × Int := match simpleIn simplesT kind with
  | none => ([], 0, 22)
  | some (l, r, a) => if name = [] ∨ 0 ≤ Lib.indexByte name 95 then ([], 0, 23) else (textOf ⟨[name], l, r⟩, (a : Int), 0)
theorem G40_eq {kind name : List UInt8} (h : name.length ≤ 1000) : G40 [.c (.str kind), .c (.str name)] = some (.tup [.c (.str (simpleV kind name).1), .c (.int .i64 (simpleV kind name).2.1), .c (.int .i64 (simpleV kind name).2.2)]) := by
  show simpleDV kind name = _
  unfold simpleDV simpleV
  have hj : joinOk [name] [95] = true := by
    simp only [joinOk, join_single, Bool.and_eq_true, decide_eq_true_eq, List.length_singleton]
    unfold room
    omega
  cases simpleIn simplesT kind with
  | none => rfl
  | some q =>
    obtain ⟨l, r, a⟩ := q
    simp only
    split
    · rfl
    · first | rfl | rw [if_pos hj]
def decl0 : List D := [.int .i64 0, .str [], .int .i64 0, .int .i64 0, .int .i64 0, .int .i64 0]
def declR (x : List D × Int) : DV := .tup [.agg x.1, .c (.int .i64 x.2)]
def opEnd (g : Int) (pat : List UInt8) (a : Int) : List D × Int :=
  if g ≠ 0 then (if mayOf partE pat g a ≠ 0 then (decl0, mayOf partE pat g a) else ([.int .i64 1, .str pat, .int .i64 g, .int .i64 a, .int .i64 0, .int .i64 0], 0))
  else match shapeOf partE pat with
    | none => (decl0, 23)
    | some _ => ([.int .i64 2, .str pat, .int .i64 0, .int .i64 0, .int .i64 0, .int .i64 0], 0)
def opV (g : Int) (kind name : List UInt8) : List D × Int :=
  if kind = [110, 111, 110] then opEnd g name 0
  else if kind = [108, 101, 102, 116] then opEnd g name 1
  else if kind = [114, 105, 103, 104, 116] then opEnd g name 2
  else if (simpleV kind name).2.2 ≠ 0 then (decl0, (simpleV kind name).2.2) else opEnd g (simpleV kind name).1 (simpleV kind name).2.1
noncomputable def T316 : List DV → Option DV := fam (fun x : Int × List UInt8 × List UInt8 => [.c (.int .i64 x.1), .c (.str x.2.1), .c (.str x.2.2)]) (fun x => x.2.2.length ≤ 1000) (fun x => declR (opV x.1 x.2.1 x.2.2))
theorem T316_eq {g : Int} {kind name : List UInt8} (h : name.length ≤ 1000) : T316 [.c (.int .i64 g), .c (.str kind), .c (.str name)] = some (declR (opV g kind name)) := by
  refine fam_eq (ι := Int × List UInt8 × List UInt8) (g, kind, name) h ?_
  rintro ⟨g', kind', name'⟩ _ e
  simp only [List.cons.injEq, DV.c.injEq, D.int.injEq, D.str.injEq, true_and, and_true] at e
  rw [e.1, e.2.1, e.2.2]
noncomputable def clO : Call := tbl [(30, G19 partE), (70, G40), (71, G42 partE)]
set_option maxRecDepth 8000 in
set_option maxHeartbeats 2000000 in
theorem w316t (g : Int) (pat : List UInt8) (a : Int) : awp clO (c316.tail 3) (PureQ [.cell 6 6 true, .t 7] (declR (opEnd g pat a)))
    ⟨[(0, .c (.d (.int .i64 g))), (6, .c (.ptr 0 0)), (8, .c (.ptr 1 0))], ⟨2, [(1, .cells [.d (.str pat), .d (.int .i64 g), .d (.int .i64 a)]), (0, .cells (decl0.map .d))]⟩⟩ := by
  have h42 : G42 partE [.agg [.str pat, .int .i64 g, .int .i64 a]] = some (.c (.int .i64 (mayOf partE pat g a))) := rfl
  have h19 : G19 partE [.c (.str pat)] = some (svDV (shapeOf partE pat)) := rfl
  unfold opEnd clO c316
  dsimp only [ACode.tail]
  by_cases hg : g = 0
  · rw [if_neg (by simp [hg])]
    cases hs : shapeOf partE pat with
    | none =>
      rw [hs] at h19
      unfold svDV at h19
      simp only at h19 ⊢
      repeat' first | refine GoH ?_ | refine ZB (ev_neq_f rfl rfl hg) ?_ | ((with_reducible apply Z1 (f := 30));rfl;rfl;rfl;exact h19;rfl) | refine ZB rfl ?_|refine ZC rfl ?_
      exact ⟨_, rfl, rfl⟩
    | some v =>
      rw [hs] at h19
      unfold svDV at h19
      simp only at h19 ⊢
      repeat' first | refine GoH ?_ | refine ZB (ev_neq_f rfl rfl hg) ?_ | ((with_reducible apply Z1 (f := 30));rfl;rfl;rfl;exact h19;rfl) | refine ZB rfl ?_|refine ZC rfl ?_
      exact ⟨_, rfl, rfl⟩
  · rw [if_pos hg]
    generalize mayOf partE pat g a = m at h42 ⊢
    by_cases hm : m = 0
    · rw [if_neg (by simp [hm])]
      repeat' first | refine GoH ?_ | refine ZB (ev_neq_t rfl rfl hg) ?_ | refine ZB (ev_neq_f rfl rfl hm) ?_ | ((with_reducible apply Z1 (f := 71));rfl;rfl;rfl;exact h42;rfl) | refine ZB rfl ?_|refine ZC rfl ?_
      exact ⟨_, rfl, rfl⟩
    · rw [if_pos hm]
      repeat' first | refine GoH ?_ | refine ZB (ev_neq_t rfl rfl hg) ?_ | refine ZB (ev_neq_t rfl rfl hm) ?_ | ((with_reducible apply Z1 (f := 71));rfl;rfl;rfl;exact h42;rfl) | refine ZB rfl ?_|refine ZC rfl ?_
      exact ⟨_, rfl, rfl⟩
set_option maxRecDepth 8000 in
set_option maxHeartbeats 2000000 in
theorem w316 (x : Int × List UInt8 × List UInt8) (h : x.2.2.length ≤ 1000) : awp clO c316 (PureQ [.cell 6 6 true, .t 7] (declR (opV x.1 x.2.1 x.2.2))) ⟨argE 0 (dvArgs [.c (.int .i64 x.1), .c (.str x.2.1), .c (.str x.2.2)]), ⟨0, []⟩⟩ := by
  obtain ⟨g, kind, name⟩ := x
  simp only at h ⊢
  have h40 := G40_eq (kind := kind) h
  have t := w316t g
  unfold opV
  generalize simpleV kind name = q at h40 ⊢
  obtain ⟨q1, q2, q3⟩ := q
  simp only at h40 ⊢
  by_cases k1 : kind = [110, 111, 110]
  · rw [if_pos k1]
    have t := t name 0
    unfold clO c316 at *
    dsimp only [ACode.tail] at t
    repeat' first | ((with_reducible apply weak_keep [0, 6, 8]); rfl; exact t) | refine GoH ?_ | refine ZB (ev_eqs_t rfl rfl k1) ?_ | refine ZB rfl ?_|refine ZC rfl ?_
  · rw [if_neg k1]
    by_cases k2 : kind = [108, 101, 102, 116]
    · rw [if_pos k2]
      have t := t name 1
      unfold clO c316 at *
      dsimp only [ACode.tail] at t
      repeat' first | ((with_reducible apply weak_keep [0, 6, 8]); rfl; exact t) | refine GoH ?_ | refine ZB (ev_eqs_f rfl rfl k1) ?_ | refine ZB (ev_eqs_t rfl rfl k2) ?_ | refine ZB rfl ?_|refine ZC rfl ?_
    · rw [if_neg k2]
      by_cases k3 : kind = [114, 105, 103, 104, 116]
      · rw [if_pos k3]
        have t := t name 2
        unfold clO c316 at *
        dsimp only [ACode.tail] at t
        repeat' first | ((with_reducible apply weak_keep [0, 6, 8]); rfl; exact t) | refine GoH ?_ | refine ZB (ev_eqs_f rfl rfl k1) ?_ | refine ZB (ev_eqs_f rfl rfl k2) ?_ | refine ZB (ev_eqs_t rfl rfl k3) ?_ | refine ZB rfl ?_|refine ZC rfl ?_
      · rw [if_neg k3]
        by_cases k4 : q3 = 0
        · rw [if_neg (by simp [k4])]
          have t := t q1 q2
          unfold clO c316 at *
          dsimp only [ACode.tail] at t
          repeat' first | ((with_reducible apply weak_keep [0, 6, 8]); rfl; exact t) | refine GoH ?_ | refine ZB (ev_eqs_f rfl rfl k1) ?_ | refine ZB (ev_eqs_f rfl rfl k2) ?_ | refine ZB (ev_eqs_f rfl rfl k3) ?_ | refine ZB (ev_neq_f rfl rfl k4) ?_ | ((with_reducible apply Z1 (f := 70));rfl;rfl;rfl;exact h40;rfl) | refine ZB rfl ?_|refine ZC rfl ?_
        · rw [if_pos k4]
          clear t
          unfold clO c316
          repeat' first | refine GoH ?_ | refine ZB (ev_eqs_f rfl rfl k1) ?_ | refine ZB (ev_eqs_f rfl rfl k2) ?_ | refine ZB (ev_eqs_f rfl rfl k3) ?_ | refine ZB (ev_neq_t rfl rfl k4) ?_ | ((with_reducible apply Z1 (f := 70));rfl;rfl;rfl;exact h40;rfl) | refine ZB rfl ?_|refine ZC rfl ?_
          exact ⟨_, rfl, rfl⟩
theorem p19S (m : Int) : PureOk Go.Proofs.Tryd.prog (glbS m) 30 (G19 partE) := (pok19 (pok47 (pok63 (pok45 (pok46 (pe37 m) kbE))))).s
theorem pok316 (m : Int) : PureOk Go.Proofs.Tryd.prog (glbS m) 39 T316 := .inl (fam_ok (fn316 m) (callOk_cons (p19S m) (callOk_cons (pok40 m) (callOk_cons (pok42 (p19S m)) (callOk_nil _ _)))) w316)
def tkAt (l : List Tk5) (i : Nat) : Tk5 := l.getD i ⟨0, 0, 0, [], 0⟩
def declOf (l : List Tk5) : List D × Int :=
  if rowB l [111, 112] [40, 78, 44, 65, 44, 81, 41, 46] = true then opV (numI (tkAt l 3).s) (tkAt l 5).s (tkAt l 7).s
  else if rowB l [101, 100, 103, 101] [40, 78, 44, 78, 41, 46] = true then ([.int .i64 3, .str [], .int .i64 0, .int .i64 0, .int .i64 (numI (tkAt l 3).s), .int .i64 (numI (tkAt l 5).s)], 0)
  else if rowB l [98, 101, 103, 105, 110] [46] = true then ([.int .i64 4, .str [], .int .i64 0, .int .i64 0, .int .i64 0, .int .i64 0], 0)
  else if rowB l [101, 110, 100] [46] = true then ([.int .i64 5, .str [], .int .i64 0, .int .i64 0, .int .i64 0, .int .i64 0], 0)
  else (decl0, 20)
theorem rowB_len {l : List Tk5} {w s : List UInt8} (h : rowB l w s = true) : l.length = s.length + 2 := by
  unfold rowB at h
  simp only [Bool.and_eq_true, decide_eq_true_eq] at h
  exact h.1
noncomputable def T306 : List DV → Option DV := fam (fun x : (Int × Int × Int) × Nat × List Tk5 => [.agg (pieceD x.1.1 x.1.2.1 x.1.2.2 x.2.1 x.2.2)]) (fun x => x.2.2.length ≤ 1000 ∧ ∀ t ∈ x.2.2, t.s.length ≤ 1000) (fun x => declR (declOf x.2.2))
theorem T306_eq {a b f : Int} {sz : Nat} {l : List Tk5} (h : l.length ≤ 1000 ∧ ∀ t ∈ l, t.s.length ≤ 1000) : T306 [.agg (pieceD a b f sz l)] = some (declR (declOf l)) := by
  refine fam_eq (ι := (Int × Int × Int) × Nat × List Tk5) ((a, b, f), sz, l) h ?_
  rintro ⟨⟨a', b', f'⟩, sz', l'⟩ _ e
  simp only [List.cons.injEq, DV.agg.injEq, and_true] at e
  rw [pieceD_inj e]
theorem tkAt_eq {l : List Tk5} {i : Nat} (h : i < l.length) : tkAt l i = l[i] := by
  unfold tkAt
  rw [List.getD_eq_getElem?_getD, List.getElem?_eq_getElem h]
  rfl
theorem toks_atN {l : List Tk5} {i : Nat} {z : Int} (hz : z.toNat = i) (h : i < l.length) : (l.map tkD)[z.toNat]? = some (tkD (tkAt l i)) := by
  rw [tkAt_eq h]; exact toks_at hz h
set_option maxRecDepth 8000 in
set_option maxHeartbeats 4000000 in
theorem w306 (x : (Int × Int × Int) × Nat × List Tk5) (h : x.2.2.length ≤ 1000 ∧ ∀ t ∈ x.2.2, t.s.length ≤ 1000) : awp (tbl [(38, T315), (39, T316), (40, T317)]) c306 (PureQ [.cell 2 6 true, .t 3] (declR (declOf x.2.2))) ⟨argE 0 (dvArgs [.agg (pieceD x.1.1 x.1.2.1 x.1.2.2 x.2.1 x.2.2)]), ⟨0, []⟩⟩ := by
  obtain ⟨⟨a, b, f⟩, sz, l⟩ := x
  obtain ⟨hl, hs⟩ := h
  simp only at hl hs ⊢
  have q1 := T315_eq (sz := sz) (l := l) (w := [111, 112]) (signs := [40, 78, 44, 65, 44, 81, 41, 46]) hl (by decide) (by decide)
  have q2 := T315_eq (sz := sz) (l := l) (w := [101, 100, 103, 101]) (signs := [40, 78, 44, 78, 41, 46]) hl (by decide) (by decide)
  have q3 := T315_eq (sz := sz) (l := l) (w := [98, 101, 103, 105, 110]) (signs := [46]) hl (by decide) (by decide)
  have q4 := T315_eq (sz := sz) (l := l) (w := [101, 110, 100]) (signs := [46]) hl (by decide) (by decide)
  have hat : ∀ i, i < l.length → (tkAt l i).s.length ≤ 1000 := fun i hi => by rw [tkAt_eq hi]; exact hs _ (List.getElem_mem hi)
  have hroom : ∀ i, i < l.length → (tkAt l i).s.length ≤ room := fun i hi => by have := hat i hi; unfold room; omega
  unfold declOf
  cases e1 : rowB l [111, 112] [40, 78, 44, 65, 44, 81, 41, 46] with
  | true =>
    rw [e1] at q1
    have hlen : l.length = 10 := rowB_len e1
    have g3 := toks_atN (l := l) (i := 3) (z := 3) rfl (by omega)
    have g5 := toks_atN (l := l) (i := 5) (z := 5) rfl (by omega)
    have g7 := toks_atN (l := l) (i := 7) (z := 7) rfl (by omega)
    have n3 := T317_eq (hroom 3 (by omega))
    have o := T316_eq (g := numI (tkAt l 3).s) (kind := (tkAt l 5).s) (hat 7 (by omega))
    rw [if_pos rfl]
    generalize tkAt l 3 = t3 at *
    generalize tkAt l 5 = t5 at *
    generalize tkAt l 7 = t7 at *
    obtain ⟨k3, a3, b3, s3, x3⟩ := t3
    obtain ⟨k5, a5, b5, s5, x5⟩ := t5
    obtain ⟨k7, a7, b7, s7, x7⟩ := t7
    simp only at *
    generalize hr : opV (numI s3) s5 s7 = r at o ⊢
    obtain ⟨r1, r2⟩ := r
    have hr1 : ∃ d1 d2 d3 d4 d5 d6, r1 = [d1, d2, d3, d4, d5, d6] ∧ (D.flat d1 && (D.flat d2 && (D.flat d3 && (D.flat d4 && (D.flat d5 && (D.flat d6 && true)))))) = true := by
      have he : ∀ g p a, ∃ d1 d2 d3 d4 d5 d6, (opEnd g p a).1 = [d1, d2, d3, d4, d5, d6] ∧ (D.flat d1 && (D.flat d2 && (D.flat d3 && (D.flat d4 && (D.flat d5 && (D.flat d6 && true)))))) = true := fun g p a => by
        unfold opEnd
        split
        · split <;> exact ⟨_, _, _, _, _, _, rfl, rfl⟩
        · split <;> exact ⟨_, _, _, _, _, _, rfl, rfl⟩
      have : r1 = (opV (numI s3) s5 s7).1 := by rw [hr]
      rw [this]
      unfold opV
      split
      · exact he _ _ _
      · split
        · exact he _ _ _
        · split
          · exact he _ _ _
          · split
            · exact ⟨_, _, _, _, _, _, rfl, rfl⟩
            · exact he _ _ _
    obtain ⟨d1, d2, d3, d4, d5, d6, rfl, hflat⟩ := hr1
    have hfl : (DV.tup [.agg [d1, d2, d3, d4, d5, d6], .c (.int .i64 r2)]).flat = true := by
      show ((D.flat d1 && (D.flat d2 && (D.flat d3 && (D.flat d4 && (D.flat d5 && (D.flat d6 && true)))))) && true) = true
      rw [hflat]; rfl
    unfold c306
    repeat' first
      | refine GoH ?_
      | ((with_reducible apply Z1 (f := 38));rfl;rfl;rfl;exact q1;rfl)
      | refine ZY (ev_idx rfl rfl (by omega) g3 rfl) (by (repeat' first|exact True.intro|refine ⟨?_, ?_⟩|exact .inl rfl|exact .inr (.inl rfl)|exact .inr (.inr rfl)|rfl)) ?_
      | refine ZY (ev_idx rfl rfl (by omega) g5 rfl) (by (repeat' first|exact True.intro|refine ⟨?_, ?_⟩|exact .inl rfl|exact .inr (.inl rfl)|exact .inr (.inr rfl)|rfl)) ?_
      | refine ZY (ev_idx rfl rfl (by omega) g7 rfl) (by (repeat' first|exact True.intro|refine ⟨?_, ?_⟩|exact .inl rfl|exact .inr (.inl rfl)|exact .inr (.inr rfl)|rfl)) ?_
      | refine ZY (ev_pcall rfl rfl n3 rfl rfl) (by (repeat' first|exact True.intro|refine ⟨?_, ?_⟩|exact .inl rfl|exact .inr (.inl rfl)|exact .inr (.inr rfl)|rfl)) ?_
      | refine ZY (ev_pcallF rfl rfl o rfl hfl) (by (repeat' first|exact True.intro|refine ⟨?_, ?_⟩|exact .inl rfl|exact .inr (.inl rfl)|exact .inr (.inr rfl)|rfl)) ?_
      | (with_reducible first|apply ZS|apply ZT)|((with_reducible apply ZU);rfl)|((with_reducible apply ZV);rfl;decide)|((with_reducible apply ZW);rfl)|refine ZX rfl rfl ?_|refine ZY rfl (by (repeat' first|exact True.intro|refine ⟨?_, ?_⟩|exact .inl rfl|exact .inr (.inl rfl)|exact .inr (.inr rfl)|rfl)) ?_|refine ZZ (Z0 rfl ⟨rfl, rfl⟩) (by (repeat' first|exact True.intro|refine ⟨?_, ?_⟩|exact .inl rfl|exact .inr (.inl rfl)|exact .inr (.inr rfl)|rfl)) ?_
      | refine ZB rfl ?_|refine ZC rfl ?_
    exact ⟨_, rfl, rfl⟩
  | false =>
    rw [e1] at q1
    rw [if_neg (by simp)]
    cases e2 : rowB l [101, 100, 103, 101] [40, 78, 44, 78, 41, 46] with
    | true =>
      rw [e2] at q2
      have hlen : l.length = 8 := rowB_len e2
      have g3 := toks_atN (l := l) (i := 3) (z := 3) rfl (by omega)
      have g5 := toks_atN (l := l) (i := 5) (z := 5) rfl (by omega)
      have n3 := T317_eq (hroom 3 (by omega))
      have n5 := T317_eq (hroom 5 (by omega))
      rw [if_pos rfl]
      generalize tkAt l 3 = t3 at *
      generalize tkAt l 5 = t5 at *
      obtain ⟨k3, a3, b3, s3, x3⟩ := t3
      obtain ⟨k5, a5, b5, s5, x5⟩ := t5
      simp only at *
      unfold c306
      repeat' first
        | refine GoH ?_
        | ((with_reducible apply Z1 (f := 38));rfl;rfl;rfl;exact q1;rfl)
        | ((with_reducible apply Z1 (f := 38));rfl;rfl;rfl;exact q2;rfl)
            | refine ZY (ev_idx rfl rfl (by omega) g3 rfl) (by (repeat' first|exact True.intro|refine ⟨?_, ?_⟩|exact .inl rfl|exact .inr (.inl rfl)|exact .inr (.inr rfl)|rfl)) ?_
        | refine ZY (ev_idx rfl rfl (by omega) g5 rfl) (by (repeat' first|exact True.intro|refine ⟨?_, ?_⟩|exact .inl rfl|exact .inr (.inl rfl)|exact .inr (.inr rfl)|rfl)) ?_
        | refine ZY (ev_pcall rfl rfl n3 rfl rfl) (by (repeat' first|exact True.intro|refine ⟨?_, ?_⟩|exact .inl rfl|exact .inr (.inl rfl)|exact .inr (.inr rfl)|rfl)) ?_
        | refine ZY (ev_pcall rfl rfl n5 rfl rfl) (by (repeat' first|exact True.intro|refine ⟨?_, ?_⟩|exact .inl rfl|exact .inr (.inl rfl)|exact .inr (.inr rfl)|rfl)) ?_
        | (with_reducible first|apply ZS|apply ZT)|((with_reducible apply ZU);rfl)|((with_reducible apply ZV);rfl;decide)|((with_reducible apply ZW);rfl)|refine ZX rfl rfl ?_|refine ZY rfl (by (repeat' first|exact True.intro|refine ⟨?_, ?_⟩|exact .inl rfl|exact .inr (.inl rfl)|exact .inr (.inr rfl)|rfl)) ?_|refine ZZ (Z0 rfl ⟨rfl, rfl⟩) (by (repeat' first|exact True.intro|refine ⟨?_, ?_⟩|exact .inl rfl|exact .inr (.inl rfl)|exact .inr (.inr rfl)|rfl)) ?_
        | refine ZB rfl ?_|refine ZC rfl ?_
      exact ⟨_, rfl, rfl⟩
    | false =>
      rw [e2] at q2
      rw [if_neg (by simp)]
      cases e3 : rowB l [98, 101, 103, 105, 110] [46] with
      | true =>
        rw [e3] at q3
        rw [if_pos rfl]
        unfold c306
        repeat' first | refine GoH ?_ | ((with_reducible apply Z1 (f := 38));rfl;rfl;rfl;exact q1;rfl) | ((with_reducible apply Z1 (f := 38));rfl;rfl;rfl;exact q2;rfl) | ((with_reducible apply Z1 (f := 38));rfl;rfl;rfl;exact q3;rfl) | refine ZB rfl ?_|refine ZC rfl ?_
        exact ⟨_, rfl, rfl⟩
      | false =>
        rw [e3] at q3
        rw [if_neg (by simp)]
        cases e4 : rowB l [101, 110, 100] [46] with
        | true =>
          rw [e4] at q4
          rw [if_pos rfl]
          unfold c306
          repeat' first | refine GoH ?_ | ((with_reducible apply Z1 (f := 38));rfl;rfl;rfl;exact q1;rfl) | ((with_reducible apply Z1 (f := 38));rfl;rfl;rfl;exact q2;rfl) | ((with_reducible apply Z1 (f := 38));rfl;rfl;rfl;exact q3;rfl) | ((with_reducible apply Z1 (f := 38));rfl;rfl;rfl;exact q4;rfl) | refine ZB rfl ?_|refine ZC rfl ?_
          exact ⟨_, rfl, rfl⟩
        | false =>
          rw [e4] at q4
          rw [if_neg (by simp)]
          unfold c306
          repeat' first | refine GoH ?_ | ((with_reducible apply Z1 (f := 38));rfl;rfl;rfl;exact q1;rfl) | ((with_reducible apply Z1 (f := 38));rfl;rfl;rfl;exact q2;rfl) | ((with_reducible apply Z1 (f := 38));rfl;rfl;rfl;exact q3;rfl) | ((with_reducible apply Z1 (f := 38));rfl;rfl;rfl;exact q4;rfl) | refine ZB rfl ?_|refine ZC rfl ?_
          exact ⟨_, rfl, rfl⟩
theorem pok306 (m : Int) : PureOk Go.Proofs.Tryd.prog (glbS m) 20 T306 := .inl (fam_ok (fn306 m) (callOk_cons (pok315 m) (callOk_cons (pok316 m) (callOk_cons (pok317 m) (callOk_nil _ _)))) w306)
def tk5 (t : Tok) : Tk5 := ⟨t.kind, t.a, t.b, t.text, t.code⟩
theorem tokC_tk (l : List Tok) : l.map tokC = (l.map tk5).map tkD := by rw [List.map_map]; rfl
theorem quoteF_len : ∀ {f : Nat} {s : List UInt8}, (quoteF f s).1.length ≤ s.length
  | 0, _ => Nat.zero_le _
  | f + 1, [] => Nat.zero_le _
  | f + 1, c :: r => by
    have hp := take_pos (s := c :: r) (by simp)
    have hle := take_le (c :: r)
    have h1 := quoteF_len (f := f) (s := r.drop 1)
    have h2 := quoteF_len (f := f) (s := (c :: r).drop (takeOf (c :: r)).1)
    rw [List.length_drop] at h1 h2
    rw [quoteF]
    simp only [List.length_cons] at *
    split
    · exact Nat.zero_le _
    · split
      · split
        · rename_i hn
          have : 0 < r.length := by
            have := nxt_in (s := r) (i := 0) (by omega)
            omega
          simp only [addQ, List.length_append, List.length_cons, List.length_nil]; omega
        · exact Nat.zero_le _
      · split
        · split
          · rename_i hn
            have : 0 < r.length := by
              have := nxt_in (s := r) (i := 0) (by omega)
              omega
            simp only [addQ, List.length_append, List.length_cons, List.length_nil]; omega
          · split
            · rename_i hn
              have : 0 < r.length := by
                have := nxt_in (s := r) (i := 0) (by omega)
                omega
              simp only [addQ, List.length_append, List.length_cons, List.length_nil]; omega
            · exact Nat.zero_le _
        · split
          · exact Nat.zero_le _
          · split
            · simp only [addQ, List.length_append, List.length_take, List.length_cons]; omega
            · exact Nat.zero_le _
theorem tokOf_text (s : List UInt8) : (tokOf s).text.length ≤ s.length := by
  have hq : ∀ c r, (quoteOf (c :: r)).1.length ≤ (c :: r).length := fun c r => by
    have := quoteF_len (f := r.length) (s := r)
    simp only [quoteOf]
    split
    · simp only; split
      · show (quoteF r.length r).1.length ≤ _; simp only [List.length_cons]; omega
      · exact Nat.zero_le _
    · exact Nat.zero_le _
  cases s with
  | nil => exact Nat.zero_le _
  | cons c r =>
    have := hq c r
    simp only [tokOf]
    repeat' split
    all_goals first | assumption | exact Nat.zero_le _ | (simp only [List.length_take]; omega)
theorem nextOf_text {s : List UInt8} {i : Nat} {t : Tok} (h : nextOf s i = some t) : t.text.length ≤ s.length := by
  unfold nextOf at h
  split at h
  · cases h; exact Nat.zero_le _
  · split at h
    · cases h
    · cases h
      have := tokOf_text (s.drop (i + (skipR (s.drop i)).1))
      rw [List.length_drop] at this
      simp only
      omega
theorem allF_bds : ∀ (f : Nat) (s : List UInt8) (i : Nat), i ≤ s.length → (allF f s i).length ≤ s.length - i ∧ ∀ t ∈ allF f s i, t.text.length ≤ s.length
  | 0, _, _, _ => ⟨Nat.zero_le _, fun t ht => by cases ht⟩
  | f + 1, s, i, hi => by
    unfold allF
    cases hn : nextOf s i with
    | none => exact ⟨Nat.zero_le _, fun t ht => by cases ht⟩
    | some t =>
      have hb := nextOf_bd hi hn
      have ih := allF_bds f s t.b hb.2
      refine ⟨by simp only [List.length_cons]; omega, fun u hu => ?_⟩
      rcases List.mem_cons.1 hu with rfl | hu
      · exact nextOf_text hn
      · exact ih.2 u hu
theorem allOf_bds (s : List UInt8) : ((allOf s).map tk5).length ≤ s.length ∧ ∀ t ∈ (allOf s).map tk5, t.s.length ≤ s.length := by
  have h := allF_bds (s.length + 1) s 0 (Nat.zero_le _)
  refine ⟨by rw [List.length_map]; exact h.1, fun t ht => ?_⟩
  rw [List.mem_map] at ht
  obtain ⟨u, hu, rfl⟩ := ht
  exact h.2 u hu
def lexT (s : List UInt8) : List Tk5 := (allOf s).map tk5
theorem FAll_T (s : List UInt8) : FAll s = .c (.list 5 ((lexT s).map tkD)) := by unfold FAll lexT; rw [tokC_tk]
noncomputable def T307 : List DV → Option DV := fam (fun s : List UInt8 => [.c (.str s)]) (fun s => s.length ≤ 1000) (fun s => declR (declOf (lexT s)))
theorem T307_eq {s : List UInt8} (h : s.length ≤ 1000) : T307 [.c (.str s)] = some (declR (declOf (lexT s))) := by
  refine fam_eq (ι := List UInt8) s h ?_
  intro s' _ e
  simp only [List.cons.injEq, DV.c.injEq, D.str.injEq, and_true] at e
  rw [e]
theorem declOf_flat (l : List Tk5) : ∃ d1 d2 d3 d4 d5 d6, (declOf l).1 = [d1, d2, d3, d4, d5, d6] ∧ (D.flat d1 && (D.flat d2 && (D.flat d3 && (D.flat d4 && (D.flat d5 && (D.flat d6 && true)))))) = true := by
  have he : ∀ g p a, ∃ d1 d2 d3 d4 d5 d6, (opEnd g p a).1 = [d1, d2, d3, d4, d5, d6] ∧ (D.flat d1 && (D.flat d2 && (D.flat d3 && (D.flat d4 && (D.flat d5 && (D.flat d6 && true)))))) = true := fun g p a => by
    unfold opEnd
    split
    · split <;> exact ⟨_, _, _, _, _, _, rfl, rfl⟩
    · split <;> exact ⟨_, _, _, _, _, _, rfl, rfl⟩
  unfold declOf opV
  repeat' split
  all_goals first | exact he _ _ _ | exact ⟨_, _, _, _, _, _, rfl, rfl⟩
theorem declR_eq (x : List D × Int) : declR x = .tup [.agg x.1, .c (.int .i64 x.2)] := rfl
set_option maxRecDepth 8000 in
theorem w307 (s : List UInt8) (h : s.length ≤ 1000) : awp (tbl [(19, onB FAll), (20, T306)]) c307 (PureQ [.cell 2 6 true, .t 3] (declR (declOf (lexT s)))) ⟨argE 0 (dvArgs [.c (.str s)]), ⟨0, []⟩⟩ := by
  have hr : s.length ≤ room := by unfold room; omega
  have p := onB_eq (F := FAll) (sz := 1) (s := s) (.inl rfl) hr
  rw [FAll_T] at p
  have hb := allOf_bds s
  have q := T306_eq (a := 0) (b := 0) (f := 0) (sz := 5) (l := lexT s) ⟨Nat.le_trans hb.1 h, fun t ht => Nat.le_trans (hb.2 t ht) h⟩
  obtain ⟨d1, d2, d3, d4, d5, d6, e, hfl⟩ := declOf_flat (lexT s)
  rw [declR_eq] at *
  rw [e] at q ⊢
  have hf : (DV.tup [.agg [d1, d2, d3, d4, d5, d6], .c (.int .i64 (declOf (lexT s)).2)]).flat = true := by
    show ((D.flat d1 && (D.flat d2 && (D.flat d3 && (D.flat d4 && (D.flat d5 && (D.flat d6 && true)))))) && true) = true
    rw [hfl]; rfl
  unfold pieceD at q
  generalize (declOf (lexT s)).2 = er at *
  generalize (lexT s).map tkD = l at *
  unfold c307
  repeat' first | refine GoH ?_ | refine ZB (ev_s2b0 rfl hr) ?_ | ((with_reducible apply Z1 (f := 19));rfl;rfl;rfl;exact p;rfl) | refine ZB (ev_pcallF rfl rfl q rfl hf) ?_ | refine ZB rfl ?_|refine ZC rfl ?_
  exact ⟨_, rfl, rfl⟩
theorem pok307 (m : Int) : PureOk Go.Proofs.Tryd.prog (glbS m) 21 T307 := .inl (fam_ok (fn307 m) (callOk_cons (pe37 m).s (callOk_cons (pok306 m) (callOk_nil _ _))) w307)
end Go.Am
