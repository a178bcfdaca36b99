/-
  Directives: decl.is, sign, row, number, operator, Of, Is.
-/
import Derived.Test.YtnhalnblbfgbkaaDoorANC
import Derived.Test.YtnhalnblbfgbkaaDoorANF
import Derived.Test.YtnhalnblbfgbkaaDoorANI
import Derived.Test.YtnhalnblbfgbkaaDoorAQA
import Derived.Test.YtnhalnblbfgbkaaDoorAPE
import Derived.Test.YtnhalnblbfgbkaaDoorACD
namespace Go.Am
open Go
theorem ev_pcallF {cl : Call} {e : Env} {nx : Nat} {ob : List (Nat × Ob)} {f : Nat} {args : List Opd} {G : List DV → Option DV} {ds : List DV} {r : DV} {v : V} (hf : cl.pure f = some G) (hd : toDVs ⟨nx, ob⟩ (evs e args) = some ds) (hr : G ds = some r) (hv : r.toV = some v) (hfl : r.flat = true) :
    eval cl e ⟨nx, ob⟩ (.pcall f args) = some (v, ⟨nx, ob⟩) := ev_pcall hf hd hr hv (by rw [hfl])
def isTk (t : Tk5) (k : Int) (s : List UInt8) : Bool := decide (t.k = k) && (decide (s = []) || decide (t.s = s))
noncomputable def T318 : List DV → Option DV := fam (fun x : Tk5 × Int × List UInt8 => [.agg (tkD x.1), .c (.int .i64 x.2.1), .c (.str x.2.2)]) (fun _ => True) (fun x => .c (.bool (isTk x.1 x.2.1 x.2.2)))
theorem T318_eq (t : Tk5) (k : Int) (s : List UInt8) : T318 [.agg (tkD t), .c (.int .i64 k), .c (.str s)] = some (.c (.bool (isTk t k s))) := by
  refine fam_eq (ι := Tk5 × Int × List UInt8) (t, k, s) True.intro ?_
  rintro ⟨t', k', s'⟩ _ e
  simp only [List.cons.injEq, DV.agg.injEq, DV.c.injEq, D.int.injEq, D.str.injEq, true_and, and_true] at e
  rw [tkD_inj e.1, e.2.1, e.2.2]
set_option maxRecDepth 8000 in
theorem w318 (x : Tk5 × Int × List UInt8) (_ : True) : awp (tbl []) c318 (PureQ [.t 6] (.c (.bool (isTk x.1 x.2.1 x.2.2)))) ⟨argE 0 (dvArgs [.agg (tkD x.1), .c (.int .i64 x.2.1), .c (.str x.2.2)]), ⟨0, []⟩⟩ := by
  obtain ⟨⟨k, a, b, s, e⟩, k', s'⟩ := x
  unfold isTk
  simp only
  unfold c318
  by_cases hk : k = k'
  · rw [decide_eq_true hk]
    by_cases hs : s' = []
    · rw [decide_eq_true hs]
      repeat' first | refine GoH ?_ | refine ZB (ev_eql_t rfl rfl hk) ?_ | refine ZB (ev_eqs_t rfl rfl hs) ?_ | refine ZB rfl ?_|refine ZC rfl ?_
      exact ⟨_, rfl, rfl⟩
    · rw [decide_eq_false hs]
      by_cases ht : s = s'
      · rw [decide_eq_true ht]
        repeat' first | refine GoH ?_ | refine ZB (ev_eql_t rfl rfl hk) ?_ | refine ZB (ev_eqs_f rfl rfl hs) ?_ | refine ZB (ev_eqs_t rfl rfl ht) ?_ | refine ZB rfl ?_|refine ZC rfl ?_
        exact ⟨_, rfl, rfl⟩
      · rw [decide_eq_false ht]
        repeat' first | refine GoH ?_ | refine ZB (ev_eql_t rfl rfl hk) ?_ | refine ZB (ev_eqs_f rfl rfl hs) ?_ | refine ZB (ev_eqs_f rfl rfl ht) ?_ | refine ZB rfl ?_|refine ZC rfl ?_
        exact ⟨_, rfl, rfl⟩
  · rw [decide_eq_false hk]
    repeat' first | refine GoH ?_ | refine ZB (ev_eql_f rfl rfl hk) ?_ | refine ZB rfl ?_|refine ZC rfl ?_
    exact ⟨_, rfl, rfl⟩
theorem pok318 (m : Int) : PureOk Go.Proofs.Tryd.prog (glbS m) 41 T318 := .inl (fam_ok (fn318 m) (callOk_nil _ _) w318)
def signB (t : Tk5) (c : UInt8) : Bool :=
  if c = 78 then isTk t 4 [] else if c = 81 then (isTk t 2 [] || isTk t 5 [] || isTk t 1 []) else if c = 65 then isTk t 1 [] else if c = 46 then isTk t 7 [] else isTk t 6 [c]
noncomputable def T329 : List DV → Option DV := fam (fun x : Tk5 × UInt8 => [.agg (tkD x.1), .c (.int .i32 (x.2.toNat : Nat))]) (fun x => x.2.toNat < 128) (fun x => .c (.bool (signB x.1 x.2)))
theorem T329_eq (t : Tk5) {c : UInt8} (h : c.toNat < 128) : T329 [.agg (tkD t), .c (.int .i32 (c.toNat : Nat))] = some (.c (.bool (signB t c))) := by
  refine fam_eq (ι := Tk5 × UInt8) (t, c) h ?_
  rintro ⟨t', c'⟩ _ e
  simp only [List.cons.injEq, DV.agg.injEq, DV.c.injEq, D.int.injEq, true_and, and_true] at e
  have : c' = c := UInt8.toNat_inj.1 (by omega)
  rw [tkD_inj e.1, this]
theorem ev_r2s {cl : Call} {e : Env} {hp : Hp} {x : Opd} {k : IntKind} {c : UInt8} (hx : ev e x = .c (.d (.int k (c.toNat : Nat)))) (h : c.toNat < 128) : eval cl e hp (.r2s x) = some (.c (.d (.str [c])), hp) := by
  simp only [eval, hx]
  rw [if_pos (by omega), Int.toNat_natCast, UInt8.ofNat_toNat]
set_option maxRecDepth 8000 in
set_option maxHeartbeats 2000000 in
theorem w329 (x : Tk5 × UInt8) (hx : x.2.toNat < 128) : awp (tbl [(41, T318)]) c329 (PureQ [.t 4] (.c (.bool (signB x.1 x.2)))) ⟨argE 0 (dvArgs [.agg (tkD x.1), .c (.int .i32 (x.2.toNat : Nat))]), ⟨0, []⟩⟩ := by
  obtain ⟨t, c⟩ := x
  simp only at hx ⊢
  have h4 := T318_eq t 4 []
  have h2 := T318_eq t 2 []
  have h5 := T318_eq t 5 []
  have h1 := T318_eq t 1 []
  have h7 := T318_eq t 7 []
  have h6 := T318_eq t 6 [c]
  unfold signB
  generalize isTk t 4 [] = b4 at h4 ⊢
  generalize isTk t 2 [] = b2 at h2 ⊢
  generalize isTk t 5 [] = b5 at h5 ⊢
  generalize isTk t 1 [] = b1 at h1 ⊢
  generalize isTk t 7 [] = b7 at h7 ⊢
  generalize isTk t 6 [c] = b6 at h6 ⊢
  obtain ⟨k, a, b, s, e⟩ := t
  unfold c329
  by_cases e1 : c = 78
  · rw [if_pos e1]
    subst e1
    repeat' first | refine GoH ?_ | ((with_reducible apply Z1 (f := 41));rfl;rfl;rfl;exact h4;rfl) | refine ZB rfl ?_|refine ZC rfl ?_
    exact ⟨_, rfl, rfl⟩
  · have n1 : (c.toNat : Int) ≠ 78 := fun e => e1 (UInt8.toNat_inj.1 (by show c.toNat = 78; omega))
    rw [if_neg e1]
    by_cases e2 : c = 81
    · rw [if_pos e2]
      subst e2
      cases b2
      · cases b5
        · repeat' first | refine GoH ?_ | ((with_reducible apply Z1 (f := 41));rfl;rfl;rfl;exact h2;rfl) | ((with_reducible apply Z1 (f := 41));rfl;rfl;rfl;exact h5;rfl) | ((with_reducible apply Z1 (f := 41));rfl;rfl;rfl;exact h1;rfl) | refine ZB rfl ?_|refine ZC rfl ?_
          exact ⟨_, rfl, rfl⟩
        · repeat' first | refine GoH ?_ | ((with_reducible apply Z1 (f := 41));rfl;rfl;rfl;exact h2;rfl) | ((with_reducible apply Z1 (f := 41));rfl;rfl;rfl;exact h5;rfl) | ((with_reducible apply Z1 (f := 41));rfl;rfl;rfl;exact h1;rfl) | refine ZB rfl ?_|refine ZC rfl ?_
          exact ⟨_, rfl, rfl⟩
      · repeat' first | refine GoH ?_ | ((with_reducible apply Z1 (f := 41));rfl;rfl;rfl;exact h2;rfl) | ((with_reducible apply Z1 (f := 41));rfl;rfl;rfl;exact h5;rfl) | ((with_reducible apply Z1 (f := 41));rfl;rfl;rfl;exact h1;rfl) | refine ZB rfl ?_|refine ZC rfl ?_
        exact ⟨_, rfl, rfl⟩
    · have n2 : (c.toNat : Int) ≠ 81 := fun e => e2 (UInt8.toNat_inj.1 (by show c.toNat = 81; omega))
      rw [if_neg e2]
      by_cases e3 : c = 65
      · rw [if_pos e3]
        subst e3
        repeat' first | refine GoH ?_ | ((with_reducible apply Z1 (f := 41));rfl;rfl;rfl;exact h1;rfl) | refine ZB rfl ?_|refine ZC rfl ?_
        exact ⟨_, rfl, rfl⟩
      · have n3 : (c.toNat : Int) ≠ 65 := fun e => e3 (UInt8.toNat_inj.1 (by show c.toNat = 65; omega))
        rw [if_neg e3]
        by_cases e4 : c = 46
        · rw [if_pos e4]
          subst e4
          repeat' first | refine GoH ?_ | ((with_reducible apply Z1 (f := 41));rfl;rfl;rfl;exact h7;rfl) | refine ZB rfl ?_|refine ZC rfl ?_
          exact ⟨_, rfl, rfl⟩
        · have n4 : (c.toNat : Int) ≠ 46 := fun e => e4 (UInt8.toNat_inj.1 (by show c.toNat = 46; omega))
          rw [if_neg e4]
          repeat' first | refine GoH ?_ | refine ZB (ev_eql_f rfl rfl n1) ?_ | refine ZB (ev_eql_f rfl rfl n2) ?_ | refine ZB (ev_eql_f rfl rfl n3) ?_ | refine ZB (ev_eql_f rfl rfl n4) ?_ | refine ZB (ev_r2s rfl hx) ?_ | ((with_reducible apply Z1 (f := 41));rfl;rfl;rfl;exact h6;rfl) | refine ZB rfl ?_|refine ZC rfl ?_
          exact ⟨_, rfl, rfl⟩
theorem pok329 (m : Int) : PureOk Go.Proofs.Tryd.prog (glbS m) 69 T329 := .inl (fam_ok (fn329 m) (callOk_cons (pok318 m) (callOk_nil _ _)) w329)
def allS : List UInt8 → List Tk5 → Bool
  | [], _ => true
  | _ :: _, [] => false
  | c :: r, t :: l => signB t c && allS r l
def rowB (l : List Tk5) (w signs : List UInt8) : Bool := decide (l.length = signs.length + 2) && (isTk (l.getD 0 noTk5) 2 [58, 45] && (isTk (l.getD 1 noTk5) 1 w && allS signs (l.drop 2)))
where noTk5 : Tk5 := ⟨0, 0, 0, [], 0⟩
noncomputable def T315 : List DV → Option DV := fam (fun x : (Nat × List Tk5) × List UInt8 × List UInt8 => [.c (.list x.1.1 (x.1.2.map tkD)), .c (.str x.2.1), .c (.str x.2.2)]) (fun x => x.1.2.length ≤ 1000 ∧ x.2.2.length ≤ 1000 ∧ ∀ c ∈ x.2.2, c.toNat < 128) (fun x => .c (.bool (rowB x.1.2 x.2.1 x.2.2)))
theorem toks_inj : ∀ {l l' : List Tk5}, l.map tkD = l'.map tkD → l = l'
  | [], [], _ => rfl
  | [], _ :: _, h => by cases h
  | _ :: _, [], h => by cases h
  | a :: r, b :: r', h => by
    simp only [List.map_cons, List.cons.injEq] at h
    rw [tkD_inj h.1, toks_inj h.2]
theorem T315_eq {sz : Nat} {l : List Tk5} {w signs : List UInt8} (h1 : l.length ≤ 1000) (h2 : signs.length ≤ 1000) (h3 : ∀ c ∈ signs, c.toNat < 128) : T315 [.c (.list sz (l.map tkD)), .c (.str w), .c (.str signs)] = some (.c (.bool (rowB l w signs))) := by
  refine fam_eq (ι := (Nat × List Tk5) × List UInt8 × List UInt8) ((sz, l), w, signs) ⟨h1, h2, h3⟩ ?_
  rintro ⟨⟨sz', l'⟩, w', signs'⟩ _ e
  simp only [List.cons.injEq, DV.c.injEq, D.list.injEq, D.str.injEq, and_true] at e
  obtain ⟨⟨_, e1⟩, rfl, rfl⟩ := e
  rw [toks_inj e1]
theorem toks_at {l : List Tk5} {i : Nat} {z : Int} (hz : z.toNat = i) (h : i < l.length) : (l.map tkD)[z.toNat]? = some (tkD l[i]) := by
  rw [hz, List.getElem?_map, List.getElem?_eq_getElem h]
  rfl
set_option maxRecDepth 8000 in
set_option maxHeartbeats 2000000 in
theorem w315 (x : (Nat × List Tk5) × List UInt8 × List UInt8) (h : x.1.2.length ≤ 1000 ∧ x.2.2.length ≤ 1000 ∧ ∀ c ∈ x.2.2, c.toNat < 128) : awp (tbl [(41, T318), (69, T329)]) c315 (PureQ [.t 6] (.c (.bool (rowB x.1.2 x.2.1 x.2.2)))) ⟨argE 0 (dvArgs [.c (.list x.1.1 (x.1.2.map tkD)), .c (.str x.2.1), .c (.str x.2.2)]), ⟨0, []⟩⟩ := by
  obtain ⟨⟨sz, l⟩, w, signs⟩ := x
  obtain ⟨hl, hs, hlow⟩ := h
  simp only at hl hs hlow ⊢
  have hlen : (l.map tkD).length = l.length := List.length_map ..
  unfold rowB
  unfold c315
  by_cases h0 : l.length = signs.length + 2
  rotate_left
  · rw [decide_eq_false h0]
    repeat' first | refine GoH ?_ | refine ZB (ev_add rfl rfl (by omega) (by omega)) ?_ | refine ZB (ev_neq_t rfl rfl (by omega)) ?_ | refine ZB rfl ?_|refine ZC rfl ?_
    exact ⟨_, rfl, rfl⟩
  · rw [decide_eq_true h0]
    have g0 := toks_at (l := l) (i := 0) (z := 0) rfl (by omega)
    have g1 := toks_at (l := l) (i := 1) (z := 1) rfl (by omega)
    have d0 : l.getD 0 rowB.noTk5 = l[0] := by rw [List.getD_eq_getElem?_getD, List.getElem?_eq_getElem (by omega)]; rfl
    have d1 : l.getD 1 rowB.noTk5 = l[1] := by rw [List.getD_eq_getElem?_getD, List.getElem?_eq_getElem (by omega)]; rfl
    rw [d0, d1]
    have p0 := T318_eq l[0] 2 [58, 45]
    have p1 := T318_eq l[1] 1 w
    generalize isTk l[0] 2 [58, 45] = b0 at p0 ⊢
    generalize isTk l[1] 1 w = b1 at p1 ⊢
    generalize l[0] = t0 at p0 g0
    generalize l[1] = t1 at p1 g1
    obtain ⟨k0, a0, x0, s0, e0⟩ := t0
    obtain ⟨k1, a1, x1, s1, e1⟩ := t1
    cases b0
    · repeat' first | refine GoH ?_ | refine ZB (ev_add rfl rfl (by omega) (by omega)) ?_ | refine ZB (ev_neq_f rfl rfl (by omega)) ?_ | refine ZB (ev_idx rfl rfl (by omega) g0 rfl) ?_ | ((with_reducible apply Z1 (f := 41));rfl;rfl;rfl;exact p0;rfl) | refine ZB rfl ?_|refine ZC rfl ?_
      exact ⟨_, rfl, rfl⟩
    · cases b1
      · repeat' first | refine GoH ?_ | refine ZB (ev_add rfl rfl (by omega) (by omega)) ?_ | refine ZB (ev_neq_f rfl rfl (by omega)) ?_ | refine ZB (ev_idx rfl rfl (by omega) g0 rfl) ?_ | refine ZB (ev_idx rfl rfl (by omega) g1 rfl) ?_ | ((with_reducible apply Z1 (f := 41));rfl;rfl;rfl;exact p0;rfl) | ((with_reducible apply Z1 (f := 41));rfl;rfl;rfl;exact p1;rfl) | refine ZB rfl ?_|refine ZC rfl ?_
        exact ⟨_, rfl, rfl⟩
      · repeat' first | refine GoH ?_ | refine ZB (ev_add rfl rfl (by omega) (by omega)) ?_ | refine ZB (ev_neq_f rfl rfl (by omega)) ?_ | refine ZB (ev_idx rfl rfl (by omega) g0 rfl) ?_ | refine ZB (ev_idx rfl rfl (by omega) g1 rfl) ?_ | ((with_reducible apply Z1 (f := 41));rfl;rfl;rfl;exact p0;rfl) | ((with_reducible apply Z1 (f := 41));rfl;rfl;rfl;exact p1;rfl) | refine ZB rfl ?_|refine ZC rfl ?_
        refine awp_loop (fun q st => ∃ i : Nat, i ≤ signs.length ∧ signs.length - i < q ∧ allS signs (l.drop 2) = allS (signs.drop i) (l.drop (i + 2)) ∧
          st = ⟨[(0, .c (.d (.list sz (l.map tkD)))), (31, .c (.iter 0))], ⟨1, [(0, .iter signs i)]⟩⟩) (signs.length + 1) ?_ (by rintro st ⟨i, _, h, _⟩; omega) ?_
        · exact weak_keep [0, 31] rfl ⟨0, by omega, by omega, rfl, rfl⟩
        · rintro q K hK st ⟨i, hi, hq, hall, rfl⟩
          by_cases hend : i = signs.length
          · subst hend
            rw [hall, List.drop_length]
            repeat' first | refine GoH ?_ | refine ZB (ev_over rfl look_hd (Nat.lt_irrefl _)) ?_ | refine ZB rfl ?_|refine ZC rfl ?_
            exact ⟨_, rfl, rfl⟩
          · have hlt : i < signs.length := by omega
            have hget : signs[i]? = some signs[i] := List.getElem?_eq_getElem hlt
            have hc := hlow _ (List.getElem_mem hlt)
            have hdec := decode_low hget hc
            have hdr : signs.drop i = signs[i] :: signs.drop (i + 1) := List.drop_eq_getElem_cons hlt
            have hdl : l.drop (i + 2) = l[i + 2] :: l.drop (i + 1 + 2) := List.drop_eq_getElem_cons (by omega)
            rw [hdr, hdl] at hall
            have gi : (l.map tkD)[((i : Int) + 2).toNat]? = some (tkD l[i + 2]) := toks_at (i := i + 2) (by omega) (by omega)
            have pi := T329_eq l[i + 2] hc
            have hall2 : allS signs (l.drop 2) = (signB l[i + 2] signs[i] && allS (signs.drop (i + 1)) (l.drop (i + 1 + 2))) := hall
            generalize signB l[i + 2] signs[i] = bi at pi hall2
            generalize l[i + 2] = ti at pi gi
            generalize signs[i] = ci at hdec hc pi
            obtain ⟨ki, ai, xi, si, ei⟩ := ti
            cases bi
            · rw [hall2]
              repeat' first | refine GoH ?_ | refine ZB (ev_next rfl look_hd hlt hdec put_hd) ?_ | refine ZB (ev_add rfl rfl (by omega) (by omega)) ?_ | refine ZB (ev_idx rfl rfl (by omega) gi rfl) ?_ | ((with_reducible apply Z1 (f := 69));rfl;rfl;rfl;exact pi;rfl) | refine ZB rfl ?_|refine ZC rfl ?_
              exact ⟨_, rfl, rfl⟩
            · repeat' first | refine GoH ?_ | refine ZB (ev_next rfl look_hd hlt hdec put_hd) ?_ | refine ZB (ev_add rfl rfl (by omega) (by omega)) ?_ | refine ZB (ev_idx rfl rfl (by omega) gi rfl) ?_ | ((with_reducible apply Z1 (f := 69));rfl;rfl;rfl;exact pi;rfl) | refine ZB rfl ?_|refine ZC rfl ?_
              exact hK _ (weak_keep [0, 31] rfl ⟨i + 1, by omega, by omega, hall2, rfl⟩)
theorem pok315 (m : Int) : PureOk Go.Proofs.Tryd.prog (glbS m) 38 T315 := .inl (fam_ok (fn315 m) (callOk_cons (pok318 m) (callOk_cons (pok329 m) (callOk_nil _ _))) w315)
def declIs (l : List Tk5) : Bool := match l with
  | [] => false
  | t :: _ => isTk t 2 [58, 45]
def pieceD (a b f : Int) (sz : Nat) (l : List Tk5) : List D := [.int .i64 a, .int .i64 b, .int .i64 f, .list sz (l.map tkD)]
noncomputable def T308 : List DV → Option DV := fam (fun x : (Int × Int × Int) × Nat × List Tk5 => [.agg (pieceD x.1.1 x.1.2.1 x.1.2.2 x.2.1 x.2.2)]) (fun _ => True) (fun x => .c (.bool (declIs x.2.2)))
theorem pieceD_inj {a b f a' b' f' : Int} {sz sz' : Nat} {l l' : List Tk5} (h : pieceD a b f sz l = pieceD a' b' f' sz' l') : l = l' := by
  simp only [pieceD, List.cons.injEq, D.int.injEq, D.list.injEq, true_and, and_true] at h
  exact toks_inj h.2.2.2.2
theorem T308_eq (a b f : Int) (sz : Nat) (l : List Tk5) : T308 [.agg (pieceD a b f sz l)] = some (.c (.bool (declIs l))) := by
  refine fam_eq (ι := (Int × Int × Int) × Nat × List Tk5) ((a, b, f), sz, l) True.intro ?_
  rintro ⟨⟨a', b', f'⟩, sz', l'⟩ _ e
  simp only [List.cons.injEq, DV.agg.injEq, and_true] at e
  rw [pieceD_inj e]
set_option maxRecDepth 8000 in
theorem w308 (x : (Int × Int × Int) × Nat × List Tk5) (_ : True) : awp (tbl [(41, T318)]) c308 (PureQ [.t 2] (.c (.bool (declIs x.2.2)))) ⟨argE 0 (dvArgs [.agg (pieceD x.1.1 x.1.2.1 x.1.2.2 x.2.1 x.2.2)]), ⟨0, []⟩⟩ := by
  obtain ⟨⟨a, b, f⟩, sz, l⟩ := x
  simp only
  unfold c308
  cases l with
  | nil =>
    repeat' first | refine GoH ?_ | refine ZB rfl ?_|refine ZC rfl ?_
    exact ⟨_, rfl, rfl⟩
  | cons t l =>
    have p := T318_eq t 2 [58, 45]
    unfold declIs
    simp only
    generalize isTk t 2 [58, 45] = b0 at p ⊢
    obtain ⟨k, ta, tb, s, e⟩ := t
    have hlen : (List.map tkD (⟨k, ta, tb, s, e⟩ :: l)).length = l.length + 1 := by simp
    repeat' first | refine GoH ?_ | refine ZB (ev_gtr_t rfl rfl (by omega)) ?_ | ((with_reducible apply Z1 (f := 41));rfl;rfl;rfl;exact p;rfl) | refine ZB rfl ?_|refine ZC rfl ?_
    exact ⟨_, rfl, rfl⟩
theorem pok308 (m : Int) : PureOk Go.Proofs.Tryd.prog (glbS m) 22 T308 := .inl (fam_ok (fn308 m) (callOk_cons (pok318 m) (callOk_nil _ _)) w308)
def numI (s : List UInt8) : Int := (numOf s).1
noncomputable def T317 : List DV → Option DV := fam (fun t : Tk5 => [.agg (tkD t)]) (fun t => t.s.length ≤ room) (fun t => .c (.int .i64 (numI t.s)))
theorem T317_eq {t : Tk5} (h : t.s.length ≤ room) : T317 [.agg (tkD t)] = some (.c (.int .i64 (numI t.s))) := by
  refine fam_eq (ι := Tk5) t h ?_
  intro t' _ e
  simp only [List.cons.injEq, DV.agg.injEq, and_true] at e
  rw [tkD_inj e]
theorem ev_s2b0 {cl : Call} {e : Env} {x : Opd} {nx : Nat} {ob : List (Nat × Ob)} {s : List UInt8} (hx : ev e x = .c (.d (.str s))) (h : s.length ≤ room) : eval cl e ⟨nx, ob⟩ (.s2b x false) = some (.c (.d (.list 1 (encB s))), ⟨nx, ob⟩) := by
  simp only [eval, hx, if_pos h]
set_option maxRecDepth 8000 in
theorem w317 (t : Tk5) (h : t.s.length ≤ room) : awp (tbl [(72, onB FNum)]) c317 (PureQ [.t 2] (.c (.int .i64 (numI t.s)))) ⟨argE 0 (dvArgs [.agg (tkD t)]), ⟨0, []⟩⟩ := by
  obtain ⟨k, a, b, s, e⟩ := t
  simp only at h ⊢
  have p := onB_eq (F := FNum) (sz := 1) (s := s) (.inl rfl) h
  unfold numI
  unfold FNum at p
  generalize numOf s = n at p
  obtain ⟨n1, n2, n3⟩ := n
  unfold c317
  repeat' first | refine GoH ?_ | refine ZB (ev_s2b0 rfl h) ?_ | ((with_reducible apply Z1 (f := 72));rfl;rfl;rfl;exact p;rfl) | refine ZB rfl ?_|refine ZC rfl ?_
  exact ⟨_, rfl, rfl⟩
theorem pok317 (m : Int) : PureOk Go.Proofs.Tryd.prog (glbS m) 40 T317 := .inl (fam_ok (fn317 m) (callOk_cons (pe112 m).s (callOk_nil _ _)) w317)
end Go.Am
