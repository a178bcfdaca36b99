/-
  OperSimple: the law's function comes to true, whatever it is given.
-/
import Derived.Test.YtgbefhljbdjncaaDoorML
import Derived.Test.YtgbefhljbdjncaaDoorMM
namespace Go.Am
open Go
theorem lower_class : ∀ n : Nat, n < 256 → 97 ≤ n → n ≤ 122 → classOf (UInt8.ofNat n) = 2 := by decide +kernel
theorem lower_is {b : UInt8} (h1 : 97 ≤ b.toNat) (h2 : b.toNat ≤ 122) : classOf b = 2 := by
  have := lower_class b.toNat (UInt8.toNat_lt b) h1 h2
  have e : UInt8.ofNat b.toNat = b := by simp
  rw [e] at this
  exact this
/-- Names that begin with 'n'. -/
def lowW (w : List UInt8) : Prop := ∀ b ∈ w, 97 ≤ b.toNat ∧ b.toNat ≤ 122
theorem lowW_app {w : List UInt8} {c : UInt8} (h : lowW w) (h1 : 97 ≤ c.toNat) (h2 : c.toNat ≤ 122) : lowW (w ++ [c]) := by
  intro b hb
  rcases List.mem_append.1 hb with h3 | h3
  · exact h b h3
  · have : b = c := by simpa using h3
    subst this
    exact ⟨h1, h2⟩
theorem no95_idx {s : List UInt8} (h : ∀ b ∈ s, b ≠ 95) : Lib.indexByte s 95 < 0 := by
  refine Decidable.byContradiction fun hn => ?_
  have := (Lib.indexByte_some (l := s) (c := 95) (o := (Lib.indexByte s 95).toNat) (by omega)).1
  exact h 95 (List.mem_of_getElem? this) rfl
section
variable {w : List UInt8} (hw : lowW w)
theorem nw_low {b : UInt8} (hw : lowW w) (hb : b ∈ 110 :: w) : 97 ≤ b.toNat ∧ b.toNat ≤ 122 := by
  rcases List.mem_cons.1 hb with rfl | h
  · decide
  · exact hw b h
theorem nw_no95 (hw : lowW w) : ∀ b ∈ 110 :: w, b ≠ 95 := by
  intro b hb e
  have := nw_low hw hb
  subst e
  revert this
  decide
theorem nw_single (hw : lowW w) : single (110 :: w) 1 := by
  refine ⟨110, rfl, .inl ⟨by decide, rfl, fun b hb => ?_⟩⟩
  have := nw_low hw hb
  have := lower_is this.1 this.2
  simp [nameC, this]
theorem nw_part {G : List DV → Option DV} (hG : KB R37 G) (hw : lowW w) (hl : w.length ≤ 7) : partV G (110 :: w) = true := by
  have hi := no95_idx (nw_no95 hw)
  rw [partV_single hG (by unfold room; simp only [List.length_cons]; omega) (nw_single hw) (by decide)]
  have e1 : decide (0 ≤ Lib.indexByte (110 :: w) 95) = false := decide_eq_false (by omega)
  rw [e1]
  simp [hasS, idxOf, bads]
theorem nw_join (hl : w.length ≤ 7) : joinOk [110 :: w] [95] = true := by
  simp only [joinOk, join_single, Bool.and_eq_true, decide_eq_true_eq, List.length_cons, List.length_nil]
  unfold room
  omega
theorem nw_shape {G : List DV → Option DV} (hG : KB R37 G) (hw : lowW w) (hl : w.length ≤ 7) {l r : Bool} (hlr : l = true ∨ r = true) : shapeOf (partV G) (textOf ⟨[110 :: w], l, r⟩) = some ⟨[110 :: w], l, r⟩ := by
  have e : trim (cutU 95 (textOf ⟨[110 :: w], l, r⟩)) = ⟨[110 :: w], l, r⟩ := cut_text (by simp) (by
    intro s hs
    have : s = 110 :: w := by simpa using hs
    subst this
    exact ⟨by simp, fun b hb => nw_no95 hw b hb⟩)
  rw [shapeOf_of ?_ ?_, e]
  · simp only [textOf, join_single, List.length_append, List.length_cons]
    have h1 : (if l = true then [95] else ([] : List UInt8)).length ≤ 1 := by split <;> simp
    have h2 : (if r = true then [95] else ([] : List UInt8)).length ≤ 1 := by split <;> simp
    omega
  · rw [e]
    exact mayS_t (by simp) (by simp) (fun _ => hlr) (by simp [badS, nw_part hG hw hl])
end
theorem ev_rem8 {cl : Call} {e : Env} {h : Hp} {x y : Opd} {a b : Int} (hx : ev e x = .c (.d (.int .u8 a))) (hy : ev e y = .c (.d (.int .u8 b))) (h0 : 0 ≤ a) (hb : b ≠ 0) : eval cl e h (.bin .rem x y) = some (.c (.d (.int .u8 (a % b))), h) := by
  have : a.tmod b = a % b := Int.tmod_eq_emod_of_nonneg h0
  simp [eval, hx, hy, binV, binD, isShift, binInt, hb, this]
theorem wrap8 {n : Int} (h0 : 0 ≤ n) (h1 : n < 256) : IntKind.wrap .u8 n = n := by
  unfold IntKind.wrap
  have hs : IntKind.signed .u8 = false := rfl
  have hb : IntKind.bits .u8 = 8 := rfl
  simp only [hs, hb, Bool.false_and, Bool.false_eq_true, if_false]
  omega
theorem ev_add8 {cl : Call} {e : Env} {h : Hp} {x y : Opd} {a b : Int} (hx : ev e x = .c (.d (.int .u8 a))) (hy : ev e y = .c (.d (.int .u8 b))) (h0 : 0 ≤ a + b) (h1 : a + b < 256) : eval cl e h (.bin .add x y) = some (.c (.d (.int .u8 (a + b))), h) := by
  simp only [eval, hx, hy, binV, binD, isShift, binInt, wrap8 h0 h1]
  rfl
def G14 : List DV → Option DV
  | [.c (.int .u8 w), d, .c (.int .u8 g)] => match bytesV d with
    | some s => if 0 ≤ w ∧ w < 256 ∧ 0 ≤ g ∧ g < 256 then some (.c (.bool true)) else none
    | none => none
  | _ => none
def c14l : ACode := match c14 with
  | .seq _ (.seq _ (.seq _ (.seq _ (.seq _ x)))) => x
  | x => x
def c14r : ACode := match c14l with
  | .seq _ x => x
  | x => x
set_option maxRecDepth 8000 in
set_option maxHeartbeats 8000000 in
theorem w14r {G : List DV → Option DV} (hG : KB R37 G) {kind : List UInt8} {l r : Bool} {a : Nat} (hk : (kind, l, r, a) ∈ simplesT) {w : List UInt8} (hw : lowW w) (hl : w.length ≤ 7) {g : Int} (h0 : 0 ≤ g) (h1 : g < 256) :
    awp (tbl [(19, G19 (partV G)), (38, G17), (40, G40), (42, G42 (partV G))]) c14r (PureQ [.t 6] (.c (.bool true))) ⟨[(2, .c (.d (.int .u8 g))), (7, .c (.d (.bool true))), (9, .c (.d (.str kind))), (10, .c (.d (.str (110 :: w))))], ⟨1, []⟩⟩ := by
  have hi := no95_idx (nw_no95 hw)
  have hj := nw_join (w := w) hl
  have hg9 : ¬ (1 + g % 9 < 1 ∨ 10 ≤ 1 + g % 9) := by omega
  have h40 : simpleIn simplesT kind = some (l, r, a) → G40 [.c (.str kind), .c (.str (110 :: w))] = some (.tup [.c (.str (textOf ⟨[110 :: w], l, r⟩)), .c (.int .i64 a), .c (.int .i64 0)]) := by
    intro hs
    simp only [G40, simpleDV, hs]
    rw [if_neg (by rintro (h | h); cases h; omega), if_pos hj]
  have h19 : (l = true ∨ r = true) → G19 (partV G) [.c (.str (textOf ⟨[110 :: w], l, r⟩))] = some (.tup [.agg [.list 1 [[.str (110 :: w)]], .bool l, .bool r], .c (.int .i64 0)]) := by
    intro hlr
    simp only [G19, nw_shape hG hw hl hlr]
    rfl
  have h42 : (l = true ∨ r = true) → ((a : Int) = 0 ∨ ((a : Int) = 1 ∧ l = true) ∨ ((a : Int) = 2 ∧ r = true)) → G42 (partV G) [.agg [.str (textOf ⟨[110 :: w], l, r⟩), .int .i64 (1 + g % 9), .int .i64 a]] = some (.c (.int .i64 0)) := by
    intro hlr ha
    simp only [G42, mayOf, nw_shape hG hw hl hlr]
    rw [if_neg hg9, if_pos ha]
  generalize textOf ⟨[110 :: w], l, r⟩ = txt at h40 h19 h42
  simp only [simplesT, List.mem_cons, Prod.mk.injEq, List.mem_nil_iff, or_false] at hk
  rcases hk with ⟨rfl, rfl, rfl, rfl⟩ | ⟨rfl, rfl, rfl, rfl⟩ | ⟨rfl, rfl, rfl, rfl⟩ | ⟨rfl, rfl, rfl, rfl⟩ | ⟨rfl, rfl, rfl, rfl⟩ | ⟨rfl, rfl, rfl, rfl⟩ | ⟨rfl, rfl, rfl, rfl⟩ <;>
  (have h40 := h40 rfl
   have h19 := h19 (by first | exact .inl rfl | exact .inr rfl)
   have h42 := h42 (by first | exact .inl rfl | exact .inr rfl) (by first | exact .inl rfl | exact .inr (.inl ⟨rfl, rfl⟩) | exact .inr (.inr ⟨rfl, rfl⟩))
   unfold c14r c14l c14
   dsimp only
   repeat' first
    | ((with_reducible apply step_pc (f := 40)); rfl; rfl; rfl; exact h40; rfl)
    | ((with_reducible apply step_pc (f := 19)); rfl; rfl; rfl; exact h19; rfl)
    | ((with_reducible apply step_pc (f := 42)); rfl; rfl; rfl; exact h42; rfl)
    | refine step_op (ev_eqs_t rfl rfl rfl) ?_
    | refine step_op (toInt_64 rfl h0 (by omega)) ?_
    | refine step_op (ev_rem rfl rfl h0 (by decide)) ?_
    | ((with_reducible apply step_addi); rfl; rfl; omega; omega)
    |  with_reducible refine awp_seq ?_ | with_reducible refine awp_region ?_ | with_reducible refine ops_nil ?_ | with_reducible refine seqK_n ?_ | with_reducible refine seqK_r ?_ | with_reducible refine seqK_e ?_ | with_reducible refine weak_id ?_ | with_reducible refine awp_ret ?_ | with_reducible refine awp_skip ?_ | with_reducible refine awp_exit ?_ | with_reducible refine awp_block ?_ | with_reducible refine blkK_n ?_ | with_reducible refine blkK_r ?_ | with_reducible refine blkK_e ?_ | with_reducible refine awp_goto ?_ | with_reducible refine jmpK_n ?_ | with_reducible refine jmpK_r ?_ | with_reducible refine jmpK_e ?_ | with_reducible refine jmpK_g ?_ | with_reducible refine seqK_g ?_ | with_reducible refine blkK_g ?_ | (with_reducible refine blkK_o (by decide) ?_) | ((with_reducible apply step_go); rfl) | ((with_reducible apply step_skip); rfl; decide) | ((with_reducible apply step_skip_u); rfl) | ((with_reducible apply awp_cond_t); rfl) | ((with_reducible apply awp_cond_f); rfl) | refine step_op rfl ?_ | refine step_op0 rfl ?_
   exact ⟨_, rfl, rfl⟩)
set_option maxRecDepth 8000 in
set_option maxHeartbeats 8000000 in
theorem w14l {cl : Call} {kind : List UInt8} {sz : Nat} {s : List UInt8} {g : Int} {Q : Exit → St → Prop}
    (hrest : ∀ w, lowW w → w.length ≤ 7 → awp cl c14r Q ⟨[(2, .c (.d (.int .u8 g))), (7, .c (.d (.bool true))), (9, .c (.d (.str kind))), (10, .c (.d (.str (110 :: w))))], ⟨1, []⟩⟩) :
    awp cl c14l Q ⟨[(1, .c (.d (.list sz (encB s)))), (2, .c (.d (.int .u8 g))), (7, .c (.d (.bool true))), (9, .c (.d (.str kind))), (10, .c (.d (.str [110])))], ⟨1, []⟩⟩ := by
  have hl : (encB s).length = s.length := encB_length s
  unfold c14l c14
  dsimp only
  repeat' first |  with_reducible refine awp_seq ?_ | with_reducible refine awp_region ?_ | with_reducible refine ops_nil ?_ | with_reducible refine seqK_n ?_ | with_reducible refine seqK_r ?_ | with_reducible refine seqK_e ?_ | with_reducible refine weak_id ?_ | with_reducible refine awp_ret ?_ | with_reducible refine awp_skip ?_ | with_reducible refine awp_exit ?_ | with_reducible refine awp_block ?_ | with_reducible refine blkK_n ?_ | with_reducible refine blkK_r ?_ | with_reducible refine blkK_e ?_ | with_reducible refine awp_goto ?_ | with_reducible refine jmpK_n ?_ | with_reducible refine jmpK_r ?_ | with_reducible refine jmpK_e ?_ | with_reducible refine jmpK_g ?_ | with_reducible refine seqK_g ?_ | with_reducible refine blkK_g ?_ | (with_reducible refine blkK_o (by decide) ?_) | ((with_reducible apply step_go); rfl) | ((with_reducible apply step_skip); rfl; decide) | ((with_reducible apply step_skip_u); rfl) | ((with_reducible apply awp_cond_t); rfl) | ((with_reducible apply awp_cond_f); rfl) | refine step_op rfl ?_ | refine step_op0 rfl ?_
  refine awp_loop (fun n st => ∃ (i : Int) (w : List UInt8), 0 ≤ i ∧ i ≤ 7 ∧ 7 - i < n ∧ lowW w ∧ (w.length : Int) = i ∧
    st = ⟨[(1, .c (.d (.list sz (encB s)))), (2, .c (.d (.int .u8 g))), (7, .c (.d (.bool true))), (9, .c (.d (.str kind))), (10, .c (.d (.str (110 :: w)))), (11, .c (.d (.int .i64 i)))], ⟨1, []⟩⟩) 8 ?_ (by rintro st ⟨i, w, h1, h2, h3, _⟩; omega) ?_
  · exact weak_keep [1, 2, 7, 9, 10, 11] rfl ⟨0, [], by omega, by omega, by omega, fun b hb => by simp at hb, rfl, rfl⟩
  · rintro n K hK st ⟨i, w, h1, h2, h3, hw, hwl, rfl⟩
    repeat' first
      | exact weak_keep [2, 7, 9, 10] rfl (hrest w hw (by omega))
      |  with_reducible refine awp_seq ?_ | with_reducible refine awp_region ?_ | with_reducible refine ops_nil ?_ | with_reducible refine seqK_n ?_ | with_reducible refine seqK_r ?_ | with_reducible refine seqK_e ?_ | with_reducible refine weak_id ?_ | with_reducible refine awp_ret ?_ | with_reducible refine awp_skip ?_ | with_reducible refine awp_exit ?_ | with_reducible refine awp_block ?_ | with_reducible refine blkK_n ?_ | with_reducible refine blkK_r ?_ | with_reducible refine blkK_e ?_ | with_reducible refine awp_goto ?_ | with_reducible refine jmpK_n ?_ | with_reducible refine jmpK_r ?_ | with_reducible refine jmpK_e ?_ | with_reducible refine jmpK_g ?_ | with_reducible refine seqK_g ?_ | with_reducible refine blkK_g ?_ | (with_reducible refine blkK_o (by decide) ?_) | ((with_reducible apply step_go); rfl) | ((with_reducible apply step_skip); rfl; decide) | ((with_reducible apply step_skip_u); rfl) | ((with_reducible apply awp_cond_t); rfl) | ((with_reducible apply awp_cond_f); rfl) | ((with_reducible apply step_lss); rfl; rfl; all_goals (intro hc; first | (exfalso; omega) | skip)) | ((with_reducible apply step_leq); rfl; rfl; all_goals (intro hc; first | (exfalso; omega) | skip)) | ((with_reducible apply step_gtr); rfl; rfl; all_goals (intro hc; first | (exfalso; omega) | skip)) | ((with_reducible apply step_geq); rfl; rfl; all_goals (intro hc; first | (exfalso; omega) | skip)) | ((with_reducible apply step_eql); rfl; rfl; all_goals (intro hc; first | (exfalso; omega) | skip)) | ((with_reducible apply step_neq); rfl; rfl; all_goals (intro hc; first | (exfalso; omega) | skip)) | ((with_reducible apply step_eqs); rfl; rfl; all_goals (intro hc; first | contradiction | skip)) | ((with_reducible apply step_nes); rfl; rfl; all_goals (intro hc; first | contradiction | skip)) | ((with_reducible apply step_addi); rfl; rfl; omega; omega) | ((with_reducible apply step_subi); rfl; rfl; omega; omega) | ((with_reducible apply step_byte); rfl; rfl; omega; omega; intro c hget hc) | ((with_reducible apply step_char); rfl; rfl; omega; omega; intro c hget hc) | ((with_reducible apply step_slb); rfl; (first | exact .inl rfl | assumption); rfl; rfl; omega; omega; omega; intro s' hs' hl') | ((with_reducible apply step_sub_s); rfl; rfl; rfl; omega; omega; omega; intro s' hs' hl') | ((with_reducible apply step_bs); rfl)
      | ((with_reducible apply step_lit1); rfl; omega; omega; intro c2 hc2)
      | refine step_op (ev_rem8 rfl rfl (by omega) (by decide)) ?_
      | refine step_op (ev_add8 rfl rfl (by omega) (by omega)) ?_
      | refine step_op (ev_adds rfl rfl (by simp only [List.length_cons, List.length_nil]; omega)) ?_
      |  with_reducible refine awp_seq ?_ | with_reducible refine awp_region ?_ | with_reducible refine ops_nil ?_ | with_reducible refine seqK_n ?_ | with_reducible refine seqK_r ?_ | with_reducible refine seqK_e ?_ | with_reducible refine weak_id ?_ | with_reducible refine awp_ret ?_ | with_reducible refine awp_skip ?_ | with_reducible refine awp_exit ?_ | with_reducible refine awp_block ?_ | with_reducible refine blkK_n ?_ | with_reducible refine blkK_r ?_ | with_reducible refine blkK_e ?_ | with_reducible refine awp_goto ?_ | with_reducible refine jmpK_n ?_ | with_reducible refine jmpK_r ?_ | with_reducible refine jmpK_e ?_ | with_reducible refine jmpK_g ?_ | with_reducible refine seqK_g ?_ | with_reducible refine blkK_g ?_ | (with_reducible refine blkK_o (by decide) ?_) | ((with_reducible apply step_go); rfl) | ((with_reducible apply step_skip); rfl; decide) | ((with_reducible apply step_skip_u); rfl) | ((with_reducible apply awp_cond_t); rfl) | ((with_reducible apply awp_cond_f); rfl) | refine step_op rfl ?_ | refine step_op0 rfl ?_
    refine hK _ (weak_keep [1, 2, 7, 9, 10, 11] rfl ⟨_, w ++ [c2], by omega, by omega, by omega, lowW_app hw (by omega) (by omega), by simp; omega, rfl⟩)
theorem c14l_is {cl : Call} {Q : Exit → St → Prop} {st : St} (h : awp cl c14l Q st) : weak (awp cl c14l Q) st := weak_id h
set_option maxRecDepth 8000 in
set_option maxHeartbeats 8000000 in
theorem w14 {G : List DV → Option DV} (hG : KB R37 G) (ds : List DV) (r : DV) (h : G14 ds = some r) : awp (tbl [(19, G19 (partV G)), (38, G17), (40, G40), (42, G42 (partV G))]) c14 (PureQ [.t 6] r) ⟨argE 0 (dvArgs ds), ⟨0, []⟩⟩ := by
  unfold G14 at h
  split at h
  · rename_i w d g
    split at h
    · rename_i s hs
      obtain ⟨sz, rfl, hz⟩ := bytesV_eq hs
      split at h
      · rename_i hb
        obtain ⟨b1, b2, b3, b4⟩ := hb
        cases h
        have h38 : G17 [] = some (.c (.bool true)) := rfl
        have hfin : ∀ kind l rr a, (kind, l, rr, a) ∈ simplesT → awp (tbl [(19, G19 (partV G)), (38, G17), (40, G40), (42, G42 (partV G))]) c14l (PureQ [.t 6] (.c (.bool true))) ⟨[(1, .c (.d (.list sz (encB s)))), (2, .c (.d (.int .u8 g))), (7, .c (.d (.bool true))), (9, .c (.d (.str kind))), (10, .c (.d (.str [110])))], ⟨1, []⟩⟩ :=
          fun kind l rr a hk => w14l (fun w hw hl => w14r hG hk hw hl b3 b4)
        have hr : w % 7 = 0 ∨ w % 7 = 1 ∨ w % 7 = 2 ∨ w % 7 = 3 ∨ w % 7 = 4 ∨ w % 7 = 5 ∨ w % 7 = 6 := by omega
        rcases hr with hr | hr | hr | hr | hr | hr | hr <;>
        (have hrem : ∀ e hp x, ev e x = .c (.d (.int .u8 w)) → eval (tbl [(19, G19 (partV G)), (38, G17), (40, G40), (42, G42 (partV G))]) e hp (.bin .rem x (.k (.c (.d (.int .u8 7))))) = some (.c (.d (.int .u8 (w % 7))), hp) := fun e hp x hx => ev_rem8 hx rfl b1 (by decide)
         rw [hr] at hrem
         unfold c14
         repeat' first
          | exact weak_drop [1, 2, 7, 9, 10] rfl (fun y o h => by cases h) (Nat.le_refl _) (hfin _ _ _ _ (List.mem_cons_self ..))
          | exact weak_drop [1, 2, 7, 9, 10] rfl (fun y o h => by cases h) (Nat.le_refl _) (hfin _ _ _ _ (.tail _ (List.mem_cons_self ..)))
          | exact weak_drop [1, 2, 7, 9, 10] rfl (fun y o h => by cases h) (Nat.le_refl _) (hfin _ _ _ _ (.tail _ (.tail _ (List.mem_cons_self ..))))
          | exact weak_drop [1, 2, 7, 9, 10] rfl (fun y o h => by cases h) (Nat.le_refl _) (hfin _ _ _ _ (.tail _ (.tail _ (.tail _ (List.mem_cons_self ..)))))
          | exact weak_drop [1, 2, 7, 9, 10] rfl (fun y o h => by cases h) (Nat.le_refl _) (hfin _ _ _ _ (.tail _ (.tail _ (.tail _ (.tail _ (List.mem_cons_self ..))))))
          | exact weak_drop [1, 2, 7, 9, 10] rfl (fun y o h => by cases h) (Nat.le_refl _) (hfin _ _ _ _ (.tail _ (.tail _ (.tail _ (.tail _ (.tail _ (List.mem_cons_self ..)))))))
          | exact weak_drop [1, 2, 7, 9, 10] rfl (fun y o h => by cases h) (Nat.le_refl _) (hfin _ _ _ _ (.tail _ (.tail _ (.tail _ (.tail _ (.tail _ (.tail _ (List.mem_cons_self ..))))))))
          | ((with_reducible apply step_pc (f := 38)); rfl; rfl; rfl; exact h38; rfl)
          | refine step_op (hrem _ _ _ rfl) ?_
          |  with_reducible refine awp_seq ?_ | with_reducible refine awp_region ?_ | with_reducible refine ops_nil ?_ | with_reducible refine seqK_n ?_ | with_reducible refine seqK_r ?_ | with_reducible refine seqK_e ?_ | with_reducible refine weak_id ?_ | with_reducible refine awp_ret ?_ | with_reducible refine awp_skip ?_ | with_reducible refine awp_exit ?_ | with_reducible refine awp_block ?_ | with_reducible refine blkK_n ?_ | with_reducible refine blkK_r ?_ | with_reducible refine blkK_e ?_ | with_reducible refine awp_goto ?_ | with_reducible refine jmpK_n ?_ | with_reducible refine jmpK_r ?_ | with_reducible refine jmpK_e ?_ | with_reducible refine jmpK_g ?_ | with_reducible refine seqK_g ?_ | with_reducible refine blkK_g ?_ | (with_reducible refine blkK_o (by decide) ?_) | ((with_reducible apply step_go); rfl) | ((with_reducible apply step_skip); rfl; decide) | ((with_reducible apply step_skip_u); rfl) | ((with_reducible apply awp_cond_t); rfl) | ((with_reducible apply awp_cond_f); rfl) | refine step_op rfl ?_ | refine step_op0 rfl ?_)
      · cases h
    · cases h
  · cases h
/-- THE LAW's FUNCTION: true, of any byte, bytes and byte. -/
theorem operSimple_ok (m : Int) : PureFn Go.Proofs.Tryd.prog (glbS m) 14 G14 := by
  obtain ⟨G, p37, hG⟩ := lexAll m
  have p46 := pok46 (.inl p37) hG
  have p19 := (pok19 (pok47 (pok63 (pok45 p46)))).s
  have p42 := pok42 p19
  have p38 : PureOk Go.Proofs.Tryd.prog (glbS m) 38 G17 := pure_ok (fn38 m) (callOk_cons (pok40 m) (callOk_cons p42 (callOk_nil _ _))) (w38 hG)
  exact pure_fn (fn14 m) (callOk_cons p19 (callOk_cons p38 (callOk_cons (pok40 m) (callOk_cons p42 (callOk_nil _ _))))) (w14 hG)
end Go.Am
