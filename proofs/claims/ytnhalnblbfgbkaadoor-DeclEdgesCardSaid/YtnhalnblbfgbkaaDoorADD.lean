/-
  DeclWords: the law's function comes to true, whatever it is given.
-/
import Derived.Test.YtnhalnblbfgbkaaDoorADB
namespace Go.Am
open Go
def toK (p : Int × List UInt8) : Tk5 := ⟨p.1, 0, 0, p.2, 0⟩
def ks (t : Tk5) : Int × List UInt8 := (t.k, t.s)
theorem isTk_K (t : Tk5) (k : Int) (s : List UInt8) : isTk (toK (ks t)) k s = isTk t k s := rfl
theorem signB_K (t : Tk5) (c : UInt8) : signB (toK (ks t)) c = signB t c := rfl
theorem allS_K : ∀ (c : List UInt8) (l : List Tk5), allS c (l.map fun t => toK (ks t)) = allS c l
  | [], _ => rfl
  | _ :: _, [] => rfl
  | c :: r, t :: l => by
    show (signB (toK (ks t)) c && allS r (l.map fun t => toK (ks t))) = (signB t c && allS r l)
    rw [allS_K r l, signB_K]
theorem getD_K (l : List Tk5) (i : Nat) : (l.map fun t => toK (ks t)).getD i ⟨0, 0, 0, [], 0⟩ = toK (ks (l.getD i ⟨0, 0, 0, [], 0⟩)) := by
  rw [List.getD_eq_getElem?_getD, List.getD_eq_getElem?_getD, List.getElem?_map]
  cases l[i]? <;> rfl
theorem rowB_K (l : List Tk5) (w s : List UInt8) : rowB (l.map fun t => toK (ks t)) w s = rowB l w s := by
  unfold rowB rowB.noTk5
  rw [List.length_map, getD_K, getD_K, isTk_K, isTk_K, ← List.map_drop, allS_K]
theorem declOf_K (l : List Tk5) : declOf (l.map fun t => toK (ks t)) = declOf l := by
  unfold declOf tkAt
  simp only [rowB_K, getD_K]
  rfl
theorem declIs_K (l : List Tk5) : declIs (l.map fun t => toK (ks t)) = declIs l := by
  cases l with
  | nil => rfl
  | cons t l => rfl
theorem lexT_K (s : List UInt8) : (lexT s).map (fun t => toK (ks t)) = (lexK s).map toK := by
  unfold lexT lexK
  rw [List.map_map, List.map_map]
  rfl
theorem declOf_lex {s : List UInt8} {l : List (Int × List UInt8)} (h : lexK s = l) : declOf (lexT s) = declOf (l.map toK) := by rw [← declOf_K, lexT_K, h]
theorem declIs_lex {s : List UInt8} {l : List (Int × List UInt8)} (h : lexK s = l) : declIs (lexT s) = declIs (l.map toK) := by rw [← declIs_K, lexT_K, h]
theorem start_sym {c : UInt8} {r : List UInt8} (hc : classOf c = 5) (h47 : c ≠ 47) : startB (c :: r) = true := by
  have hp : hasPre (c :: r) [47, 42] = false := by
    unfold hasPre
    cases r with
    | nil => rfl
    | cons d r => simp [h47]
  have h37 : c.toNat ≠ 37 := fun e => by
    have := (class8_iff c).2 e
    omega
  simp [startB, hc, h37, hp]
theorem lk_dir (X : List UInt8) : lexK (58 :: 45 :: 32 :: X) = (2, [58, 45]) :: lexK X := by
  have h := lexK_sym (c := 58) (w := [45]) (r := 32 :: X) (by decide) (by decide) rfl (start_sym (by decide) (by decide)) (by simp)
  have h2 : lexK (32 :: X) = lexK X := lexK_sp (by decide)
  rw [h2] at h
  exact h
theorem lk_op (X : List UInt8) : lexK (111 :: 112 :: 40 :: X) = (1, [111, 112]) :: (6, [40]) :: lexK X := by
  have h := lexK_name (c := 111) (w := [112]) (r := 40 :: X) (by decide) (by decide) rfl
  rw [lexK_solo (c := 40) (by decide)] at h
  exact h
theorem lk_3 (X : List UInt8) : lexK (51 :: 44 :: 32 :: X) = (4, [51]) :: (6, [44]) :: lexK X := by
  have h := lexK_num (c := 51) (w := []) (r := 44 :: 32 :: X) (v := 3) (by decide) (by simp) rfl rfl
  rw [lexK_solo (c := 44) (by decide), lexK_sp (c := 32) (by decide)] at h
  exact h
theorem lk_left (X : List UInt8) : lexK (108 :: 101 :: 102 :: 116 :: 44 :: 32 :: X) = (1, [108, 101, 102, 116]) :: (6, [44]) :: lexK X := by
  have h := lexK_name (c := 108) (w := [101, 102, 116]) (r := 44 :: 32 :: X) (by decide) (by decide) rfl
  rw [lexK_solo (c := 44) (by decide), lexK_sp (c := 32) (by decide)] at h
  exact h
theorem lk_pat (X : List UInt8) : lexK (39 :: 95 :: 43 :: 95 :: 39 :: 44 :: 32 :: X) = (5, [95, 43, 95]) :: (6, [44]) :: lexK X := by
  have h := lexK_quote (w := [95, 43, 95]) (r := 44 :: 32 :: X) (by decide) (show (44 : Nat) ≠ 39 by decide)
  rw [lexK_solo (c := 44) (by decide), lexK_sp (c := 32) (by decide)] at h
  exact h
theorem lk_zz {r X : List UInt8} (hr : lowW r) (hX : stopN X = true) : lexK (122 :: 122 :: (r ++ X)) = (1, 122 :: 122 :: r) :: lexK X :=
  lexK_name (c := 122) (w := 122 :: r) (r := X) (by decide) (fun b hb => by
    rcases List.mem_cons.1 hb with rfl | hb
    · decide
    · simp [nameC, lower_is (hr b hb).1 (hr b hb).2]) hX
theorem tr1 {α : Type} {x : α} {a b c : List α} (h : a = x :: b) (k : b = c) : a = x :: c := by rw [h, k]
theorem tr2 {α : Type} {x y : α} {a b c : List α} (h : a = x :: y :: b) (k : b = c) : a = x :: y :: c := by rw [h, k]
theorem lz0 {r : List UInt8} (hr : lowW r) : lexK (([58, 45, 32] ++ 122 :: 122 :: r) ++ [46]) = [(2, [58, 45]), (1, 122 :: 122 :: r), (7, [46])] := by
  have h : lexK (58 :: 45 :: 32 :: 122 :: 122 :: (r ++ [46])) = _ := (lk_dir _).trans (congrArg _ ((lk_zz hr rfl).trans (congrArg _ (show lexK [46] = [(7, [46])] by decide +kernel))))
  exact h
theorem lz1 {r : List UInt8} (hr : lowW r) : lexK (([58, 45, 32] ++ 122 :: 122 :: r) ++ [40, 51, 44, 32, 52, 41, 46]) = [(2, [58, 45]), (1, 122 :: 122 :: r), (6, [40]), (4, [51]), (6, [44]), (4, [52]), (6, [41]), (7, [46])] := by
  have h : lexK (58 :: 45 :: 32 :: 122 :: 122 :: (r ++ [40, 51, 44, 32, 52, 41, 46])) = _ := (lk_dir _).trans (congrArg _ ((lk_zz hr rfl).trans (congrArg _ (show lexK [40, 51, 44, 32, 52, 41, 46] = [(6, [40]), (4, [51]), (6, [44]), (4, [52]), (6, [41]), (7, [46])] by decide +kernel))))
  exact h
theorem lz2 {r : List UInt8} (hr : lowW r) : lexK (([58, 45, 32, 111, 112, 40] ++ 122 :: 122 :: r) ++ [44, 32, 108, 101, 102, 116, 44, 32, 39, 95, 43, 95, 39, 41, 46]) =
    [(2, [58, 45]), (1, [111, 112]), (6, [40]), (1, 122 :: 122 :: r), (6, [44]), (1, [108, 101, 102, 116]), (6, [44]), (5, [95, 43, 95]), (6, [41]), (7, [46])] := by
  have h : lexK (58 :: 45 :: 32 :: 111 :: 112 :: 40 :: 122 :: 122 :: (r ++ [44, 32, 108, 101, 102, 116, 44, 32, 39, 95, 43, 95, 39, 41, 46])) = _ :=
    (lk_dir _).trans (congrArg _ ((lk_op _).trans (congrArg _ (congrArg _ ((lk_zz hr rfl).trans (congrArg _ (show lexK [44, 32, 108, 101, 102, 116, 44, 32, 39, 95, 43, 95, 39, 41, 46] = [(6, [44]), (1, [108, 101, 102, 116]), (6, [44]), (5, [95, 43, 95]), (6, [41]), (7, [46])] by decide +kernel)))))))
  exact h
theorem lz3 : lexK [58, 45, 32, 101, 100, 103, 101, 32, 51, 44, 32, 52, 46] = [(2, [58, 45]), (1, [101, 100, 103, 101]), (4, [51]), (6, [44]), (4, [52]), (7, [46])] := by decide +kernel
theorem lz4 {r : List UInt8} (hr : lowW r) : lexK (([58, 45, 32, 111, 112, 40, 51, 44, 32, 108, 101, 102, 116, 44, 32, 39, 95, 43, 95, 39, 44, 32] ++ 122 :: 122 :: r) ++ [41, 46]) =
    [(2, [58, 45]), (1, [111, 112]), (6, [40]), (4, [51]), (6, [44]), (1, [108, 101, 102, 116]), (6, [44]), (5, [95, 43, 95]), (6, [44]), (1, 122 :: 122 :: r), (6, [41]), (7, [46])] := by
  exact tr1 (lk_dir _) (tr2 (lk_op _) (tr2 (lk_3 _) (tr2 (lk_left _) (tr2 (lk_pat _) (tr1 (lk_zz hr rfl) (show lexK [41, 46] = [(6, [41]), (7, [46])] by decide +kernel))))))
theorem lz5 {r : List UInt8} (hr : lowW r) : lexK (([58, 45, 32, 111, 112, 40, 51, 44, 32] ++ 122 :: 122 :: r) ++ [44, 32, 43, 41, 46]) =
    [(2, [58, 45]), (1, [111, 112]), (6, [40]), (4, [51]), (6, [44]), (1, 122 :: 122 :: r), (6, [44]), (2, [43]), (6, [41]), (7, [46])] := by
  have h : lexK (58 :: 45 :: 32 :: 111 :: 112 :: 40 :: 51 :: 44 :: 32 :: 122 :: 122 :: (r ++ [44, 32, 43, 41, 46])) = _ :=
    (lk_dir _).trans (congrArg _ ((lk_op _).trans (congrArg _ (congrArg _ ((lk_3 _).trans (congrArg _ (congrArg _ ((lk_zz hr rfl).trans (congrArg _ (show lexK [44, 32, 43, 41, 46] = [(6, [44]), (2, [43]), (6, [41]), (7, [46])] by decide +kernel))))))))))
  exact h
theorem dz0 {r : List UInt8} (hr : lowW r) : declOf (lexT (([58, 45, 32] ++ 122 :: 122 :: r) ++ [46])) = (decl0, 20) := by rw [declOf_lex (lz0 hr)]; rfl
theorem dz1 {r : List UInt8} (hr : lowW r) : declOf (lexT (([58, 45, 32] ++ 122 :: 122 :: r) ++ [40, 51, 44, 32, 52, 41, 46])) = (decl0, 20) := by rw [declOf_lex (lz1 hr)]; rfl
theorem dz2 {r : List UInt8} (hr : lowW r) : declOf (lexT (([58, 45, 32, 111, 112, 40] ++ 122 :: 122 :: r) ++ [44, 32, 108, 101, 102, 116, 44, 32, 39, 95, 43, 95, 39, 41, 46])) = (decl0, 20) := by rw [declOf_lex (lz2 hr)]; rfl
theorem dz3 : declOf (lexT [58, 45, 32, 101, 100, 103, 101, 32, 51, 44, 32, 52, 46]) = (decl0, 20) := by rw [declOf_lex lz3]; rfl
theorem dz4 {r : List UInt8} (hr : lowW r) : declOf (lexT (([58, 45, 32, 111, 112, 40, 51, 44, 32, 108, 101, 102, 116, 44, 32, 39, 95, 43, 95, 39, 44, 32] ++ 122 :: 122 :: r) ++ [41, 46])) = (decl0, 20) := by rw [declOf_lex (lz4 hr)]; rfl
theorem dz5 {r : List UInt8} (hr : lowW r) : declOf (lexT (([58, 45, 32, 111, 112, 40, 51, 44, 32] ++ 122 :: 122 :: r) ++ [44, 32, 43, 41, 46])) = (decl0, 22) := by rw [declOf_lex (lz5 hr)]; rfl
theorem sh1 : declOf (lexT [58, 45, 32, 111, 112, 40, 51, 44, 32, 121, 102, 120, 44, 32, 43, 41, 46]) = ([.int .i64 1, .str [95, 43, 95], .int .i64 3, .int .i64 1, .int .i64 0, .int .i64 0], 0) := by kernel_rfl
theorem sh2 : declOf (lexT [58, 45, 32, 111, 112, 40, 48, 44, 32, 110, 111, 110, 44, 32, 39, 105, 102, 95, 116, 104, 101, 110, 95, 39, 41, 46]) = ([.int .i64 2, .str [105, 102, 95, 116, 104, 101, 110, 95], .int .i64 0, .int .i64 0, .int .i64 0, .int .i64 0], 0) := by kernel_rfl
theorem sh3 : declIs (lexT [58, 45, 32, 120]) = true := by kernel_rfl
def G305 : List DV → Option DV
  | [] => some (.c (.bool true))
  | _ => none
set_option maxRecDepth 8000 in
set_option maxHeartbeats 2000000 in
theorem w305 (ds : List DV) (r : DV) (h : G305 ds = some r) : awp (tbl [(19, onB FAll), (21, T307), (22, T308)]) c305 (PureQ [.t 0] r) ⟨argE 0 (dvArgs ds), ⟨0, []⟩⟩ := by
  unfold G305 at h
  split at h
  · cases h
    have h1 := T307_eq (s := [58, 45, 32, 111, 112, 40, 51, 44, 32, 121, 102, 120, 44, 32, 43, 41, 46]) (by decide)
    have h2 := T307_eq (s := [58, 45, 32, 111, 112, 40, 48, 44, 32, 110, 111, 110, 44, 32, 39, 105, 102, 95, 116, 104, 101, 110, 95, 39, 41, 46]) (by decide)
    rw [sh1] at h1
    rw [sh2] at h2
    have h3 := onB_eq (F := FAll) (sz := 1) (s := [58, 45, 32, 120]) (.inl rfl) (by decide)
    rw [FAll_T, show encB [58, 45, 32, 120] = [[.int .u8 58], [.int .u8 45], [.int .u8 32], [.int .u8 120]] from rfl] at h3
    have h4 := T308_eq 0 0 0 5 (lexT [58, 45, 32, 120])
    rw [sh3] at h4
    unfold pieceD at h4
    generalize (lexT [58, 45, 32, 120]).map tkD = l at h3 h4
    unfold c305
    repeat' first | refine GoH ?_ | ((with_reducible apply Z1 (f := 21));rfl;rfl;rfl;exact h1;rfl) | ((with_reducible apply Z1 (f := 21));rfl;rfl;rfl;exact h2;rfl) | (refine step_b2bh rfl rfl rfl (by decide) ?_) | refine ZB (ev_pcall rfl rfl h3 rfl rfl) ?_ | ((with_reducible apply Z1 (f := 22));rfl;rfl;rfl;exact h4;rfl) | refine ZB rfl ?_|refine ZC rfl ?_
    exact ⟨_, rfl, rfl⟩
  · cases h
theorem pok305 (m : Int) : PureOk Go.Proofs.Tryd.prog (glbS m) 18 G305 := pure_ok (fn305 m) (callOk_cons (pe37 m).s (callOk_cons (pok307 m) (callOk_cons (pok308 m) (callOk_nil _ _)))) w305
noncomputable def clW : Call := tbl [(19, onB FAll), (18, G305), (20, T306), (21, T307), (22, T308)]
set_option maxRecDepth 8000 in
set_option maxHeartbeats 4000000 in
theorem w300v {r s : List UInt8} (hr : lowW r) (hl : r.length ≤ 6) (hs : s.length ≤ 1000) (hd : declOf (lexT s) = (decl0, 20)) (hi : declIs (lexT s) = true) (cs : List C) :
    awp clW (c300.tail 6) (PureQ [.t 4] (.c (.bool true))) ⟨[(5, .c (.d (.bool true))), (6, .c (.d (.str (122 :: 122 :: r)))), (9, .c (.ptr 1 0))], ⟨2, [(1, .cells [.d (.int .i64 0), .d (.int .i64 0), .d (.int .i64 0), .d (.list 5 ((lexT s).map tkD))]), (0, .cells cs)]⟩⟩ := by
  have hb := allOf_bds s
  have q := T306_eq (a := 0) (b := 0) (f := 0) (sz := 5) (l := lexT s) ⟨Nat.le_trans hb.1 hs, fun t ht => Nat.le_trans (hb.2 t ht) hs⟩
  have q2 := T308_eq 0 0 0 5 (lexT s)
  rw [hd] at q
  rw [hi] at q2
  have h5 := T307_eq (s := ([58, 45, 32, 111, 112, 40, 51, 44, 32] ++ 122 :: 122 :: r) ++ [44, 32, 43, 41, 46]) (by simp; omega)
  rw [dz5 hr] at h5
  unfold pieceD at q q2
  unfold declR decl0 at q h5
  simp only at q h5
  generalize (lexT s).map tkD = l at q q2 ⊢
  unfold clW c300
  dsimp only [ACode.tail]
  repeat' first
    | refine GoH ?_
    | ((with_reducible apply Z1 (f := 20));rfl;rfl;rfl;exact q;rfl)
    | ((with_reducible apply Z1 (f := 21));rfl;rfl;rfl;exact h5;rfl)
    | ((with_reducible apply Z1 (f := 22));rfl;rfl;rfl;exact q2;rfl)
    | refine ZB (ev_adds rfl rfl (by simp only [List.length_cons, List.length_nil, List.length_append]; omega)) ?_
    | refine ZB rfl ?_|refine ZC rfl ?_
  exact ⟨_, rfl, rfl⟩
def formOk (s : List UInt8) : Prop := s.length ≤ 1000 ∧ declOf (lexT s) = (decl0, 20) ∧ declIs (lexT s) = true
set_option maxRecDepth 8000 in
set_option maxHeartbeats 4000000 in
theorem w300x {r s0 s1 s2 s3 s4 : List UInt8} (hr : lowW r) (hl : r.length ≤ 6) {w : Nat} (hw : w < 256) (f0 : formOk s0) (f1 : formOk s1) (f2 : formOk s2) (f3 : formOk s3) (f4 : formOk s4) :
    awp clW (c300.tail 5) (PureQ [.t 4] (.c (.bool true))) ⟨[(1, .c (.d (.int .u8 (w : Nat)))), (5, .c (.d (.bool true))), (6, .c (.d (.str (122 :: 122 :: r)))), (8, .c (.ptr 0 0))], ⟨1, [(0, .cells [.d (.str s0), .d (.str s1), .d (.str s2), .d (.str s3), .d (.str s4)])]⟩⟩ := by
  have hrem : ∀ e hp x, ev e x = .c (.d (.int .u8 (w : Nat))) → eval clW e hp (.bin .rem x (.k (.c (.d (.int .u8 5))))) = some (.c (.d (.int .u8 ((w : Int) % 5))), hp) := fun e hp x hx => ev_rem8 hx rfl (by omega) (by decide)
  have h5 : (w : Int) % 5 = 0 ∨ (w : Int) % 5 = 1 ∨ (w : Int) % 5 = 2 ∨ (w : Int) % 5 = 3 ∨ (w : Int) % 5 = 4 := by omega
  have key : ∀ (k : Nat) (s : List UInt8), (w : Int) % 5 = (k : Nat) → k < 5 → ([.d (.str s0), .d (.str s1), .d (.str s2), .d (.str s3), .d (.str s4)] : List C)[k]? = some (.d (.str s)) → formOk s →
      awp clW (c300.tail 5) (PureQ [.t 4] (.c (.bool true))) ⟨[(1, .c (.d (.int .u8 (w : Nat)))), (5, .c (.d (.bool true))), (6, .c (.d (.str (122 :: 122 :: r)))), (8, .c (.ptr 0 0))], ⟨1, [(0, .cells [.d (.str s0), .d (.str s1), .d (.str s2), .d (.str s3), .d (.str s4)])]⟩⟩ := by
    intro k s hk hk5 hs ⟨g1, g2, g3⟩
    rw [hk] at hrem
    have hroom : s.length ≤ room := by unfold room; omega
    have hlex : onB FAll [.c (.list 1 (encB s))] = some (.c (.list 5 ((lexT s).map tkD))) := by rw [← FAll_T]; exact onB_eq (.inl rfl) hroom
    have hv := w300v hr hl g1 g2 g3 [.d (.str s0), .d (.str s1), .d (.str s2), .d (.str s3), .d (.str s4)]
    have hld : mkV false (sub [.d (.str s0), .d (.str s1), .d (.str s2), .d (.str s3), .d (.str s4)] (0 + k * 1) 1) = some (.c (.d (.str s))) := by
      have : k = 0 ∨ k = 1 ∨ k = 2 ∨ k = 3 ∨ k = 4 := by omega
      rcases this with rfl | rfl | rfl | rfl | rfl <;> cases hs <;> rfl
    generalize (lexT s).map tkD = t at hlex hv
    generalize ([.d (.str s0), .d (.str s1), .d (.str s2), .d (.str s3), .d (.str s4)] : List C) = cs at hv hld ⊢
    unfold clW c300 at *
    dsimp only [ACode.tail] at *
    repeat' first
      | ((with_reducible apply weak_keep [5, 6, 9]); rfl; exact hv)
      | refine GoH ?_
      | refine ZB (hrem _ _ _ rfl) ?_
      | refine ZB (ev_arrn rfl rfl hk5) ?_
      | refine ZB (ev_load rfl look_hd hld) ?_
      | refine ZB (ev_s2b0 rfl hroom) ?_
      | ((with_reducible apply Z1 (f := 19));rfl;rfl;rfl;exact hlex;rfl)
      | refine ZB rfl ?_|refine ZC rfl ?_
  rcases h5 with h5 | h5 | h5 | h5 | h5
  · exact key 0 s0 h5 (by omega) rfl f0
  · exact key 1 s1 h5 (by omega) rfl f1
  · exact key 2 s2 h5 (by omega) rfl f2
  · exact key 3 s3 h5 (by omega) rfl f3
  · exact key 4 s4 h5 (by omega) rfl f4
set_option maxRecDepth 8000 in
set_option maxHeartbeats 4000000 in
theorem w300u {r : List UInt8} (hr : lowW r) (hl : r.length ≤ 6) {w : Nat} (hw : w < 256) :
    awp clW (c300.tail 4) (PureQ [.t 4] (.c (.bool true))) ⟨[(1, .c (.d (.int .u8 (w : Nat)))), (5, .c (.d (.bool true))), (6, .c (.d (.str (122 :: 122 :: r))))], ⟨0, []⟩⟩ := by
  have g0 : formOk _ := ⟨by simp only [List.length_cons, List.length_nil, List.length_append]; omega, dz0 hr, by rw [declIs_lex (lz0 hr)]; rfl⟩
  have g1 : formOk _ := ⟨by simp only [List.length_cons, List.length_nil, List.length_append]; omega, dz1 hr, by rw [declIs_lex (lz1 hr)]; rfl⟩
  have g2 : formOk _ := ⟨by simp only [List.length_cons, List.length_nil, List.length_append]; omega, dz2 hr, by rw [declIs_lex (lz2 hr)]; rfl⟩
  have g3 : formOk _ := ⟨by decide, dz3, by rw [declIs_lex lz3]; rfl⟩
  have g4 : formOk _ := ⟨by simp only [List.length_cons, List.length_nil, List.length_append]; omega, dz4 hr, by rw [declIs_lex (lz4 hr)]; rfl⟩
  have hx := w300x hr hl hw g0 g1 g2 g3 g4
  unfold clW c300 at *
  dsimp only [ACode.tail] at *
  repeat' first
    | ((with_reducible apply weak_keep [1, 5, 6, 8]); rfl; exact hx)
    | refine GoH ?_
    | refine ZB (ev_adds rfl rfl (by simp only [List.length_cons, List.length_nil, List.length_append]; omega)) ?_
    | refine ZB rfl ?_|refine ZC rfl ?_
noncomputable def T300 : List DV → Option DV := fam (fun x : (Nat × List UInt8) × Nat => [.c (.list x.1.1 (encB x.1.2)), .c (.int .u8 (x.2 : Nat))]) (fun x => x.2 < 256) (fun _ => .c (.bool true))
theorem T300_eq {sz : Nat} {b : List UInt8} {w : Nat} (h : w < 256) : T300 [.c (.list sz (encB b)), .c (.int .u8 (w : Nat))] = some (.c (.bool true)) :=
  fam_eq (ι := (Nat × List UInt8) × Nat) ((sz, b), w) h (fun _ _ _ => rfl)
set_option maxRecDepth 8000 in
set_option maxHeartbeats 8000000 in
theorem w300 (x : (Nat × List UInt8) × Nat) (h : x.2 < 256) : awp clW c300 (PureQ [.t 4] (.c (.bool true))) ⟨argE 0 (dvArgs [.c (.list x.1.1 (encB x.1.2)), .c (.int .u8 (x.2 : Nat))]), ⟨0, []⟩⟩ := by
  obtain ⟨⟨sz, s⟩, which⟩ := x
  simp only at h ⊢
  have hl : (encB s).length = s.length := encB_length s
  have h305 : G305 [] = some (.c (.bool true)) := rfl
  have hrest := fun (w : List UInt8) (hw : lowW w) (hwl : w.length ≤ 6) => w300u hw hwl h
  unfold clW c300 at *
  dsimp only [ACode.tail] at hrest
  repeat' first | refine GoH ?_ | ((with_reducible apply Z1 (f := 18));rfl;rfl;rfl;exact h305;rfl) | refine ZB rfl ?_|refine ZC rfl ?_
  refine awp_loop (fun n st => ∃ (i : Int) (w : List UInt8), 0 ≤ i ∧ i ≤ 6 ∧ 6 - i < n ∧ lowW w ∧ (w.length : Int) = i ∧
    st = ⟨[(0, .c (.d (.list sz (encB s)))), (1, .c (.d (.int .u8 (which : Nat)))), (5, .c (.d (.bool true))), (6, .c (.d (.str (122 :: 122 :: w)))), (7, .c (.d (.int .i64 i)))], ⟨0, []⟩⟩) 7 ?_ (by rintro st ⟨i, w, h1, h2, h3, _⟩; omega) ?_
  · exact weak_keep [0, 1, 5, 6, 7] rfl ⟨0, [], by omega, by omega, by omega, fun b hb => by simp at hb, rfl, rfl⟩
  · rintro n K hK st ⟨i, w, h1, h2, h3, hw, hwl, rfl⟩
    repeat' first
      | exact weak_keep [1, 5, 6] rfl (hrest w hw (by omega))
      | ((with_reducible first|apply ZD|apply ZE|apply ZF|apply ZG|apply ZH|apply ZI);rfl;rfl;all_goals (intro hc;first|(exfalso;omega)|skip))|((with_reducible first|apply ZJ|apply ZK);rfl;rfl;all_goals (intro hc;first|contradiction|skip))|((with_reducible first|apply ZL|apply ZM);rfl;rfl;omega;omega)|((with_reducible first|apply ZN|apply ZO);rfl;rfl;omega;omega;intro c hget hc)|((with_reducible apply ZP);rfl;(first|exact .inl rfl|assumption);rfl;rfl;omega;omega;omega;intro s' hs' hl')|((with_reducible apply ZQ);rfl;rfl;rfl;omega;omega;omega;intro s' hs' hl')|((with_reducible apply ZR);rfl)
      | ((with_reducible apply step_lit1); rfl; omega; omega; intro c2 hc2)
      | refine ZB (ev_rem8 rfl rfl (by omega) (by decide)) ?_
      | refine ZB (ev_add8 rfl rfl (by omega) (by omega)) ?_
      | refine ZB (ev_adds rfl rfl (by simp only [List.length_cons, List.length_nil]; omega)) ?_
      | refine GoH ?_|refine ZB rfl ?_|refine ZC rfl ?_
    refine hK _ (weak_keep [0, 1, 5, 6, 7] rfl ⟨_, w ++ [c2], by omega, by omega, by omega, lowW_app hw (by omega) (by omega), by simp; omega, rfl⟩)
theorem declWords_ok (m : Int) : PureFn Go.Proofs.Tryd.prog (glbS m) 4 T300 :=
  fam_ok (fn300 m) (callOk_cons (pe37 m).s (callOk_cons (pok305 m) (callOk_cons (pok306 m) (callOk_cons (pok307 m) (callOk_cons (pok308 m) (callOk_nil _ _)))))) w300
end Go.Am
