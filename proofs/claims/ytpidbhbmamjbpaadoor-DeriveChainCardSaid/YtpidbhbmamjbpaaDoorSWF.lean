/-
  Signs ahead of a name and behind it: the plain law, by all cases.
-/
import Derived.Test.YtpidbhbmamjbpaaDoorSV11
import Derived.Test.YtpidbhbmamjbpaaDoorSV12
import Derived.Test.YtpidbhbmamjbpaaDoorSNF
import Derived.Test.YtpidbhbmamjbpaaDoorSNI
import Derived.Test.YtpidbhbmamjbpaaDoorST4
import Derived.Test.YtpidbhbmamjbpaaDoorSWD
import Derived.Test.YtpidbhbmamjbpaaDoorSDE
namespace Go.Am
open Go
theorem p19E (m : Int) : PureOk Go.Proofs.Tryd.prog (glb m) 14 (G19 partE) := pok19 (pok47 (pok63 (pok45 (pok46 (pe37 m) kbE))))
theorem okP (m : Int) : CallOk Go.Proofs.Tryd.prog (glb m) (tblh pureD []) := by
  unfold pureD
  exact callh_nil (callOk_cons (pok23 (p19E m)) (callOk_cons (pok27 m) (callOk_cons (pok29 (p19E m)) (callOk_cons (pok344 m) (callOk_nil _ _)))))
theorem okD (m : Int) : ∀ M, CallOk Go.Proofs.Tryd.prog (glb m) (clD M)
  | 0 => callh_cons (heap_ok (fn335 m) (callOk_nil _ _) fun _ _ _ h => h.elim) (callh_cons (heap_ok (fn337 m) (callOk_nil _ _) fun _ _ _ h => h.elim) (callh_cons (heap_ok (fn336 m) (callOk_nil _ _) fun _ _ _ h => h.elim)
      (callh_cons (heap_ok (fn334 m) (callOk_nil _ _) fun _ _ _ h => h.elim) (callh_cons (heap_ok (fn320 m) (callOk_nil _ _) fun _ _ _ h => h.elim) (callh_cons (heap_ok (fn338 m) (callOk_nil _ _) fun _ _ _ h => h.elim)
        (callh_cons (heap_ok (fn321 m) (callOk_nil _ _) fun _ _ _ h => h.elim) (okP m)))))))
  | M + 1 => callh_cons (wpOf_ok (fn335 m) (okD m M)) (callh_cons (wpOf_ok (fn337 m) (okD m M)) (callh_cons (wpOf_ok (fn336 m) (okD m M)) (callh_cons (wpOf_ok (fn334 m) (okD m M)) (callh_cons (wpOf_ok (fn320 m) (okD m M))
      (callh_cons (wpOf_ok (fn338 m) (okD m M)) (callh_cons (wpOf_ok (fn321 m) (okD m M)) (okP m)))))))
theorem okC (m : Int) (M : Nat) : CallOk Go.Proofs.Tryd.prog (glb m) (clC M) :=
  callh_cons (wpOf_ok (fn320 m) (okD m M)) (callh_cons (wpOf_ok (fn321 m) (okD m M)) (callh_nil (callOk_cons (p19E m) (callOk_nil _ _))))
noncomputable def T312 : List DV → Option DV := fam (fun x : (Nat × List Op3 × (Nat → Int)) × (Nat × List Tk5) => [.agg (envD x.1.1 x.1.2.1 x.1.2.2), .c (.list x.2.1 (x.2.2.map tkD))]) (fun x => x.1.2.1.length ≤ 1000 ∧ x.2.2.length ≤ 1000) (fun x => cntDV (drvOf x.1.2.1 x.1.2.2 x.2.2))
theorem tks_inj : ∀ {l l' : List Tk5}, l.map tkD = l'.map tkD → l = l'
  | [], [], _ => rfl
  | [], _ :: _, h => by cases h
  | _ :: _, [], h => by cases h
  | a :: r, b :: r', h => by
    simp only [List.map_cons, List.cons.injEq] at h
    rw [tkD_inj h.1, tks_inj h.2]
theorem T312_eq {esz tsz : Nat} {ops : List Op3} {f : Nat → Int} {toks : List Tk5} (h : ops.length ≤ 1000 ∧ toks.length ≤ 1000) : T312 [.agg (envD esz ops f), .c (.list tsz (toks.map tkD))] = some (cntDV (drvOf ops f toks)) := by
  refine fam_eq (ι := (Nat × List Op3 × (Nat → Int)) × (Nat × List Tk5)) ((esz, ops, f), tsz, toks) h ?_
  rintro ⟨⟨esz', ops', f'⟩, tsz', toks'⟩ _ e
  simp only [List.cons.injEq, DV.agg.injEq, DV.c.injEq, D.list.injEq, and_true] at e
  obtain ⟨h1, _, h3⟩ := e
  obtain ⟨rfl, h2⟩ := envD_inj h1
  obtain rfl := tks_inj h3
  simp only [drvOf_eq h2]
theorem pok312' (m : Int) (M : Nat) (hM : 70000 ≤ M) : PureOk Go.Proofs.Tryd.prog (glb m) 8 T312 := .inl (fam_ok (fn312 m) (okC m M) fun x h => w312 hM (wT M).1 x h)
theorem pok312 (m : Int) : PureOk Go.Proofs.Tryd.prog (glb m) 8 T312 := pok312' m 70000 (Nat.le_refl _)
end Go.Am
namespace Go.Am
open Go
def resL (L : List (List Nd5)) : DV := match L with
  | [t] => .tup [.c (.int .i64 1), .c (.list 5 (t.map ndD))]
  | _ => .tup [.c (.int .i64 (min 2 L.length : Nat)), .c (.list 0 [])]
theorem cnt_res {c : Drv} {L : List (List Nd5)} (h : c.alls 0 false false 0 c.toks.length = L) (hn : 0 < c.toks.length) : cntDV c = resL L := by
  have hA : c.A 0 false false 0 c.toks.length = min 2 L.length := by rw [A_alls, h]
  unfold cntDV
  by_cases h1 : c.A 0 false false 0 c.toks.length = 1
  · rw [if_pos h1]
    have ho := Tr_only hn h1
    rw [h] at ho
    rw [ho]
    rfl
  · rw [if_neg h1, hA]
    unfold resL
    match L, hA with
    | [], _ => rfl
    | [t], hA => exact absurd (by rw [hA]; rfl) h1
    | _ :: _ :: _, _ => rfl
def eE1 : List Op3 := [⟨[95, 43, 95], 3, 1⟩]
def eE2 : List Op3 := [⟨[95, 43, 95], 3, 0⟩]
def eE3 : List Op3 := [⟨[105, 102, 95, 116, 104, 101, 110, 95], 5, 2⟩, ⟨[105, 102, 95, 116, 104, 101, 110, 95, 101, 108, 115, 101, 95], 5, 2⟩]
def eL1 : List UInt8 := [97, 32, 43, 32, 98, 32, 43, 32, 99]
def eL2 : List UInt8 := [105, 102, 32, 97, 32, 116, 104, 101, 110, 32, 105, 102, 32, 98, 32, 116, 104, 101, 110, 32, 99, 32, 101, 108, 115, 101, 32, 100]
theorem eN1 : (lexT eL1).length = 5 := by kernel_rfl
theorem eN2 : (lexT eL2).length = 9 := by kernel_rfl
theorem eA : ((drvOf eE1 (liftF startF) (lexT eL1)).allZ 0 5).map List.length = [5] := by kernel_rfl
theorem eB : ((drvOf eE2 (liftF startF) (lexT eL1)).allZ 0 5).map List.length = [] := by kernel_rfl
theorem eC : ((drvOf eE3 (liftF startF) (lexT eL2)).allZ 0 9).length = 2 := by kernel_rfl
theorem cnt_ev {e : Nat} {ops : List Op3} {toks : List Tk5} {n : Nat} {Ls : List Nat} (hn : toks.length = n) (h0 : 0 < n) (hops : ops.length ≤ 1000) (ht : n ≤ 1000) (h : ((drvOf ops (liftF startF) toks).allZ 0 n).map List.length = Ls) :
    ∃ L : List (List Nd5), L.map List.length = Ls ∧ ∀ sz, T312 [.agg (envD e ops (liftF startF)), .c (.list sz (toks.map tkD))] = some (resL L) := by
  refine ⟨_, h, fun sz => ?_⟩
  rw [T312_eq ⟨hops, by omega⟩]
  congr 1
  have hn' : (drvOf ops (liftF startF) toks).toks.length = n := hn
  exact cnt_res (by rw [hn', ← allZ_eq]) (by omega)
theorem resL_one {L : List (List Nd5)} {k : Nat} (h : L.map List.length = [k]) : ∃ t : List Nd5, t.length = k ∧ resL L = .tup [.c (.int .i64 1), .c (.list 5 (t.map ndD))] := by
  match L, h with
  | [t], h => exact ⟨t, by simpa using h, rfl⟩
theorem resL_none {L : List (List Nd5)} (h : L.map List.length = []) : resL L = .tup [.c (.int .i64 0), .c (.list 0 [])] := by
  match L, h with
  | [], _ => rfl
theorem resL_two {L : List (List Nd5)} {a b : Nat} {r : List Nat} (h : L.map List.length = a :: b :: r) : resL L = .tup [.c (.int .i64 2), .c (.list 0 [])] := by
  match L, h with
  | x :: y :: l, h =>
    have : min 2 (x :: y :: l).length = 2 := by simp only [List.length_cons]; omega
    show DV.tup [.c (.int .i64 ((min 2 (x :: y :: l).length : Nat) : Int)), .c (.list 0 [])] = _
    rw [this]
    rfl
theorem map_two {α : Type} {L : List (List α)} (h : L.length = 2) : ∃ a b, L.map List.length = [a, b] := by
  match L, h with
  | [x, y], _ => exact ⟨_, _, rfl⟩
def G310 : List DV → Option DV
  | [] => some (.c (.bool true))
  | _ => none
theorem eW1 : withL eE1 [] = eE1 := by kernel_rfl
theorem eW2 : withL eE2 [] = eE2 := by kernel_rfl
theorem eW3 : withL eE3 [] = eE3 := by kernel_rfl
noncomputable def cl310 : Call := tbl [(9, onB FAll), (7, T311), (8, T312)]
set_option maxRecDepth 8000 in
set_option maxHeartbeats 4000000 in
theorem w310 (ds : List DV) (r : DV) (h : G310 ds = some r) : awp cl310 c310r (PureQ [.t 0] r) ⟨argE 0 (dvArgs ds), ⟨0, []⟩⟩ := by
  unfold G310 at h
  split at h
  · cases h
    have a1 := T311_eq (sz := 3) (L := eE1) (by decide)
    have a2 := T311_eq (sz := 3) (L := eE2) (by decide)
    have a3 := T311_eq (sz := 3) (L := eE3) (by decide)
    rw [eW1] at a1
    rw [eW2] at a2
    rw [eW3] at a3
    have x1 := onB_eq (F := FAll) (sz := 1) (s := eL1) (.inl rfl) (by decide)
    have x2 := onB_eq (F := FAll) (sz := 1) (s := eL2) (.inl rfl) (by decide)
    rw [FAll_T] at x1 x2
    obtain ⟨L1, l1, c1⟩ := cnt_ev (e := 3) (ops := eE1) eN1 (by omega) (by decide) (by omega) eA
    obtain ⟨L2, l2, c2⟩ := cnt_ev (e := 3) (ops := eE2) eN1 (by omega) (by decide) (by omega) eB
    obtain ⟨u1, u2, e3⟩ := map_two eC
    obtain ⟨L3, l3, c3⟩ := cnt_ev (e := 3) (ops := eE3) eN2 (by omega) (by decide) (by omega) e3
    obtain ⟨t, ht, q1⟩ := resL_one l1
    rw [q1] at c1
    rw [resL_none l2] at c2
    rw [resL_two l3] at c3
    have hc1 := c1 5
    have hc2 := c2 5
    have hc3 := c3 5
    clear c1 c2 c3
    have htl : (t.map ndD).length = 5 := by rw [List.length_map, ht]
    generalize t.map ndD = tt at hc1 htl
    unfold cl310
    generalize (lexT eL1).map tkD = t1 at *
    generalize (lexT eL2).map tkD = t2 at *
    have b1 : encB eL1 = [[.int .u8 97], [.int .u8 32], [.int .u8 43], [.int .u8 32], [.int .u8 98], [.int .u8 32], [.int .u8 43], [.int .u8 32], [.int .u8 99]] := rfl
    have b2 : encB eL2 = [[.int .u8 105], [.int .u8 102], [.int .u8 32], [.int .u8 97], [.int .u8 32], [.int .u8 116], [.int .u8 104], [.int .u8 101], [.int .u8 110], [.int .u8 32], [.int .u8 105], [.int .u8 102], [.int .u8 32], [.int .u8 98], [.int .u8 32], [.int .u8 116], [.int .u8 104], [.int .u8 101], [.int .u8 110], [.int .u8 32], [.int .u8 99], [.int .u8 32], [.int .u8 101], [.int .u8 108], [.int .u8 115], [.int .u8 101], [.int .u8 32], [.int .u8 100]] := rfl
    rw [b1] at x1
    rw [b2] at x2
    unfold envD zs eE1 eE2 eE3 at *
    simp only at a1 a2 a3
    unfold c310r
    repeat' first
      | refine ZZ (evalR_of_eval (ev_pcall rfl rfl x2 rfl rfl)) (by (repeat' first|exact True.intro|refine ⟨?_, ?_⟩|exact .inl rfl|exact .inr (.inl rfl)|exact .inr (.inr rfl)|rfl)) ?_
      | refine GoH ?_
      | ((with_reducible apply Z1 (f := 7));rfl;rfl;rfl;exact a1;rfl)
      | ((with_reducible apply Z1 (f := 7));rfl;rfl;rfl;exact a2;rfl)
      | ((with_reducible apply Z1 (f := 7));rfl;rfl;rfl;exact a3;rfl)
      | (refine step_b2bh rfl rfl rfl (by decide) ?_)
      | refine ZB (ev_pcall rfl rfl x1 rfl rfl) ?_
      | ((with_reducible apply Z1 (f := 8));rfl;rfl;rfl;exact hc1;rfl)
      | ((with_reducible apply Z1 (f := 8));rfl;rfl;rfl;exact hc2;rfl)
      | (with_reducible first | apply ZS | apply ZT)
      | refine ZY (ev_pcall rfl rfl hc3 rfl rfl) (by (repeat' first|exact True.intro|refine ⟨?_, ?_⟩|exact .inl rfl|exact .inr (.inl rfl)|exact .inr (.inr rfl)|rfl)) ?_
      | refine ZB (ev_lenT htl rfl) ?_
      | (with_reducible first|apply ZS|apply ZT)|((with_reducible apply ZU);rfl)|((with_reducible apply ZV);rfl;decide)|((with_reducible apply ZW);rfl)|refine ZX rfl rfl ?_|refine ZY rfl (by (repeat' first|exact True.intro|refine ⟨?_, ?_⟩|exact .inl rfl|exact .inr (.inl rfl)|exact .inr (.inr rfl)|rfl)) ?_|refine ZZ (Z0 rfl ⟨rfl, rfl⟩) (by (repeat' first|exact True.intro|refine ⟨?_, ?_⟩|exact .inl rfl|exact .inr (.inl rfl)|exact .inr (.inr rfl)|rfl)) ?_
      | refine ZB rfl ?_|refine ZC rfl ?_
    exact ⟨_, rfl, rfl⟩
  · cases h
theorem p42E (m : Int) : PureOk Go.Proofs.Tryd.prog (glb m) 27 (G42 partE) := pure_ok (fn42r m) (callOk_cons (p19E m) (callOk_nil _ _)) (w42 partE)
theorem pok310 (m : Int) : PureOk Go.Proofs.Tryd.prog (glb m) 6 G310 := pure_ok (fn310r m) (callOk_cons (pe37 m) (callOk_cons (pok311 (p42E m)) (callOk_cons (pok312 m) (callOk_nil _ _)))) w310
end Go.Am
namespace Go.Am
open Go
def rpF (b w : List UInt8) : Nat → List UInt8
  | 0 => b
  | n + 1 => rpF b w n ++ w
def sgT (i k : Nat) : List UInt8 := rpF (rpF [] [45, 32] i ++ [97]) [32, 33] k
theorem rpF_len (b w : List UInt8) : ∀ n, (rpF b w n).length = b.length + n * w.length
  | 0 => by simp [rpF]
  | n + 1 => by
    show (rpF b w n ++ w).length = _
    rw [List.length_append, rpF_len b w n, Nat.succ_mul]
    omega
theorem sgT_len (i k : Nat) : (sgT i k).length = 2 * i + 1 + 2 * k := by
  unfold sgT
  rw [rpF_len, List.length_append, rpF_len]
  simp only [List.length_cons, List.length_nil]
  omega
def sgE (g h : Nat) : List Op3 := [⟨[45, 95], 1 + (g : Int), 2⟩, ⟨[95, 33], 1 + (h : Int), 1⟩]
def sgBad (g h i k : Nat) : Bool := decide (0 < i) && decide (0 < k) && !(decide (g < 5) && decide (h < 5) && !(g == h))
def sgTop (g h i k : Nat) : List UInt8 := if i == 0 || (decide (0 < k) && decide (g < h)) then [95, 33] else [45, 95]
def sgB (g h i k : Nat) : Bool := ((lexT (sgT i k)).length == i + k + 1) && (match (drvOf (sgE g h) (liftF startF) (lexT (sgT i k))).allZ 0 (i + k + 1) with
  | [] => sgBad g h i k
  | [x :: t] => !(sgBad g h i k) && (t.length == i + k) && (i + k == 0 || x.s == sgTop g h i k)
  | _ => false)
theorem sg_all : ∀ g < 9, ∀ h < 9, ∀ i < 5, ∀ k < 5, sgB g h i k = true := by decide +kernel
def sgA (g h : Nat) : Bool := (mayOf partE [45, 95] (1 + (g : Int)) 2 == 0) && (mayOf partE [95, 33] (1 + (h : Int)) 1 == 0)
theorem sgA_all : ∀ g < 9, ∀ h < 9, sgA g h = true := by decide +kernel
end Go.Am
