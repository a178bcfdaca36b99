/-
  slices.Insert of one operator ahead of others: what it does in any world.
-/
import Derived.Test.YtpidbhbmamjbpaaDoorSWA
import Derived.Laws.IdiomCopy
import Derived.Lib.Overlaps
import Derived.Lib.AppendZerosOnto
import Derived.Laws.NewBlocks
import Derived.Shelf.Spec.SlicesInsert
namespace Go.Am
open Go Go.Proofs Go.Shelf Go.RowKit Go.Lib
theorem run_copy_n {P : Program} (w : World) (dT sT ty elem : TypeId) (s b o dLen dCap : Nat) (a : Addr) (sLen sCap : Nat) (cs : List Value)
    (hu : P.underlying dT = some (.slice elem)) (hs : (P.info? elem).map (·.size) = some s) (k : Nat) (hk : k = Nat.min sLen dLen) (hn : cs.length = k * s)
    (hsrc : ∀ j v, cs[j]? = some v → w.cell? (a.add j) = some v) (hc : ∀ j, j < cs.length → (w.cell? ⟨b, o + j, none⟩).isSome = true) (hf : ∀ j, j < cs.length → w.frozen? ⟨b, o + j, none⟩ = false) (h1 : ∀ v ∈ cs, v.oneCell' = true) :
    (Builtin.copy_ #[dT, sT] ty #[.slice (some ⟨b, o, none⟩) dLen dCap, .slice (some a) sLen sCap]).run P w = .ok (goInt k) (w.setCells b o cs) := by
  have hl := run_loadCells_list (P := P) w a cs hsrc
  have hst := run_storeCells_cells (P := P) b o cs 0 w (by simpa using hc) (by simpa using hf) h1
  cases hq : P.info? elem with
  | none => simp [hq] at hs
  | some i =>
    have hi : i.size = s := by simpa [hq] using hs
    simp [Builtin.copy_, run_underlying hu, Builtin.lenOf, Builtin.firstCells, sizeOf, typeInfo, hq, hi, ← hk, ← hn, hl, hst]
set_option maxHeartbeats 4000000 in
set_option maxRecDepth 100000 in
theorem insert_shift (b n c i vb voff vc : Nat) (cs vs : List Value) (w : World) (hi : i < n) (hroom : n + 1 ≤ c) (hc63 : c ≤ 9223372036854775807) (hvb : vb ≠ b)
    (hcl : cs.length = n * 3) (hvl : vs.length = 3)
    (hcs : ∀ j v, cs[j]? = some v → w.cell? ⟨b, j, none⟩ = some v) (hsp : ∀ j, j < (n + 1) * 3 → (w.cell? ⟨b, j, none⟩).isSome = true) (hfz : ∀ j, j < (n + 1) * 3 → w.frozen? ⟨b, j, none⟩ = false)
    (hvs : ∀ j v, vs[j]? = some v → w.cell? ⟨vb, voff + j, none⟩ = some v) (h1c : ∀ v ∈ cs, v.oneCell' = true) (h1v : ∀ v ∈ vs, v.oneCell' = true)
    (tA tB : TypeId) (kA kB : Nat) (hsa : w.shape? vb = some (tA, kA)) (hsb : w.shape? b = some (tB, kB)) (hkB : kB ≠ 0) (hfa : w.frozen? ⟨vb, voff, none⟩ = false) (hfe : w.frozen? ⟨vb, kA, none⟩ = false) :
    Calls Go.Proofs.Tryd.prog 31 #[.slice (some ⟨b, 0, none⟩) n c, .int .i64 i, .slice (some ⟨vb, voff, none⟩) 1 vc] w fun e w' =>
      e = .returned (.slice (some ⟨b, 0, none⟩) (n + 1) c) ∧ w' = (w.drew.setCells b ((i + 1) * 3) (cs.drop (i * 3))).setCells b (i * 3) vs := by
  have u22 : ∀ w, Sem.run Go.Proofs.Tryd.prog (underlying 24) w = .ok (TypeDesc.slice 31) w := run_underlying Go.Proofs.Tryd.underlying24
  have u3 := run_underlying Go.Proofs.Tryd.underlying3
  obtain ⟨i0, hi0, hz0, hzs, hzb⟩ := info_parts (P := Go.Proofs.Tryd.prog) (e := 31) (z := .agg #[.string ⟨#[]⟩, .int .i64 0, .int .i64 0]) (size := 3) (bytes := 32) (by kernel_rfl)
  have z28 : ∀ w, Sem.run Go.Proofs.Tryd.prog (Go.sizeOf 31) w = .ok 3 w := fun w => by simp [Go.sizeOf, typeInfo, hi0, hzs]
  have hsz : (Go.Proofs.Tryd.prog.info? 31).map (·.size) = some 3 := by rw [hi0]; simp [hzs]
  have hz1 : ¬ ((1 : Int) = 0) := by omega
  have hz2 : ¬ ((i : Int) = (n : Int)) := by omega
  have hov : ∀ o lb cb, (callFunc 52 #[.slice (some ⟨vb, voff, none⟩) 1 vc, .slice (some ⟨b, o, none⟩) lb cb]).run Go.Proofs.Tryd.prog w = .ok (.value (.bool false)) w := fun o lb cb => by
    rw [run_callFunc_extern Go.Proofs.Tryd.func52 (by kernel_rfl) (by kernel_rfl) (by kernel_rfl) (e := Extern.SlicesOverlaps.overlaps #[24, 24] #[4]) (by kernel_rfl),
      Lib.run_overlaps_apart w 24 4 31 Go.Proofs.Tryd.underlying24 3 z28 ⟨vb, voff, none⟩ ⟨b, o, none⟩ 1 vc lb cb hvb tA tB kA kB hsa hsb hkB hfa hfe]
    rfl
  have hw1 : IntKind.i64.wrap ((i : Int) + 1) = (i : Int) + 1 := by rw [IntKind.wrap_i64]; omega
  have hb1 : (0 : Int) ≤ (i : Int) + 1 := by omega
  have hin : i ≤ n := by omega
  have htn : ((i : Int) + 1).toNat = i + 1 := by omega
  have hb2 : ¬ (c = i + 1) := by omega
  have hb3 : (i : Int) ≤ (n : Int) + 1 := by omega
  have hb4 : ¬ (c = i) := by omega
  have hdl : (cs.drop (i * 3)).length = (n - i) * 3 := by rw [List.length_drop, hcl]; omega
  have hcp1 : ∀ o1 o2 l1 l2, o1 = (i + 1) * 3 → o2 = i * 3 → l1 = n - i → l2 = n + 1 - i → ∀ ty dc sc, (Builtin.copy_ #[24, 24] ty #[.slice (some ⟨b, o1, none⟩) l1 dc, .slice (some ⟨b, o2, none⟩) l2 sc]).run Go.Proofs.Tryd.prog w.drew = .ok (goInt ((n - i : Nat) : Int)) (w.drew.setCells b ((i + 1) * 3) (cs.drop (i * 3))) := by
    rintro _ _ _ _ rfl rfl rfl rfl ty dc sc
    exact run_copy_n w.drew _ _ ty 31 3 b ((i + 1) * 3) (n - i) dc ⟨b, i * 3, none⟩ (n + 1 - i) sc (cs.drop (i * 3)) Go.Proofs.Tryd.underlying24 hsz (n - i) (Nat.min_eq_right (by omega)).symm hdl
      (fun j v hj => by rw [Addr.add_lit]; exact hcs (i * 3 + j) v (by rwa [List.getElem?_drop] at hj))
      (fun j hj => hsp _ (by omega)) (fun j hj => hfz _ (by omega)) (fun v hv => h1c v (List.mem_of_mem_drop hv))
  obtain ⟨W1, hW1⟩ : ∃ W1, W1 = w.drew.setCells b ((i + 1) * 3) (cs.drop (i * 3)) := ⟨_, rfl⟩
  have hsp1 : ∀ k, k < (n + 1) * 3 → (W1.cell? ⟨b, k, none⟩).isSome = true := fun k hk => by
    rw [hW1]
    exact isSome_setCells b _ _ w.drew (fun j hj => hsp ((i + 1) * 3 + j) (by rw [hdl] at hj; omega)) k (hsp k hk)
  have hcp2 : ∀ o1 l1, o1 = i * 3 → l1 = n + 1 - i → ∀ (W : World), (∀ x, W.cell? x = W1.cell? x) → (∀ x, W.frozen? x = W1.frozen? x) → ∀ ty dc, (Builtin.copy_ #[24, 24] ty #[.slice (some ⟨b, o1, none⟩) l1 dc, .slice (some ⟨vb, voff, none⟩) 1 vc]).run Go.Proofs.Tryd.prog W = .ok (goInt 1) (W.setCells b (i * 3) vs) := by
    rintro _ _ rfl rfl W hWc hWf ty dc
    exact run_copy_n W _ _ ty 31 3 b (i * 3) (n + 1 - i) dc ⟨vb, voff, none⟩ 1 vc vs Go.Proofs.Tryd.underlying24 hsz 1 (Nat.min_eq_left (by omega)).symm (by omega)
      (fun j v hj => by
        rw [Addr.add_lit, hWc, hW1, World.cell?_setCells_out b _ _ _ _ (fun h _ => absurd h hvb)]
        exact hvs j v hj)
      (fun j hj => by rw [hWc]; exact hsp1 _ (by omega)) (fun j hj => by rw [hWf, hW1, World.frozen?_setCells]; exact hfz _ (by omega)) h1v
  rw [← hW1] at hcp1
  have mixed : Go.Proofs.Tryd.prog.follows Departure.mixedOrders = true := by kernel_rfl
  go_enter Go.Proofs.Tryd.func31, Go.Proofs.Tryd.ntmps31
  go_wp2_with (simp only [hov])
  go_region_law_o (refine step_copy_runI rfl _ _ 24 24 rfl _ _ (by simp [Act.eval, Act.put]) (by simp [Act.eval, Act.put]) (hcp1 _ _ _ _ ?_ ?_ ?_ ?_ _ _ _) ?_)
  all_goals try omega
  go_wp2_with (at_builtin; refine wpList_copy_runI _ rfl _ _ 24 24 rfl _ _ rfl rfl (hcp2 _ _ (by omega) (by omega) _ (fun _ => rfl) (fun _ => rfl) _ _) ?_)
  go_ret
  exact ⟨rfl, rfl⟩
def zO : Value := .agg #[.string ⟨#[]⟩, .int .i64 0, .int .i64 0]
set_option maxHeartbeats 4000000 in
set_option maxRecDepth 100000 in
theorem insert_grow (b n c i vb voff vc : Nat) (cs vs : List Value) (w : World) (hi : i < n) (hnc : n ≤ c) (hroom : c < n + 1) (hbig : (n + 1) * 32 ≤ 140737488355328)
    (hcl : cs.length = n * 3) (hvl : vs.length = 3)
    (hcs : ∀ j v, cs[j]? = some v → w.cell? ⟨b, j, none⟩ = some v)
    (hvs : ∀ j v, vs[j]? = some v → w.cell? ⟨vb, voff + j, none⟩ = some v) (h1c : ∀ v ∈ cs, v.oneCell' = true) (h1v : ∀ v ∈ vs, v.oneCell' = true) :
    Calls Go.Proofs.Tryd.prog 31 #[.slice (some ⟨b, 0, none⟩) n c, .int .i64 i, .slice (some ⟨vb, voff, none⟩) 1 vc] w fun e w' =>
      e = .returned (.slice (some ⟨w.heap.size, 0, none⟩) (n + 1) (grownCap w (n + 1) c 31)) ∧
      w' = (((w.alloc (.cells ((cs.take (i * 3)).toArray ++ Builtin.zeroCells zO.cells (n + 1 - i) ++ Builtin.zeroCells zO.cells (grownCap w (n + 1) c 31 - (n + 1))) 31)).drew.setCells w.heap.size (i * 3) vs).drew).setCells w.heap.size ((i + 1) * 3) (cs.drop (i * 3)) := by
  have u22 : ∀ w, Sem.run Go.Proofs.Tryd.prog (underlying 24) w = .ok (TypeDesc.slice 31) w := run_underlying Go.Proofs.Tryd.underlying24
  have u3 := run_underlying Go.Proofs.Tryd.underlying3
  obtain ⟨i0, hi0, hz0, hzs, hzb⟩ := info_parts (P := Go.Proofs.Tryd.prog) (e := 31) (z := zO) (size := 3) (bytes := 32) (by kernel_rfl)
  have z28 : ∀ w, Sem.run Go.Proofs.Tryd.prog (Go.sizeOf 31) w = .ok 3 w := fun w => by simp [Go.sizeOf, typeInfo, hi0, hzs]
  have hsz : (Go.Proofs.Tryd.prog.info? 31).map (·.size) = some 3 := by rw [hi0]; simp [hzs]
  have hz1 : ¬ ((1 : Int) = 0) := by omega
  have hz2 : ¬ ((i : Int) = (n : Int)) := by omega
  have hz3 : (c : Int) < (n : Int) + 1 := by omega
  have hbw : b < w.heap.size := block_lt_of_cell (hcs 0 _ (List.getElem?_eq_getElem (by omega)))
  have hvw : vb < w.heap.size := block_lt_of_cell (hvs 0 _ (List.getElem?_eq_getElem (by omega)))
  have hkk : (n : Int) + 1 - (i : Int) = ((n + 1 - i : Nat) : Int) := by omega
  have hik : i + (n + 1 - i) = n + 1 := by omega
  have hold : (Builtin.firstCells i0.size i (.slice (some ⟨b, 0, none⟩) i c)).run Go.Proofs.Tryd.prog w.drew = .ok (cs.take (i * 3)).toArray w.drew := by
    rw [hzs]
    exact run_firstCells_some w.drew 3 i ⟨b, 0, none⟩ i c (cs.take (i * 3)) (by rw [List.length_take, hcl]; omega) (fun j v hj => by
      rw [Addr.add_lit]
      rw [List.getElem?_take] at hj
      split at hj
      · rw [Nat.zero_add]; exact hcs j v hj
      · cases hj)
  have hrz : ∀ ty, (Builtin.append_ #[24, 3] ty #[.slice (some ⟨b, 0, none⟩) i c, .int .i64 ((n : Int) + 1 - (i : Int))]).run Go.Proofs.Tryd.prog w =
      .ok (.slice (some ⟨w.heap.size, 0, none⟩) (n + 1) (grownCap w (n + 1) c 31)) (w.drew.alloc (.cells ((cs.take (i * 3)).toArray ++ Builtin.zeroCells zO.cells (n + 1 - i) ++ Builtin.zeroCells zO.cells (grownCap w (n + 1) c 31 - (n + 1))) 31)) := fun ty => by
    have h := Lib.run_append_grow_zeros w 24 3 ty 31 i0 _ .i64 .i64 Go.Proofs.Tryd.underlying24 Go.Proofs.Tryd.underlying3 hi0 hz0 (some ⟨b, 0, none⟩) i c (cs.take (i * 3)) hold (n + 1 - i) (by omega) (by omega) (by omega) (by omega) (by rw [hzb]; omega) (by rw [hzb, hik]; exact growslice_fits hroom hbig)
    rw [hik] at h
    rw [hkk]
    exact h
  obtain ⟨G, hG⟩ : ∃ G, G = grownCap w (n + 1) c 31 := ⟨_, rfl⟩
  obtain ⟨ROW, hROW⟩ : ∃ ROW : Array Value, ROW = (cs.take (i * 3)).toArray ++ Builtin.zeroCells zO.cells (n + 1 - i) ++ Builtin.zeroCells zO.cells (G - (n + 1)) := ⟨_, rfl⟩
  rw [← hG] at hrz ⊢
  rw [← hROW] at hrz ⊢
  have hRl : (n + 1) * 3 ≤ ROW.size := by
    rw [hROW]
    simp only [Array.size_append, zeroCells_size, List.size_toArray, List.length_take, hcl]
    have : zO.cells.size = 3 := rfl
    rw [this]
    omega
  obtain ⟨W1, hW1⟩ : ∃ W1, W1 = w.drew.alloc (.cells ROW 31) := ⟨_, rfl⟩
  rw [← hW1] at hrz
  have hN : ∀ j, j < (n + 1) * 3 → (W1.cell? ⟨w.heap.size, j, none⟩).isSome = true := fun j hj => by
    rw [hW1, World.cell?_alloc_at (w := w.drew) ROW _ w.heap.size j rfl, Array.getElem?_eq_getElem (by omega)]; rfl
  have hNf : ∀ j, W1.frozen? ⟨w.heap.size, j, none⟩ = false := fun j => by rw [hW1]; exact World.frozen?_alloc_at (w := w.drew) ROW _ w.heap.size j rfl
  have hOb : ∀ j v, w.cell? ⟨b, j, none⟩ = some v → W1.cell? ⟨b, j, none⟩ = some v := fun j v h => by rw [hW1, World.cell?_alloc_past (w := w.drew) _ b j hbw]; exact h
  have hOv : ∀ j v, w.cell? ⟨vb, j, none⟩ = some v → W1.cell? ⟨vb, j, none⟩ = some v := fun j v h => by rw [hW1, World.cell?_alloc_past (w := w.drew) _ vb j hvw]; exact h
  have hcpA : ∀ o1 l1, o1 = i * 3 → l1 = n + 1 - i → ∀ (W : World), (∀ x, W.cell? x = W1.cell? x) → (∀ x, W.frozen? x = W1.frozen? x) → ∀ ty dc, (Builtin.copy_ #[24, 24] ty #[.slice (some ⟨w.heap.size, o1, none⟩) l1 dc, .slice (some ⟨vb, voff, none⟩) 1 vc]).run Go.Proofs.Tryd.prog W = .ok (goInt 1) (W.setCells w.heap.size (i * 3) vs) := by
    rintro _ _ rfl rfl W hWc hWf ty dc
    exact run_copy_n W _ _ ty 31 3 w.heap.size (i * 3) (n + 1 - i) dc ⟨vb, voff, none⟩ 1 vc vs Go.Proofs.Tryd.underlying24 hsz 1 (Nat.min_eq_left (by omega)).symm (by omega)
      (fun j v hj => by rw [Addr.add_lit, hWc]; exact hOv _ v (hvs j v hj))
      (fun j hj => by rw [hWc]; exact hN _ (by omega)) (fun j hj => by rw [hWf]; exact hNf _) h1v
  have hGn : n + 1 ≤ G := by rw [hG]; exact grownCap_ge w _ _ _
  have hG63 : G ≤ 9223372036854775807 := by
    have := grownCap_le_maxLen w (n + 1) c 31 (by unfold maxLen; omega)
    rw [← hG] at this
    unfold maxLen at this
    omega
  have hGi : ¬ (G = i) := by omega
  have hGim : ¬ (G = i + 1) := by omega
  have hci : ¬ (c = i) := by omega
  have hbN : b ≠ w.heap.size := by omega
  have hdl : (cs.drop (i * 3)).length = (n - i) * 3 := by rw [List.length_drop, hcl]; omega
  have hcpB : ∀ o1 o2 l1 l2, o1 = (i + 1) * 3 → o2 = i * 3 → l1 = n - i → l2 = n - i → ∀ (W : World), (∀ x, W.cell? x = (W1.setCells w.heap.size (i * 3) vs).cell? x) → (∀ x, W.frozen? x = (W1.setCells w.heap.size (i * 3) vs).frozen? x) → ∀ ty dc sc, (Builtin.copy_ #[24, 24] ty #[.slice (some ⟨w.heap.size, o1, none⟩) l1 dc, .slice (some ⟨b, o2, none⟩) l2 sc]).run Go.Proofs.Tryd.prog W = .ok (goInt ((n - i : Nat) : Int)) (W.setCells w.heap.size ((i + 1) * 3) (cs.drop (i * 3))) := by
    rintro _ _ _ _ rfl rfl rfl rfl W hWc hWf ty dc sc
    exact run_copy_n W _ _ ty 31 3 w.heap.size ((i + 1) * 3) (n - i) dc ⟨b, i * 3, none⟩ (n - i) sc (cs.drop (i * 3)) Go.Proofs.Tryd.underlying24 hsz (n - i) (Nat.min_self _).symm hdl
      (fun j v hj => by
        rw [Addr.add_lit, hWc, World.cell?_setCells_out _ _ _ _ _ (fun h _ => absurd h hbN)]
        exact hOb _ v (hcs (i * 3 + j) v (by rwa [List.getElem?_drop] at hj)))
      (fun j hj => by rw [hWc]; exact isSome_setCells _ _ _ _ (fun t ht => hN (i * 3 + t) (by omega)) _ (hN _ (by omega)))
      (fun j hj => by rw [hWf, World.frozen?_setCells]; exact hNf _) (fun v hv => h1c v (List.mem_of_mem_drop hv))
  subst hW1
  have hE1 : ∀ x, ((w.alloc (.cells ROW 31)).drew).cell? x = (w.drew.alloc (.cells ROW 31)).cell? x := fun x => rfl
  have hE2 : ∀ x, ((w.alloc (.cells ROW 31)).drew).frozen? x = (w.drew.alloc (.cells ROW 31)).frozen? x := fun x => rfl
  have hF1 : ∀ x, (((w.alloc (.cells ROW 31)).drew.setCells w.heap.size (i * 3) vs).drew).cell? x = ((w.drew.alloc (.cells ROW 31)).setCells w.heap.size (i * 3) vs).cell? x := fun x => rfl
  have hF2 : ∀ x, (((w.alloc (.cells ROW 31)).drew.setCells w.heap.size (i * 3) vs).drew).frozen? x = ((w.drew.alloc (.cells ROW 31)).setCells w.heap.size (i * 3) vs).frozen? x := fun x => rfl
  have hw1 : IntKind.i64.wrap ((i : Int) + 1) = (i : Int) + 1 := by rw [IntKind.wrap_i64]; omega
  have hb1 : (0 : Int) ≤ (i : Int) + 1 := by omega
  have hin : i ≤ n := by omega
  have htn : ((i : Int) + 1).toNat = i + 1 := by omega
  have hb3 : (i : Int) ≤ (n : Int) := by omega
  have mixed : Go.Proofs.Tryd.prog.follows Departure.mixedOrders = true := by kernel_rfl
  clear hkk hik hold hROW hG hRl
  go_enter Go.Proofs.Tryd.func31, Go.Proofs.Tryd.ntmps31
  go_wp2_with (first
    | (at_builtin; refine Lib.wpList_append_run _ rfl _ _ _ _ rfl _ _ rfl rfl _ _ (hrz _) ?_)
    | (at_builtin; refine wpList_copy_runI _ rfl _ _ 24 24 rfl _ _ rfl rfl (hcpA _ _ (by omega) (by omega) _ hE1 hE2 _ _) ?_)
    | (at_builtin; refine wpList_copy_runI _ rfl _ _ 24 24 rfl _ _ rfl rfl (hcpB _ _ _ _ (by omega) (by omega) (by omega) (by omega) _ (fun _ => rfl) (fun _ => rfl) _ _ _) ?_))
  have e1 : n + 1 - (i + 1) = n - i := by omega
  go_region_law_o (refine step_copy_runI rfl _ _ 24 24 rfl (.slice (some ⟨w.heap.size, (i + 1) * 3, none⟩) (n - i) (G - (i + 1))) (.slice (some ⟨b, i * 3, none⟩) (n - i) (c - i)) (by simp [Act.eval, Act.put]) (by simp [Act.eval, Act.put]) (hcpB _ _ _ _ rfl rfl rfl rfl _ hF1 hF2 3 (G - (i + 1)) (c - i)) ?_)
  go_wp2
  go_ret
  exact ⟨rfl, rfl⟩
theorem setCells_row (w : World) (b o : Nat) (t : TypeId) (fr : Nat × Nat) (vs ws : List Value) (hb : w.heap[b]? = some (.cells ws.toArray t fr)) (hf : free fr ws.length) (hl : o + vs.length ≤ ws.length) (h1 : ∀ v ∈ vs, v.oneCell' = true) :
    w.setCells b o vs = w.setRow b (ws.take o ++ vs ++ ws.drop (o + vs.length)).toArray := by
  have r1 := run_storeCells_free (P := Go.Proofs.Tryd.prog) b o t fr vs 0 ws.toArray w hb (by simpa using hf) (by simpa using hl) h1
  have hi : ∀ j, j < vs.length → (w.cell? ⟨b, o + 0 + j, none⟩).isSome = true := fun j hj => by
    have : o + j < ws.length := by omega
    simp [World.cell?, hb, this]
  have hz : ∀ j, j < vs.length → w.frozen? ⟨b, o + 0 + j, none⟩ = false := fun j hj => by
    have := hf.2 (o + 0 + j) (by omega)
    simp only [World.frozen?, hb, Bool.and_eq_false_iff, decide_eq_false_iff_not]
    omega
  have r2 := run_storeCells_cells (P := Go.Proofs.Tryd.prog) b o vs 0 w hi hz h1
  rw [r1] at r2
  injection r2 with _ e
  simpa using e.symm
end Go.Am
