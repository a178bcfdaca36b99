/-
  derive.Count, over the deriver's methods.
-/
import Derived.Test.YtpidbhbmamjbpaaDoorSV8
namespace Go.Am
open Go
def drvOf (ops : List Op3) (f : Nat → Int) (toks : List Tk5) : Drv := ⟨partE, fitsOf partE f, fun t => leafB t.k (entsOf partE f t.s ops).isEmpty, ops, toks⟩
theorem drvOf_eq {ops : List Op3} {f f' : Nat → Int} {toks : List Tk5} (h : ∀ x, x < 10 → f' x = f x) : drvOf ops f' toks = drvOf ops f toks := by
  have h1 : fitsOf partE f' = fitsOf partE f := by
    funext o k b
    simp only [fitsOf, fitsV, tightI_eq h]
  have h2 : ∀ t, entsOf partE f' t ops = entsOf partE f t ops := fun t => by
    simp only [entsOf]
    rw [List.map_congr_left (fun o _ => entD_eq h o)]
  simp only [drvOf, h1, h2]
def cntDV (c : Drv) : DV := if c.A 0 false false 0 c.toks.length = 1 then .tup [.c (.int .i64 1), .c (.list 5 ((c.Tr 0 c.toks.length 0 false false).map ndD))] else .tup [.c (.int .i64 (c.A 0 false false 0 c.toks.length : Nat)), .c (.list 0 [])]
noncomputable def clC (M : Nat) : Call := tblh [(14, G19 partE)] [(15, wpOf (clD M) c320 [.t 4]), (16, wpOf (clD M) c321 [.t 10])]
theorem fineC (M : Nat) : Fine (clC M) := by
  have h : ∀ c rs args h K, wpOf (clD M) c rs args h K → ∃ v h', K v h' ∧ ∀ K' : V → Hp → Prop, K' v h' → wpOf (clD M) c rs args h K' := fun c rs args h K hk => wpOf_one (fineD M) hk
  exact fine_cons (h _ _) (fine_cons (h _ _) (fine_nil _))
def dcells (esz : Nat) (ops : List Op3) (f : Nat → Int) (tsz : Nat) (toks : List Tk5) (sc : C) : List C := .d (.list esz (ops.map opD)) :: (rowsC f ++ [.d (.list tsz (toks.map tkD)), sc, .map 1])
def DXof (esz : Nat) (ops : List Op3) (f : Nat → Int) (tsz : Nat) (toks : List Tk5) (sx : Nat) (sc : C) : DX := ⟨drvOf ops f toks, f, esz, tsz, 2, sx, 1, sc⟩
def L1 (esz : Nat) (ops : List Op3) (f : Nat → Int) (tsz : Nat) (toks : List Tk5) (i nx : Nat) (ob : List (Nat × Ob)) : Prop :=
  3 ≤ nx ∧ look ob 0 = some (.cells (.d (.list esz (ops.map opD)) :: rowsC f)) ∧ look ob 1 = some (.map []) ∧ ∃ sc, look ob 2 = some (.cells (dcells esz ops f tsz toks sc)) ∧
    ((i = 0 ∧ sc = .nil) ∨ (0 < i ∧ ∃ sx, 3 ≤ sx ∧ sx < nx ∧ sc = .own sx ((ops.take i).map (shD partE)).length ∧ look ob sx = some (.row 3 ((ops.take i).map (shD partE)))))
theorem ev_lenT {cl : Call} {e : Env} {x : Opd} {hp : Hp} {sz n : Nat} {l : List (List D)} (hn : l.length = n) (hx : ev e x = .c (.d (.list sz l))) : eval cl e hp (.len x) = some (.c (.d (.int .i64 (n : Nat))), hp) := by
  subst hn
  simp only [eval, hx, C.lst, C.toD]
theorem h19_sh (o : Op3) : ∃ e, G19 partE [.c (.str o.pat)] = some (.tup [.agg (shD partE o), .c (.int .i64 e)]) := by
  simp only [G19, shD]
  cases shapeOf partE o.pat with
  | none => exact ⟨23, rfl⟩
  | some v => exact ⟨0, rfl⟩
set_option maxRecDepth 8000 in
set_option maxHeartbeats 8000000 in
theorem w312 {M : Nat} (hM : 70000 ≤ M) (hT : Q321 M) (x : (Nat × List Op3 × (Nat → Int)) × (Nat × List Tk5)) (hp : x.1.2.1.length ≤ 1000 ∧ x.2.2.length ≤ 1000) :
    awp (clC M) c312 (PureQ [.t 4, .t 5] (cntDV (drvOf x.1.2.1 x.1.2.2 x.2.2))) ⟨argE 0 (dvArgs [.agg (envD x.1.1 x.1.2.1 x.1.2.2), .c (.list x.2.1 (x.2.2.map tkD))]), ⟨0, []⟩⟩ := by
  obtain ⟨⟨esz, ops, f⟩, tsz, toks⟩ := x
  obtain ⟨hops, htoks⟩ := hp
  simp only at hops htoks ⊢
  have hlen : (ops.map opD).length = ops.length := List.length_map ..
  have hlt : (toks.map tkD).length = toks.length := List.length_map ..
  unfold c312
  repeat' first
    | refine GoH ?_
    | (refine step_boxA rfl ?_; first | (intro ob2 hb2 hk2; have := hb0) | intro ob0 hb0 hk0)
    | refine ZB (ev_load rfl hb2 rfl) ?_
    | refine ZB (ev_load rfl ((hk2 0 (by omega)).trans (look_tl (by omega) hb0)) rfl) ?_
    | refine ZB (ev_load rfl hb0 rfl) ?_
    | refine ZB rfl ?_|refine ZC rfl ?_
  refine awp_loop (fun q st => ∃ (i nx : Nat) (ob : List (Nat × Ob)), i ≤ ops.length ∧ ops.length - i < q ∧ L1 esz ops f tsz toks i nx ob ∧
    st = ⟨[(1, .c (.d (.list tsz (toks.map tkD)))), (2, .c (.ptr 0 0)), (6, .c (.ptr 2 0)), (19, .c (.d (.list esz (ops.map opD)))), (20, .c (.d (.int .i64 ((ops.map opD).length : Nat)))), (21, .c (.d (.int .i64 (i : Nat))))], ⟨nx, ob⟩⟩) (ops.length + 1) ?_ (by rintro st ⟨i, _, _, _, h, _⟩; omega) ?_
  · exact weak_keep [1, 2, 6, 19, 20, 21] rfl ⟨0, 3, ob2, by omega, by omega, ⟨by omega, (hk2 0 (by omega)).trans (look_tl (by omega) hb0), (hk2 1 (by omega)).trans look_hd, .nil, hb2, .inl ⟨rfl, rfl⟩⟩, rfl⟩
  · rintro q K hK st ⟨i, nx, ob, hi, hq, ⟨hn, h0, h1, sc, h2, hcase⟩, rfl⟩
    by_cases hgo : i < ops.length
    · have hop : (ops.map opD)[((i : Nat) : Int).toNat]? = some (opD ops[i]) := ops_at ops (List.getElem?_eq_getElem hgo)
      obtain ⟨sz, hsd, _⟩ := shD_eq partE ops[i]
      obtain ⟨er, h19⟩ := h19_sh ops[i]
      have htake : (ops.take (i + 1)).map (shD partE) = (ops.take i).map (shD partE) ++ [shD partE ops[i]] := by
        rw [List.take_add_one, List.getElem?_eq_getElem hgo, List.map_append]
        rfl
      have hl0 : i = 0 → (ops.take i).map (shD partE) = [] := by rintro rfl; rfl
      have hl : ((ops.take i).map (shD partE)).length ≤ 1000 := by rw [List.length_map, List.length_take]; omega
      rw [hsd] at h19 htake
      clear hsd
      generalize ofStrs (shOf partE ops[i]).parts = ps at h19 htake
      generalize (shOf partE ops[i]).left = sl at h19 htake
      generalize (shOf partE ops[i]).right = sr at h19 htake
      generalize ops[i] = o at hop h19
      obtain ⟨pat, og, oa⟩ := o
      generalize (ops.take i).map (shD partE) = l at hcase htake hl hl0
      repeat' first
        | refine GoH ?_
        | refine ZB (ev_lss_t rfl rfl (by omega)) ?_
        | refine ZB (ev_idx rfl rfl (by omega) hop rfl) ?_
        | (refine step_allocA ?_; first | (intro ob5 hb5 hk5; have := hb4) | intro ob3 hb3 hk3)
        | (refine step_storeA rfl rfl rfl hb5 rfl ?_; intro ob6 hb6 hk6)
        | (refine step_storeA rfl rfl rfl hb3 rfl ?_; intro ob4 hb4 hk4)
        | refine ZB (ev_load rfl hb4 rfl) ?_
        | refine ZB (ev_pcall rfl rfl h19 rfl rfl) ?_
        | refine ZB rfl ?_|refine ZC rfl ?_
      have hkeep : ∀ y, y < nx → look ob6 y = look ob y := fun y hy => (hk6 y (by omega)).trans ((hk5 y (by omega)).trans ((hk4 y (by omega)).trans (hk3 y hy)))
      have h0' := (hkeep 0 (by omega)).trans h0
      have h1' := (hkeep 1 (by omega)).trans h1
      have h2' := (hkeep 2 (by omega)).trans h2
      rcases hcase with ⟨hi0, rfl⟩ | ⟨hi0, sx, hs1, hs2, rfl, hs3⟩
      · have hl2 : look ((nx + 1 + 1, Ob.row 3 [([.list sz ps, .bool sl, .bool sr] : List Am.D)]) :: ob6) 2 = some (.cells (dcells esz ops f tsz toks .nil)) := look_tl (by omega) h2'
        obtain ⟨ob7, hp7⟩ := put_of_look (.cells (dcells esz ops f tsz toks (.own (nx + 1 + 1) 1))) hl2
        repeat' first
          | refine GoH ?_
          | (with_reducible first | apply ZS | apply ZT)
          | refine ZY (ev_load rfl h2' rfl) (by (repeat' first|exact True.intro|refine ⟨?_, ?_⟩|exact .inl rfl|exact .inr (.inl rfl)|exact .inr (.inr rfl)|rfl)) ?_
          | refine ZY (ev_load rfl hb6 rfl) (by (repeat' first|exact True.intro|refine ⟨?_, ?_⟩|exact .inl rfl|exact .inr (.inl rfl)|exact .inr (.inr rfl)|rfl)) ?_
          | refine ZZ (Z0 (ev_store rfl rfl rfl hl2 rfl hp7) ⟨rfl, rfl⟩) (by (repeat' first|exact True.intro|refine ⟨?_, ?_⟩|exact .inl rfl|exact .inr (.inl rfl)|exact .inr (.inr rfl)|rfl)) ?_
          | refine ZB (ev_add1N rfl rfl (by omega)) ?_
          | (with_reducible first|apply ZS|apply ZT)|((with_reducible apply ZU);rfl)|((with_reducible apply ZV);rfl;decide)|((with_reducible apply ZW);rfl)|refine ZX rfl rfl ?_|refine ZY rfl (by (repeat' first|exact True.intro|refine ⟨?_, ?_⟩|exact .inl rfl|exact .inr (.inl rfl)|exact .inr (.inr rfl)|rfl)) ?_
          | refine ZZ (Z0 rfl ⟨rfl, rfl⟩) (by (repeat' first|exact True.intro|refine ⟨?_, ?_⟩|exact .inl rfl|exact .inr (.inl rfl)|exact .inr (.inr rfl)|rfl)) ?_
          | refine ZB rfl ?_|refine ZC rfl ?_
        have := hl0 hi0
        subst this
        exact hK _ (weak_keep [1, 2, 6, 19, 20, 21] rfl ⟨i + 1, nx + 1 + 1 + 1, ob7, by omega, by omega, ⟨by omega, (look_put_other hp7 (by omega)).trans (look_tl (by omega) h0'), (look_put_other hp7 (by omega)).trans (look_tl (by omega) h1'), _, look_put_same hp7, .inr ⟨by omega, nx + 1 + 1, by omega, by omega, by rw [htake]; rfl, by rw [htake]; exact (look_put_other hp7 (by omega)).trans look_hd⟩⟩, rfl⟩)
      · have hs3' := (hkeep sx hs2).trans hs3
        obtain ⟨ob7, hp7⟩ := put_of_look (.row 3 (l ++ [([.list sz ps, .bool sl, .bool sr] : List Am.D)])) hs3'
        have h2p : look ob7 2 = some (.cells (dcells esz ops f tsz toks (.own sx l.length))) := (look_put_other hp7 (by omega)).trans h2'
        obtain ⟨ob8, hp8⟩ := put_of_look (.cells (dcells esz ops f tsz toks (.own sx (l ++ [([.list sz ps, .bool sl, .bool sr] : List Am.D)]).length))) h2p
        repeat' first
          | refine GoH ?_
          | (with_reducible first | apply ZS | apply ZT)
          | refine ZY (ev_load rfl h2' rfl) (by (repeat' first|exact True.intro|refine ⟨?_, ?_⟩|exact .inl rfl|exact .inr (.inl rfl)|exact .inr (.inr rfl)|rfl)) ?_
          | refine ZY (ev_load rfl hb6 rfl) (by (repeat' first|exact True.intro|refine ⟨?_, ?_⟩|exact .inl rfl|exact .inr (.inl rfl)|exact .inr (.inr rfl)|rfl)) ?_
          | refine ZZ (Z0 (ev_app_own rfl rfl hs3' rfl (by show l.length + 1 ≤ room; unfold room; omega) hp7) ⟨rfl, rfl⟩) (by (repeat' first|exact True.intro|refine ⟨?_, ?_⟩|exact .inl rfl|exact .inr (.inl rfl)|exact .inr (.inr rfl)|rfl)) ?_
          | refine ZZ (Z0 (ev_store rfl rfl rfl h2p rfl hp8) ⟨rfl, rfl⟩) (by (repeat' first|exact True.intro|refine ⟨?_, ?_⟩|exact .inl rfl|exact .inr (.inl rfl)|exact .inr (.inr rfl)|rfl)) ?_
          | refine ZB (ev_add1N rfl rfl (by omega)) ?_
          | (with_reducible first|apply ZS|apply ZT)|((with_reducible apply ZU);rfl)|((with_reducible apply ZV);rfl;decide)|((with_reducible apply ZW);rfl)|refine ZX rfl rfl ?_|refine ZY rfl (by (repeat' first|exact True.intro|refine ⟨?_, ?_⟩|exact .inl rfl|exact .inr (.inl rfl)|exact .inr (.inr rfl)|rfl)) ?_
          | refine ZB rfl ?_|refine ZC rfl ?_
        exact hK _ (weak_keep [1, 2, 6, 19, 20, 21] rfl ⟨i + 1, nx + 1 + 1, ob8, by omega, by omega, ⟨by omega, (look_put_other hp8 (by omega)).trans ((look_put_other hp7 (by omega)).trans h0'), (look_put_other hp8 (by omega)).trans ((look_put_other hp7 (by omega)).trans h1'), _, look_put_same hp8, .inr ⟨by omega, sx, hs1, by omega, by rw [htake], by rw [htake]; exact (look_put_other hp8 (by omega)).trans (look_put_same hp7)⟩⟩, rfl⟩)
    · have hend : i = ops.length := by omega
      subst hend
      rw [List.take_length] at hcase
      obtain ⟨sx, sc, Dh⟩ : ∃ sx sc, DH (DXof esz ops f tsz toks sx sc) [] nx ob := by
        rcases hcase with ⟨hz, rfl⟩ | ⟨hz, sx, hs1, hs2, rfl, hs3⟩
        · exact ⟨0, .nil, h2, fun h0 => by have : 0 < ops.length := h0; omega, h1, fun p hp => (List.not_mem_nil hp).elim, by show 2 < nx; omega, by show 0 < nx; omega, by show 1 < nx; omega, by show 2 ≠ 1; omega, by show 0 ≠ 1; omega⟩
        · exact ⟨sx, _, h2, fun _ => ⟨rfl, hs3⟩, h1, fun p hp => (List.not_mem_nil hp).elim, by show 2 < nx; omega, hs2, by show 1 < nx; omega, by show 2 ≠ 1; omega, by show sx ≠ 1; omega⟩
      have ok : DXok (DXof esz ops f tsz toks sx sc) := ⟨rfl, rfl, rfl, hops, htoks⟩
      clear hK hcase
      repeat' first | refine GoH ?_ | refine ZB (ev_lss_f rfl rfl (by omega)) ?_ | refine ZB rfl ?_|refine ZC rfl ?_
      refine awp_loop (fun q st => ∃ (j nx1 : Nat) (ob1 : List (Nat × Ob)) (es1 : List (Am.D × C)), j ≤ ops.length + 1 ∧ ops.length + 1 - j < q ∧ 3 ≤ nx1 ∧ DH (DXof esz ops f tsz toks sx sc) es1 nx1 ob1 ∧ look ob1 0 = some (.cells (.d (.list esz (ops.map opD)) :: rowsC f)) ∧
        st = ⟨[(1, .c (.d (.list tsz (toks.map tkD)))), (2, .c (.ptr 0 0)), (6, .c (.ptr 2 0)), (11, .c (.d (.int .i64 (anyS (drvOf ops f toks) 0 false false 0 toks.length j : Nat)))), (12, .c (.d (.int .i64 ((j : Int) - 1))))], ⟨nx1, ob1⟩⟩) (ops.length + 2) ?_ (by rintro st ⟨j, _, _, _, _, h, _⟩; omega) ?_
      · exact weak_keep [1, 2, 6, 11, 12] rfl ⟨0, nx, ob, [], by omega, by omega, hn, Dh, h0, rfl⟩
      · rintro q2 K2 hK2 st ⟨j, nx1, ob1, es1, g1, g2, g3, D1, g0, rfl⟩
        have hS := anyS_le (drvOf ops f toks) 0 false false 0 toks.length j
        by_cases hend : j = ops.length + 1
        · have hA : (drvOf ops f toks).A 0 false false 0 toks.length = min 2 (anyS (drvOf ops f toks) 0 false false 0 toks.length j) := by rw [hend]; rfl
          by_cases hone : anyS (drvOf ops f toks) 0 false false 0 toks.length j = 1
          · have hA1 : (drvOf ops f toks).A 0 false false 0 toks.length = 1 := by rw [hA, hone]; rfl
            have hres : cntDV (drvOf ops f toks) = .tup [.c (.int .i64 1), .c (.list 5 (((drvOf ops f toks).Tr 0 toks.length 0 false false).map ndD))] := if_pos hA1
            have hpos : 0 < toks.length := by
              rcases Nat.eq_zero_or_pos toks.length with h | h
              · have hz : ∀ n, sumTo (fun _ => 0) n = 0 := fun n => by induction n with | zero => rfl | succ n ih => unfold sumTo; rw [ih]
                have : (drvOf ops f toks).A 0 false false 0 toks.length = 0 := by
                  show min 2 _ = 0
                  simp only [h, C_zero (c := drvOf ops f toks) (Nat.le_refl 0), ite_self, hz]
                  rfl
                omega
              · exact h
            rw [hres]
            rw [hone]
            repeat' first
              | refine ZB (ev_lenT hlt rfl) ?_
              | refine GoH ?_
              | refine ZB (ev_load rfl g0 rfl) ?_
              | refine ZB (ev_lss_f rfl rfl (by omega)) ?_
              | refine ZB (ev_neq_f rfl rfl (by omega)) ?_
              | (refine step_hR rfl (fineC M) (hT (DXof esz ops f tsz toks sx sc) es1 nx1 ob1 ok D1 0 toks.length (-1) 0 false false hpos (Nat.le_refl _) (by intro h; cases h) (by show 0 < (drvOf ops f toks).A 0 false false 0 toks.length; omega) (by omega)) ?_; rintro v nx2 ob2 ⟨e1, ⟨es2, D2⟩, e3, z, e4, e5, rfl, e6⟩; simp only at e1 D2 e3 e4 e5 e6)
              | refine ZB rfl ?_|refine ZC rfl ?_
            have e7 : look ob2 z = some (.row 5 (((drvOf ops f toks).Tr 0 toks.length 0 false false).map ndD)) := e6
            refine ⟨_, rfl, ?_⟩
            show V.toDVt ⟨nx2, ob2⟩ (.tup [.c (.d (.int .i64 1)), .c (.own z (((drvOf ops f toks).Tr 0 toks.length 0 false false).map ndD).length)]) = _
            simp [V.toDVt, toDVs, V.toDV, C.toD, e7]
          · have hres : cntDV (drvOf ops f toks) = .tup [.c (.int .i64 (min 2 (anyS (drvOf ops f toks) 0 false false 0 toks.length j) : Nat)), .c (.list 0 [])] := by
              rw [← hA]
              exact if_neg (by show ¬ (drvOf ops f toks).A 0 false false 0 toks.length = 1; rw [hA]; omega)
            rw [hres]
            repeat' first
              | refine ZB (ev_lenT hlt rfl) ?_
              | refine GoH ?_
              | refine ZB (ev_load rfl g0 rfl) ?_
              | refine ZB (ev_lss_f rfl rfl (by omega)) ?_
              | refine ZB (ev_neq_t rfl rfl (by omega)) ?_
              | refine ZB (ev_min2 rfl rfl) ?_
              | refine ZB rfl ?_|refine ZC rfl ?_
            exact ⟨_, rfl, rfl⟩
        · obtain ⟨t, ht1, ht2, ht3⟩ := top_of (c := drvOf ops f toks) j (by show j < ops.length + 1; omega)
          have hC := C_le (c := (DXof esz ops f tsz toks sx sc).c) 0 toks.length t
          have hnext := ht3 0 false false 0 toks.length
          rw [if_pos (by cases t <;> rfl)] at hnext
          rw [← ht1]
          repeat' first
            | refine ZB (ev_lenT hlt rfl) ?_
            | refine GoH ?_
            | refine ZB (ev_load rfl g0 rfl) ?_
            | refine ZB (ev_lss_t rfl rfl (by omega)) ?_
            | (refine step_hR rfl (fineC M) ((wD M).2.1 (DXof esz ops f tsz toks sx sc) es1 nx1 ob1 ok D1 0 toks.length t (Nat.le_refl _) ht2 (by omega)) ?_; rintro v nx2 ob2 ⟨rfl, e1, ⟨es2, D2⟩, e3⟩; simp only at e1 D2 e3)
            | refine ZB (ev_addN rfl rfl (by omega)) ?_
            | refine ZB (ev_add rfl rfl (by omega) (by omega)) ?_
            | refine ZB rfl ?_|refine ZC rfl ?_
          exact hK2 _ (weak_keep [1, 2, 6, 11, 12] rfl ⟨j + 1, nx2, ob2, es2, by omega, by omega, by omega, D2, (e3 0 (by omega) (by show 0 ≠ 1; omega)).trans g0, by rw [hnext, show ((j + 1 : Nat) : Int) - 1 = topI t + 1 by omega]; rfl⟩)
end Go.Am
