/-
  derive's deriver: ways, from its beginning; all of them.
-/
import Derived.Test.YtpidbhbmamjbpaaDoorSV5
namespace Go.Am
open Go
theorem iD_eql {cl : Call} {env : Env} {hp : Hp} {x y : Opd} {done : Bool} (hx : ev env x = .c (.d (.int .i64 (iD done)))) (hy : ev env y = .c (.d (.int .i64 1))) : eval cl env hp (.bin .eql x y) = some (.c (.d (.bool done)), hp) := by
  simp only [eval, hx, hy]
  cases done <;> rfl
set_option maxRecDepth 8000 in
set_option maxHeartbeats 8000000 in
theorem w334 {n : Nat} (h336 : Q336 n) (h334 : Q334 n) : Q334 (n + 1) := by
  intro X es nx ob ok Dh a b k p i done hab hb hk hp hai hib hm
  obtain ⟨sz, hsd, _⟩ := shD_eq X.c.part (X.c.op k)
  obtain ⟨hsc, hrow⟩ := Dh.hs (by omega)
  have hsh := sh_at hk
  rw [hsd] at hsh
  have h344 := T344_eq (X.c.sh k) sz p done
  have hkl : k < (X.c.ops.map (shD X.c.part)).length := by rw [List.length_map]; exact hk
  unfold wpOf c334
  repeat' first | refine GoH ?_ | (refine step_boxA rfl ?_; intro ob0 hb0 hk0) | refine ZB rfl ?_|refine ZC rfl ?_
  have D0 := Dh.keep (Nat.le_succ nx) hk0
  have hx := D0.hx
  have hrow0 := (D0.hs (by omega)).2
  have hcx : X.cells = .d (.list X.esz (X.c.ops.map opD)) :: (rowsC X.f ++ [.d (.list X.tsz (X.c.toks.map tkD)), .own X.sx (X.c.ops.map (shD X.c.part)).length, .map X.my]) := by unfold DX.cells; rw [hsc]
  rw [hcx] at hx
  have hlx := D0.lx
  have hls := D0.ls
  have hlm := Dh.lm
  have hlm0 := D0.lm
  have nx1 : ∀ {o : Ob}, look ((nx + 1, o) :: ob0) X.x = look ob0 X.x := look_tl (by omega) rfl
  have nx2 : ∀ {o : Ob}, look ((nx + 1, o) :: ob0) X.sx = look ob0 X.sx := look_tl (by omega) rfl
  have nx3 : ∀ {o : Ob}, look ((nx + 1, o) :: ob0) nx = look ob0 nx := look_tl (by omega) rfl
  have hrest : ∀ (q : Bool) (oo rr : Bool) (es1 : List (D × C)) (ob1 : List (Nat × Ob)), WS X a b k oo rr sz nx (nx + 1) (nx + 2) es1 (nx + 3) ob1 → (∀ y, y < nx → y ≠ X.my → look ob1 y = look ob y) →
      (opn (X.c.sh k) p done = some (oo, rr) ∧ q = true ∨ opn (X.c.sh k) p done = none ∧ q = false) → awp (clD (n + 1)) (c334.tail 3) (HeapQ [.t 10] (RD X nx ob (.c (.d (.int .i64 (X.c.W k a b p done i : Nat)))))) (stW X p i nx (nx + 1) (nx + 2) q (nx + 3) ob1) := by
    rintro q oo rr es1 ob1 W hf (⟨ho, rfl⟩ | ⟨ho, rfl⟩)
    · obtain rfl := opn_done ho
      exact w334o h336 h334 ok hab hb hk hp hai hib hm ho W (by omega) hf
    · exact w334s h334 ok hab hb hk hp hai hib hm ho W (by omega) hf
  have run : ∀ (q oo rr : Bool), stepDV (X.c.sh k) p done = .tup [.agg [.bool oo, .bool rr], .c (.bool q)] → (opn (X.c.sh k) p done = some (oo, rr) ∧ q = true ∨ opn (X.c.sh k) p done = none ∧ q = false) →
      awp (clD (n + 1)) (c334.tail 1) (HeapQ [.t 10] (RD X nx ob (.c (.d (.int .i64 (X.c.W k a b p done i : Nat)))))) ⟨[(10, .c (.d (.int .i64 0))), (6, .c (.ptr nx 0)), (0, .c (.ptr X.x 0)), (1, .agg (spanC a b (some k))), (2, .c (.d (.int .i64 (p : Nat)))), (3, .c (.d (.int .i64 (iD done)))), (4, .c (.d (.int .i64 (i : Nat))))], ⟨nx + 1, ob0⟩⟩ := by
    intro q oo rr hst hor
    rw [hst] at h344
    have hfin := hrest q oo rr
    unfold c334
    dsimp only [ACode.tail]
    repeat' first
      | ((with_reducible apply weak_keep [0, 2, 4, 6, 11, 12, 13]); rfl; refine hfin es ob3 ?_ ?_ hor)
      | refine GoH ?_
      | refine ZY (ev_load rfl hx rfl) (by (repeat' first|exact True.intro|refine ⟨?_, ?_⟩|exact .inl rfl|exact .inr (.inl rfl)|exact .inr (.inr rfl)|rfl)) ?_
      | refine ZY (ev_load rfl hb0 rfl) (by (repeat' first|exact True.intro|refine ⟨?_, ?_⟩|exact .inl rfl|exact .inr (.inl rfl)|exact .inr (.inr rfl)|rfl)) ?_
      | refine ZY (ev_idx_own k rfl rfl rfl hrow0 rfl hkl) (by (repeat' first|exact True.intro|refine ⟨?_, ?_⟩|exact .inl rfl|exact .inr (.inl rfl)|exact .inr (.inr rfl)|rfl)) ?_
      | refine ZY (ev_load_own rfl hrow0 rfl hsh rfl) (by (repeat' first|exact True.intro|refine ⟨?_, ?_⟩|exact .inl rfl|exact .inr (.inl rfl)|exact .inr (.inr rfl)|rfl)) ?_
      | (with_reducible first | apply ZS | apply ZT)
      | refine ZX rfl rfl ?_
      | refine ZZ (Z0 rfl ⟨rfl, rfl⟩) (by
          repeat' first
            | exact True.intro
            | refine ⟨?_, ?_⟩
            | exact .inl rfl
            | exact .inr (.inl rfl)
            | exact .inr (.inr (ev_load rfl (nx1.trans hx) rfl))
            | exact .inr (.inr (ev_load rfl (nx3.trans hb0) rfl))
            | exact .inr (.inr (ev_idx_own k rfl rfl rfl (nx2.trans hrow0) rfl hkl))
            | exact .inr (.inr (ev_load_own rfl (nx2.trans hrow0) rfl hsh rfl))) ?_
      | refine ZZ (Z0 (ev_store rfl rfl rfl look_hd rfl put_hd) ⟨rfl, rfl⟩) (by (repeat' first|exact True.intro|refine ⟨?_, ?_⟩|exact .inl rfl|exact .inr (.inl rfl)|exact .inr (.inr rfl)|rfl)) ?_
      | refine ZB (ev_load rfl look_hd rfl) ?_
      | refine ZB (iD_eql rfl rfl) ?_
      | refine ZB (ev_pcall (hcl344 _) rfl h344 rfl rfl) ?_
      | (refine step_allocA ?_; intro ob2 hb2 hk2)
      | (refine step_storeA rfl rfl rfl hb2 rfl ?_; intro ob3 hb3 hk3)
      | refine ZB rfl ?_|refine ZC rfl ?_
    · have hm3 : look ob3 (nx + 1) = some (.cells [.d (.list sz (ofStrs (X.c.sh k).parts)), .d (.bool (X.c.sh k).left), .d (.bool (X.c.sh k).right)]) := (hk3 _ (by omega)).trans ((hk2 _ (by omega)).trans look_hd)
      have hall : ∀ y, y < nx + 1 → look ob3 y = look ob0 y := fun y hy => (hk3 y (by omega)).trans ((hk2 y (by omega)).trans (look_tl (by omega) rfl))
      exact ⟨D0.keep (by omega) hall, (hall nx (by omega)).trans hb0, hm3, hb3, by omega, by omega, by omega, by omega, by omega, by omega⟩
    · intro y hy hm
      exact (hk3 y (by omega)).trans ((hk2 y (by omega)).trans ((look_tl (by omega) rfl).trans (hk0 y hy)))
  cases ho : opn (X.c.sh k) p done with
  | none =>
    have := run false (decide (p = 0 ∨ p = (X.c.sh k).parts.length)) (decide (p ≠ 0 ∧ p = (X.c.sh k).parts.length)) (by unfold stepDV; rw [ho]) (.inr ⟨ho, rfl⟩)
    exact this
  | some w =>
    obtain ⟨oo, rr⟩ := w
    have := run true oo rr (by unfold stepDV; rw [ho]) (.inl ⟨ho, rfl⟩)
    exact this
theorem wD : ∀ m, Q336 m ∧ Q320 m ∧ Q334 m
  | 0 => ⟨fun X es nx ob ok Dh a b o on outer right hb ho hm => by omega, fun X es nx ob ok Dh a b t hb ht hm => by omega, fun X es nx ob ok Dh a b k p i done hab hb hk hp hai hib hm => by omega⟩
  | m + 1 => by
    obtain ⟨h1, h2, h3⟩ := wD m
    exact ⟨w336 h2, w320 h1 h3, w334 h1 h3⟩
end Go.Am
