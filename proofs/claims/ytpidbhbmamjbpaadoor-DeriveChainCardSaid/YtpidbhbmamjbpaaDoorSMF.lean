/-
  Quoted atoms and the tokens' functions.
-/
import Derived.Test.YtpidbhbmamjbpaaDoorSME
namespace Go.Am
open Go
theorem toDVt_own3 {h : Hp} {x : Nat} {t : List UInt8} {a b : D} (hl : look h.obs x = some (.row 1 (encB t))) : V.toDVt h (.tup [.c (.own x (encB t).length), .c (.d a), .c (.d b)]) = some (.tup [.c (.list 1 (encB t)), .c a, .c b]) := by
  simp [V.toDVt, toDVs, V.toDV, C.toD, hl]
def tblh (l : List (Nat × (List DV → Option DV))) (t : List (Nat × (List V → Hp → (V → Hp → Prop) → Prop))) : Call := ⟨look l, look t⟩
def FineT (T : List V → Hp → (V → Hp → Prop) → Prop) : Prop := ∀ args h K, T args h K → ∃ v h', K v h' ∧ ∀ K' : V → Hp → Prop, K' v h' → T args h K'
theorem fine_nil (l : List (Nat × (List DV → Option DV))) : Fine (tblh l []) := fun f T h => by cases h
theorem fine_cons {l : List (Nat × (List DV → Option DV))} {f : Nat} {T : List V → Hp → (V → Hp → Prop) → Prop} {t : List (Nat × (List V → Hp → (V → Hp → Prop) → Prop))} (h : FineT T) (ht : Fine (tblh l t)) : Fine (tblh l ((f, T) :: t)) := by
  intro g T' hg
  simp only [tblh, look] at hg
  split at hg
  · cases hg; exact h
  · exact ht g T' hg
theorem callh_nil {P : Program} {gl : Nat → Option (List D)} {l : List (Nat × (List DV → Option DV))} (h : CallOk P gl (tbl l)) : CallOk P gl (tblh l []) := ⟨h.pure, fun f T h => by cases h⟩
theorem callh_cons {P : Program} {gl : Nat → Option (List D)} {l : List (Nat × (List DV → Option DV))} {f : Nat} {T : List V → Hp → (V → Hp → Prop) → Prop} {t : List (Nat × (List V → Hp → (V → Hp → Prop) → Prop))} (h : HeapOk P gl f T) (ht : CallOk P gl (tblh l t)) : CallOk P gl (tblh l ((f, T) :: t)) := by
  refine ⟨ht.pure, fun g T' hg => ?_⟩
  simp only [tblh, look] at hg
  split at hg
  · rename_i e; cases hg; subst e; exact h
  · exact ht.heap g T' hg
def T94 (xs : List V) (h : Hp) (K : V → Hp → Prop) : Prop := ∃ k : Int, xs = [.c (.d (.int .i64 k))] ∧ K (.c (.clo 80 [.ptr h.next 0])) ⟨h.next + 1, (h.next, .cells [.d (.int .i64 k)]) :: h.obs⟩
theorem hok94 {P : Program} {m : Int} (fk : FnOk P ⟨[], [], HP, glb m⟩ 63 4 c94 [.t 2]) : HeapOk P (glb m) 63 T94 := by
  refine heap_ok fk (callOk_nil _ _) ?_
  rintro xs ⟨nx, ob⟩ K ⟨k, rfl, hk⟩
  unfold c94
  repeat' first | refine GoH ?_|refine ZB rfl ?_|refine ZC rfl ?_
  exact ⟨_, rfl, hk⟩
def T109 (G : List DV → Option DV) (xs : List V) (h : Hp) (K : V → Hp → Prop) : Prop := ∃ (sz : Nat) (s : List UInt8) (x : Nat) (kind n : Int), xs = [.c (.d (.list sz (encB s))), .c (.ptr x 0)] ∧ (sz = 1 ∨ s = []) ∧ look h.obs x = some (.cells [.d (.int .i64 kind)]) ∧
  G [.c (.list sz (encB s))] = some (.c (.int .i64 n)) ∧ 0 ≤ n ∧ n ≤ s.length ∧ K (.tup [.c (.d (.int .i64 kind)), .c (.d (.int .i64 n)), .c (.d (.str ((s.take n.toNat).drop (0 : Int).toNat))), .c (.d (.int .i64 0))]) h
theorem hok109 {P : Program} {m : Int} {G : List DV → Option DV} (fk : FnOk P ⟨[], [], HP, glb m⟩ 80 16 c109 [.t 3, .t 4, .t 5, .t 6]) (h : PureOk P (glb m) 81 G) : HeapOk P (glb m) 80 (T109 G) := by
  refine heap_ok fk (callOk_cons h (callOk_nil _ _)) ?_
  rintro xs ⟨nx, ob⟩ K ⟨sz, s, x, kind, n, rfl, hz, hlk, hG, h0, h1, hk⟩
  simp only at hlk
  unfold c109
  repeat' first
    | ((with_reducible apply Z1 (f := 81));rfl;rfl;rfl;exact hG;rfl)
    | refine GoH ?_|refine ZB rfl ?_|refine ZC rfl ?_
    | with_reducible apply ZS
    | refine ZY (ev_load rfl hlk rfl) (by (repeat' first|exact True.intro|refine ⟨?_, ?_⟩|exact .inl rfl|exact .inr (.inl rfl)|exact .inr (.inr rfl)|rfl)) ?_
    | refine ZY (ev_slb rfl hz rfl rfl (by omega) h0 h1) (by (repeat' first|exact True.intro|refine ⟨?_, ?_⟩|exact .inl rfl|exact .inr (.inl rfl)|exact .inr (.inr rfl)|rfl)) ?_
    | refine ZY (ev_b2s rfl) (by (repeat' first|exact True.intro|refine ⟨?_, ?_⟩|exact .inl rfl|exact .inr (.inl rfl)|exact .inr (.inr rfl)|rfl)) ?_
    | (with_reducible first|apply ZS|apply ZT)|((with_reducible apply ZU);rfl)|((with_reducible apply ZV);rfl;decide)|((with_reducible apply ZW);rfl)|refine ZX rfl rfl ?_|refine ZY rfl (by (repeat' first|exact True.intro|refine ⟨?_, ?_⟩|exact .inl rfl|exact .inr (.inl rfl)|exact .inr (.inr rfl)|rfl)) ?_|refine ZZ (Z0 rfl ⟨rfl, rfl⟩) (by (repeat' first|exact True.intro|refine ⟨?_, ?_⟩|exact .inl rfl|exact .inr (.inl rfl)|exact .inr (.inr rfl)|rfl)) ?_
  exact ⟨_, rfl, hk⟩
def G81 : List DV → Option DV
  | [.c (.list _ _)] => some (.tup [.c (.int .i64 0), .c (.int .i64 1), .c (.str []), .c (.int .i64 11)])
  | _ => none
theorem w81 (ds : List DV) (r : DV) (h : G81 ds = some r) : awp (tbl []) c81 (PureQ [.t 2, .t 3, .t 4, .t 5] r) ⟨argE 0 (dvArgs ds), ⟨0, []⟩⟩ := by
  unfold G81 at h
  split at h
  · cases h
    unfold c81
    repeat' first | refine GoH ?_|refine ZB rfl ?_|refine ZC rfl ?_
    exact ⟨_, rfl, rfl⟩
  · cases h
theorem runOf_all {k : Int} : ∀ {s : List UInt8}, (∀ b ∈ s, (classOf b : Int) = k) → runOf k s = s.length
  | [], _ => rfl
  | b :: r, h => by
    simp only [runOf]
    rw [if_pos (h b (by simp)), runOf_all (fun b hb => h b (by simp [hb]))]
    rfl
end Go.Am
