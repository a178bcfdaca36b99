/-
  Quoted atoms and the tokens' functions.
-/
import Derived.Test.YtgbefhljbdjncaaDoorME
namespace Go.Am
open Go
def R113 (s : List UInt8) (r : DV) : Prop := ∃ (t : List UInt8) (n e : Int), r = .tup [.c (.list 1 (encB t)), .c (.int .i64 n), .c (.int .i64 e)] ∧ 0 ≤ n ∧ n ≤ s.length ∧ ∀ c, s[0]? = some c → c.toNat = 39 → 1 ≤ n
theorem toDVt_own3 {h : Hp} {x : Nat} {t : List UInt8} {a b : D} (hl : look h.obs x = some (.row 1 (encB t))) : V.toDVt h (.tup [.c (.own x (encB t).length), .c (.d a), .c (.d b)]) = some (.tup [.c (.list 1 (encB t)), .c a, .c b]) := by
  simp [V.toDVt, toDVs, V.toDV, C.toD, hl]
set_option maxRecDepth 8000 in
set_option maxHeartbeats 8000000 in
theorem w113 {G : List DV → Option DV} (hG : K111 G) (sz : Nat) (s : List UInt8) (hz : sz = 1 ∨ s = []) (hroom : s.length ≤ room) : awp (tbl [(111, G)]) c113 (PostQ [.t 2, .t 3, .t 4] (R113 s)) ⟨argE 0 (dvArgs [.c (.list sz (encB s))]), ⟨0, []⟩⟩ := by
  have hl : (encB s).length = s.length := encB_length s
  unfold room at hroom
  unfold c113
  repeat' first | ((with_reducible first|apply ZD|apply ZE|apply ZF|apply ZG|apply ZH|apply ZI);rfl;rfl;all_goals (intro hc;first|(exfalso;omega)|skip))|((with_reducible first|apply ZJ|apply ZK);rfl;rfl;all_goals (intro hc;first|contradiction|skip))|((with_reducible first|apply ZL|apply ZM);rfl;rfl;omega;omega)|((with_reducible first|apply ZN|apply ZO);rfl;rfl;omega;omega;intro c hget hc)|((with_reducible apply ZP);rfl;(first|exact .inl rfl|assumption);rfl;rfl;omega;omega;omega;intro s' hs' hl')|((with_reducible apply ZQ);rfl;rfl;rfl;omega;omega;omega;intro s' hs' hl')|((with_reducible apply ZR);rfl) | (with_reducible first|refine Za ?_|refine Zb ?_|refine Zc ?_|refine Zd ?_|refine Ze ?_|refine Zf ?_|refine Zg ?_|refine Zh ?_|refine Zi ?_|refine Zj ?_|refine Zk ?_|refine Zl ?_|refine Zm ?_|refine Zn ?_|refine Zo ?_|refine Zp ?_|refine Zq ?_|refine Zr ?_|refine Zs ?_|refine Zt ?_|refine Zu ?_)|(with_reducible refine Zv (by decide) ?_)|((with_reducible apply Zw);rfl)|((with_reducible apply Zx);rfl;decide)|((with_reducible apply Zy);rfl)|((with_reducible apply Zz);rfl)|((with_reducible apply ZA);rfl)|refine ZB rfl ?_|refine ZC rfl ?_
  refine awp_jump (fun _ _ => False) (fun _ h => h) ?_ (fun _ _ _ _ h => h.elim)
  intro K hK
  repeat' first
    | ((with_reducible first|apply ZD|apply ZE|apply ZF|apply ZG|apply ZH|apply ZI);rfl;rfl;all_goals (intro hc;first|(exfalso;omega)|skip))|((with_reducible first|apply ZJ|apply ZK);rfl;rfl;all_goals (intro hc;first|contradiction|skip))|((with_reducible first|apply ZL|apply ZM);rfl;rfl;omega;omega)|((with_reducible first|apply ZN|apply ZO);rfl;rfl;omega;omega;intro c hget hc)|((with_reducible apply ZP);rfl;(first|exact .inl rfl|assumption);rfl;rfl;omega;omega;omega;intro s' hs' hl')|((with_reducible apply ZQ);rfl;rfl;rfl;omega;omega;omega;intro s' hs' hl')|((with_reducible apply ZR);rfl) | (with_reducible first|refine Za ?_|refine Zb ?_|refine Zc ?_|refine Zd ?_|refine Ze ?_|refine Zf ?_|refine Zg ?_|refine Zh ?_|refine Zi ?_|refine Zj ?_|refine Zk ?_|refine Zl ?_|refine Zm ?_|refine Zn ?_|refine Zo ?_|refine Zp ?_|refine Zq ?_|refine Zr ?_|refine Zs ?_|refine Zt ?_|refine Zu ?_)|(with_reducible refine Zv (by decide) ?_)|((with_reducible apply Zw);rfl)|((with_reducible apply Zx);rfl;decide)|((with_reducible apply Zy);rfl)|((with_reducible apply Zz);rfl)|((with_reducible apply ZA);rfl)|refine ZB rfl ?_|refine ZC rfl ?_
    | exact ⟨_, _, rfl, rfl, [], _, _, rfl, by omega, by omega, fun c' hc' h39 => absurd (List.getElem?_eq_some_iff.1 hc').1 (by omega)⟩
    | exact ⟨_, _, rfl, rfl, [], _, _, rfl, by omega, by omega, fun c' hc' h39 => by obtain rfl := Option.some.inj (hget.symm.trans hc'); omega⟩
  refine awp_loop (fun n st => ∃ (i : Int) (text : List UInt8), 1 ≤ i ∧ i ≤ s.length ∧ text.length ≤ i ∧ s.length - i < n ∧ st = ⟨[(0, .c (.d (.list sz (encB s)))), (2, .c (.own 0 (encB text).length)), (5, .c (.d (.int .i64 i)))], ⟨1, [(0, .row 1 (encB text))]⟩⟩)
    (s.length + 1) ?_ (by rintro st ⟨i, text, h1, h2, h3, h4, _⟩; omega) ?_
  · exact weak_keep [0, 2, 5] rfl ⟨1, [], by omega, by omega, by simp, by omega, rfl⟩
  · rintro n K' hK' st ⟨i, text, h1, h2, h3, h4, rfl⟩
    repeat' first
      | ((with_reducible first|apply ZD|apply ZE|apply ZF|apply ZG|apply ZH|apply ZI);rfl;rfl;all_goals (intro hc;first|(exfalso;omega)|skip))|((with_reducible first|apply ZJ|apply ZK);rfl;rfl;all_goals (intro hc;first|contradiction|skip))|((with_reducible first|apply ZL|apply ZM);rfl;rfl;omega;omega)|((with_reducible first|apply ZN|apply ZO);rfl;rfl;omega;omega;intro c hget hc)|((with_reducible apply ZP);rfl;(first|exact .inl rfl|assumption);rfl;rfl;omega;omega;omega;intro s' hs' hl')|((with_reducible apply ZQ);rfl;rfl;rfl;omega;omega;omega;intro s' hs' hl')|((with_reducible apply ZR);rfl)
      | ((with_reducible apply step_lit1); rfl; omega; omega; intro c2 hc2)
      | ((with_reducible apply step_app_b); rfl; rfl; rfl; rfl; exact .inl rfl; (first | omega | (simp only [List.length_cons, List.length_nil]; omega)); (intro l; rfl); (intro u hu hul; (try simp only [List.length_cons, List.length_nil] at hul)))
      | (((with_reducible apply Z2 (f := 111)); rfl; rfl; rfl; exact hG 1 _ (.inl rfl) (by unfold room; omega); rintro _ ⟨k, (_ | _), rfl, b1, b2, b3, b4⟩) <;> first | (have b3 := b3 rfl; refine Z0 rfl ?_) | refine Z0 rfl ?_)
      | (with_reducible first|refine Za ?_|refine Zb ?_|refine Zc ?_|refine Zd ?_|refine Ze ?_|refine Zf ?_|refine Zg ?_|refine Zh ?_|refine Zi ?_|refine Zj ?_|refine Zk ?_|refine Zl ?_|refine Zm ?_|refine Zn ?_|refine Zo ?_|refine Zp ?_|refine Zq ?_|refine Zr ?_|refine Zs ?_|refine Zt ?_|refine Zu ?_)|(with_reducible refine Zv (by decide) ?_)|((with_reducible apply Zw);rfl)|((with_reducible apply Zx);rfl;decide)|((with_reducible apply Zy);rfl)|((with_reducible apply Zz);rfl)|((with_reducible apply ZA);rfl)|refine ZB rfl ?_|refine ZC rfl ?_
      | exact ⟨_, _, rfl, rfl, [], _, _, rfl, by omega, by omega, fun c' hc' h39 => by omega⟩
      | exact ⟨_, _, rfl, toDVt_own3 rfl, text, _, _, rfl, by omega, by omega, fun c' hc' h39 => by omega⟩
      | exact hK' _ (weak_keep [0, 2, 5] rfl ⟨_, _, by omega, by omega, by omega, by omega, rfl⟩)
theorem pok113 {P : Program} {m : Int} {G : List DV → Option DV} (fk : FnOk P ⟨[], [2], [79, 94, 109], glb m⟩ 113 115 c113 [.t 2, .t 3, .t 4]) (h : PureOk P (glb m) 111 G) (hG : K111 G) : ∃ G', PureFn P (glb m) 113 G' ∧ KB R113 G' :=
  kb fk (callOk_cons h (callOk_nil _ _)) (fine_tbl _) (w113 hG)
end Go.Am
namespace Go.Am
open Go
def tblh (l : List (Nat × (List DV → Option DV))) (t : List (Nat × (List V → Hp → (V → Hp → Prop) → Prop))) : Call := ⟨look l, look t⟩
def FineT (T : List V → Hp → (V → Hp → Prop) → Prop) : Prop := ∀ args h K, T args h K → ∃ v h', K v h' ∧ ∀ K' : V → Hp → Prop, K' v h' → T args h K'
theorem fine_nil (l : List (Nat × (List DV → Option DV))) : Fine (tblh l []) := fun f T h => by cases h
theorem fine_cons {l : List (Nat × (List DV → Option DV))} {f : Nat} {T : List V → Hp → (V → Hp → Prop) → Prop} {t : List (Nat × (List V → Hp → (V → Hp → Prop) → Prop))} (h : FineT T) (ht : Fine (tblh l t)) : Fine (tblh l ((f, T) :: t)) := by
  intro g T' hg
  simp only [tblh, look] at hg
  split at hg
  · cases hg; exact h
  · exact ht g T' hg
theorem callh_nil {P : Program} {gl : Nat → Option (List D)} {l : List (Nat × (List DV → Option DV))} (h : CallOk P gl (tbl l)) : CallOk P gl (tblh l []) := ⟨h.pure, fun f T h => by cases h⟩
theorem callh_cons {P : Program} {gl : Nat → Option (List D)} {l : List (Nat × (List DV → Option DV))} {f : Nat} {T : List V → Hp → (V → Hp → Prop) → Prop} {t : List (Nat × (List V → Hp → (V → Hp → Prop) → Prop))} (h : HeapOk P gl f T) (ht : CallOk P gl (tblh l t)) : CallOk P gl (tblh l ((f, T) :: t)) := by
  refine ⟨ht.pure, fun g T' hg => ?_⟩
  simp only [tblh, look] at hg
  split at hg
  · rename_i e; cases hg; subst e; exact h
  · exact ht.heap g T' hg

def T94 (xs : List V) (h : Hp) (K : V → Hp → Prop) : Prop := ∃ k : Int, xs = [.c (.d (.int .i64 k))] ∧ K (.c (.clo 109 [.ptr h.next 0])) ⟨h.next + 1, (h.next, .cells [.d (.int .i64 k)]) :: h.obs⟩
theorem fineT94 : FineT T94 := fun _ _ _ ⟨k, e, hk⟩ => ⟨_, _, hk, fun _ h' => ⟨k, e, h'⟩⟩
theorem hok94 {P : Program} {m : Int} (fk : FnOk P ⟨[], [], [79, 94, 109], glb m⟩ 94 4 c94 [.t 2]) : HeapOk P (glb m) 94 T94 := by
  refine heap_ok fk (callOk_nil _ _) ?_
  rintro xs ⟨nx, ob⟩ K ⟨k, rfl, hk⟩
  unfold c94
  repeat' first | (with_reducible first|refine Za ?_|refine Zb ?_|refine Zc ?_|refine Zd ?_|refine Ze ?_|refine Zf ?_|refine Zg ?_|refine Zh ?_|refine Zi ?_|refine Zj ?_|refine Zk ?_|refine Zl ?_|refine Zm ?_|refine Zn ?_|refine Zo ?_|refine Zp ?_|refine Zq ?_|refine Zr ?_|refine Zs ?_|refine Zt ?_|refine Zu ?_)|(with_reducible refine Zv (by decide) ?_)|((with_reducible apply Zw);rfl)|((with_reducible apply Zx);rfl;decide)|((with_reducible apply Zy);rfl)|((with_reducible apply Zz);rfl)|((with_reducible apply ZA);rfl)|refine ZB rfl ?_|refine ZC rfl ?_
  exact ⟨_, rfl, hk⟩

def T109 (G : List DV → Option DV) (xs : List V) (h : Hp) (K : V → Hp → Prop) : Prop := ∃ (sz : Nat) (s : List UInt8) (x : Nat) (kind n : Int), xs = [.c (.d (.list sz (encB s))), .c (.ptr x 0)] ∧ (sz = 1 ∨ s = []) ∧ look h.obs x = some (.cells [.d (.int .i64 kind)]) ∧
  G [.c (.list sz (encB s))] = some (.c (.int .i64 n)) ∧ 0 ≤ n ∧ n ≤ s.length ∧ K (.tup [.c (.d (.int .i64 kind)), .c (.d (.int .i64 n)), .c (.d (.str ((s.take n.toNat).drop (0 : Int).toNat))), .c (.d (.int .i64 0))]) h
theorem fineT109 (G : List DV → Option DV) : FineT (T109 G) := fun _ _ _ ⟨sz, s, x, kind, n, a1, a2, a3, a4, a5, a6, hk⟩ => ⟨_, _, hk, fun _ h' => ⟨sz, s, x, kind, n, a1, a2, a3, a4, a5, a6, h'⟩⟩
theorem hok109 {P : Program} {m : Int} {G : List DV → Option DV} (fk : FnOk P ⟨[], [], [79, 94, 109], glb m⟩ 109 16 c109 [.t 3, .t 4, .t 5, .t 6]) (h : PureOk P (glb m) 110 G) : HeapOk P (glb m) 109 (T109 G) := by
  refine heap_ok fk (callOk_cons h (callOk_nil _ _)) ?_
  rintro xs ⟨nx, ob⟩ K ⟨sz, s, x, kind, n, rfl, hz, hlk, hG, h0, h1, hk⟩
  simp only at hlk
  unfold c109
  repeat' first
    | ((with_reducible apply Z1 (f := 110));rfl;rfl;rfl;exact hG;rfl)
    | (with_reducible first|refine Za ?_|refine Zb ?_|refine Zc ?_|refine Zd ?_|refine Ze ?_|refine Zf ?_|refine Zg ?_|refine Zh ?_|refine Zi ?_|refine Zj ?_|refine Zk ?_|refine Zl ?_|refine Zm ?_|refine Zn ?_|refine Zo ?_|refine Zp ?_|refine Zq ?_|refine Zr ?_|refine Zs ?_|refine Zt ?_|refine Zu ?_)|(with_reducible refine Zv (by decide) ?_)|((with_reducible apply Zw);rfl)|((with_reducible apply Zx);rfl;decide)|((with_reducible apply Zy);rfl)|((with_reducible apply Zz);rfl)|((with_reducible apply ZA);rfl)|refine ZB rfl ?_|refine ZC rfl ?_
    | with_reducible refine ZS ?_
    | refine ZY (ev_load rfl hlk rfl) (by (repeat' first|exact True.intro|refine ⟨?_, ?_⟩|exact .inl rfl|exact .inr (.inl rfl)|exact .inr (.inr rfl)|rfl)) ?_
    | refine ZY (ev_slb rfl hz rfl rfl (by omega) h0 h1) (by (repeat' first|exact True.intro|refine ⟨?_, ?_⟩|exact .inl rfl|exact .inr (.inl rfl)|exact .inr (.inr rfl)|rfl)) ?_
    | refine ZY (ev_b2s rfl) (by (repeat' first|exact True.intro|refine ⟨?_, ?_⟩|exact .inl rfl|exact .inr (.inl rfl)|exact .inr (.inr rfl)|rfl)) ?_
    | (with_reducible first|refine ZS ?_|refine ZT ?_)|((with_reducible apply ZU);rfl)|((with_reducible apply ZV);rfl;decide)|((with_reducible apply ZW);rfl)|refine ZX rfl rfl ?_|refine ZY rfl (by (repeat' first|exact True.intro|refine ⟨?_, ?_⟩|exact .inl rfl|exact .inr (.inl rfl)|exact .inr (.inr rfl)|rfl)) ?_|refine ZZ (Z0 rfl ⟨rfl, rfl⟩) (by (repeat' first|exact True.intro|refine ⟨?_, ?_⟩|exact .inl rfl|exact .inr (.inl rfl)|exact .inr (.inr rfl)|rfl)) ?_
  exact ⟨_, rfl, hk⟩

def G81 : List DV → Option DV
  | [.c (.list _ _)] => some (.tup [.c (.int .i64 0), .c (.int .i64 1), .c (.str []), .c (.int .i64 11)])
  | _ => none
theorem w81 (ds : List DV) (r : DV) (h : G81 ds = some r) : awp (tbl []) c81 (PureQ [.t 2, .t 3, .t 4, .t 5] r) ⟨argE 0 (dvArgs ds), ⟨0, []⟩⟩ := by
  unfold G81 at h
  split at h
  · cases h
    unfold c81
    repeat' first | (with_reducible first|refine Za ?_|refine Zb ?_|refine Zc ?_|refine Zd ?_|refine Ze ?_|refine Zf ?_|refine Zg ?_|refine Zh ?_|refine Zi ?_|refine Zj ?_|refine Zk ?_|refine Zl ?_|refine Zm ?_|refine Zn ?_|refine Zo ?_|refine Zp ?_|refine Zq ?_|refine Zr ?_|refine Zs ?_|refine Zt ?_|refine Zu ?_)|(with_reducible refine Zv (by decide) ?_)|((with_reducible apply Zw);rfl)|((with_reducible apply Zx);rfl;decide)|((with_reducible apply Zy);rfl)|((with_reducible apply Zz);rfl)|((with_reducible apply ZA);rfl)|refine ZB rfl ?_|refine ZC rfl ?_
    exact ⟨_, rfl, rfl⟩
  · cases h

/-- A token: its kind, its size, its text, what is wrong. -/
def RT (s : List UInt8) (r : DV) : Prop := ∃ (kind size e : Int) (text : List UInt8), r = .tup [.c (.int .i64 kind), .c (.int .i64 size), .c (.str text), .c (.int .i64 e)] ∧ 1 ≤ size ∧ size ≤ s.length
def KP (p : UInt8 → Prop) (R : List UInt8 → DV → Prop) (G : List DV → Option DV) : Prop := ∀ (sz : Nat) (s : List UInt8) (c : UInt8), sz = 1 → s.length ≤ room → s[0]? = some c → p c → ∃ r, G [.c (.list sz (encB s))] = some r ∧ R s r
theorem kp {P : Program} {H : Hint} {cl : Call} {f : FuncId} {n : Nat} {ac : ACode} {rs : List ARes} {p : UInt8 → Prop} {R : List UInt8 → DV → Prop} (fok : FnOk P H f n ac rs) (ok : CallOk P H.glob cl) (fine : Fine cl)
    (hw : ∀ (sz : Nat) (s : List UInt8) (c : UInt8), sz = 1 → s.length ≤ room → s[0]? = some c → p c → awp cl ac (PostQ rs (R s)) ⟨argE 0 (dvArgs [.c (.list sz (encB s))]), ⟨0, []⟩⟩) : ∃ G, PureFn P H.glob f G ∧ KP p R G := by
  obtain ⟨G, h1, h2⟩ := loose_by fok ok fine (arg := fun x : BS => [x.v]) (Pre := fun x => x.sz = 1 ∧ x.s.length ≤ room ∧ ∃ c, x.s[0]? = some c ∧ p c) (R := fun x r => R x.s r) (fun i j _ _ h r hr => by rw [← BS.inj1 h]; exact hr)
    (fun x ⟨a1, a2, c, a3, a4⟩ => hw x.sz x.s c a1 a2 a3 a4)
  exact ⟨G, h1, fun sz s c a1 a2 a3 a4 => h2 ⟨sz, s⟩ ⟨a1, a2, c, a3, a4⟩⟩

def R99 (s : List UInt8) (r : DV) : Prop := r = .tup [.c (.int .i64 6), .c (.int .i64 1), .c (.str (s.take 1)), .c (.int .i64 0)]
theorem R99.rt {s : List UInt8} {r : DV} {c : UInt8} (hc : s[0]? = some c) (h : R99 s r) : RT s r := by
  have h0 : 0 < s.length := (List.getElem?_eq_some_iff.1 hc).1
  exact ⟨_, _, _, _, h, by omega, by omega⟩
theorem runOf_all {k : Int} : ∀ {s : List UInt8}, (∀ b ∈ s, (classOf b : Int) = k) → runOf k s = s.length
  | [], _ => rfl
  | b :: r, h => by
    simp only [runOf]
    rw [if_pos (h b (by simp)), runOf_all (fun b hb => h b (by simp [hb]))]
    rfl
def R96 (s : List UInt8) (r : DV) : Prop := ∃ (kind size e : Int) (text : List UInt8), r = .tup [.c (.int .i64 kind), .c (.int .i64 size), .c (.str text), .c (.int .i64 e)] ∧ 1 ≤ size ∧ size ≤ s.length ∧
  ((∀ b ∈ s, (classOf b : Int) = 5) → s ≠ [46] → kind = 2 ∧ size = s.length ∧ text = s ∧ e = 0)
set_option maxRecDepth 8000 in
set_option maxHeartbeats 4000000 in
theorem w99 (sz : Nat) (s : List UInt8) (c : UInt8) (hz : sz = 1) (_ : s.length ≤ room) (hc : s[0]? = some c) : awp (tbl []) c99 (PostQ [.t 2, .t 3, .t 4, .t 5] (R99 s)) ⟨argE 0 (dvArgs [.c (.list sz (encB s))]), ⟨0, []⟩⟩ := by
  have h0 : 0 < s.length := (List.getElem?_eq_some_iff.1 hc).1
  unfold c99
  repeat' first
    | (with_reducible first|refine Za ?_|refine Zb ?_|refine Zc ?_|refine Zd ?_|refine Ze ?_|refine Zf ?_|refine Zg ?_|refine Zh ?_|refine Zi ?_|refine Zj ?_|refine Zk ?_|refine Zl ?_|refine Zm ?_|refine Zn ?_|refine Zo ?_|refine Zp ?_|refine Zq ?_|refine Zr ?_|refine Zs ?_|refine Zt ?_|refine Zu ?_)|(with_reducible refine Zv (by decide) ?_)|((with_reducible apply Zw);rfl)|((with_reducible apply Zx);rfl;decide)|((with_reducible apply Zy);rfl)|((with_reducible apply Zz);rfl)|((with_reducible apply ZA);rfl)|refine ZB rfl ?_|refine ZC rfl ?_
    | with_reducible refine ZS ?_
    | refine ZY (ev_slb rfl (.inl hz) rfl rfl (by omega) (by omega) (by omega)) (by (repeat' first|exact True.intro|refine ⟨?_, ?_⟩|exact .inl rfl|exact .inr (.inl rfl)|exact .inr (.inr rfl)|rfl)) ?_
    | refine ZY (ev_b2s rfl) (by (repeat' first|exact True.intro|refine ⟨?_, ?_⟩|exact .inl rfl|exact .inr (.inl rfl)|exact .inr (.inr rfl)|rfl)) ?_
    | (with_reducible first|refine ZS ?_|refine ZT ?_)|((with_reducible apply ZU);rfl)|((with_reducible apply ZV);rfl;decide)|((with_reducible apply ZW);rfl)|refine ZX rfl rfl ?_|refine ZY rfl (by (repeat' first|exact True.intro|refine ⟨?_, ?_⟩|exact .inl rfl|exact .inr (.inl rfl)|exact .inr (.inr rfl)|rfl)) ?_|refine ZZ (Z0 rfl ⟨rfl, rfl⟩) (by (repeat' first|exact True.intro|refine ⟨?_, ?_⟩|exact .inl rfl|exact .inr (.inl rfl)|exact .inr (.inr rfl)|rfl)) ?_
  exact ⟨_, _, rfl, rfl, rfl⟩

set_option maxRecDepth 8000 in
set_option maxHeartbeats 4000000 in
theorem w98 {G : List DV → Option DV} (hG : KB R113 G) (sz : Nat) (s : List UInt8) (c : UInt8) (hz : sz = 1) (hroom : s.length ≤ room) (hc : s[0]? = some c) (hp : c.toNat = 39) : awp (tbl [(113, G)]) c98 (PostQ [.t 2, .t 3, .t 4, .t 5] (RT s)) ⟨argE 0 (dvArgs [.c (.list sz (encB s))]), ⟨0, []⟩⟩ := by
  unfold c98
  repeat' first
    | ((with_reducible apply Z2 (f := 113));rfl;rfl;rfl;exact (hG sz s (.inl hz) hroom);rintro _ ⟨t, k, e, rfl, b1, b2, b3⟩;refine Z0 rfl ?_)
    | (with_reducible first|refine Za ?_|refine Zb ?_|refine Zc ?_|refine Zd ?_|refine Ze ?_|refine Zf ?_|refine Zg ?_|refine Zh ?_|refine Zi ?_|refine Zj ?_|refine Zk ?_|refine Zl ?_|refine Zm ?_|refine Zn ?_|refine Zo ?_|refine Zp ?_|refine Zq ?_|refine Zr ?_|refine Zs ?_|refine Zt ?_|refine Zu ?_)|(with_reducible refine Zv (by decide) ?_)|((with_reducible apply Zw);rfl)|((with_reducible apply Zx);rfl;decide)|((with_reducible apply Zy);rfl)|((with_reducible apply Zz);rfl)|((with_reducible apply ZA);rfl)|refine ZB rfl ?_|refine ZC rfl ?_
    | with_reducible refine ZS ?_
    | refine ZY (ev_b2s rfl) (by (repeat' first|exact True.intro|refine ⟨?_, ?_⟩|exact .inl rfl|exact .inr (.inl rfl)|exact .inr (.inr rfl)|rfl)) ?_
    | (with_reducible first|refine ZS ?_|refine ZT ?_)|((with_reducible apply ZU);rfl)|((with_reducible apply ZV);rfl;decide)|((with_reducible apply ZW);rfl)|refine ZX rfl rfl ?_|refine ZY rfl (by (repeat' first|exact True.intro|refine ⟨?_, ?_⟩|exact .inl rfl|exact .inr (.inl rfl)|exact .inr (.inr rfl)|rfl)) ?_|refine ZZ (Z0 rfl ⟨rfl, rfl⟩) (by (repeat' first|exact True.intro|refine ⟨?_, ?_⟩|exact .inl rfl|exact .inr (.inl rfl)|exact .inr (.inr rfl)|rfl)) ?_
  have b3 := b3 c hc hp
  exact ⟨_, _, rfl, rfl, _, _, _, _, rfl, by omega, by omega⟩

set_option maxRecDepth 8000 in
set_option maxHeartbeats 4000000 in
theorem w97 {G : List DV → Option DV} (hG : ∀ x : BS, x.ok → ∃ r, G [x.v] = some r ∧ R112 x.s r) (sz : Nat) (s : List UInt8) (c : UInt8) (hz : sz = 1) (hroom : s.length ≤ room) (hc : s[0]? = some c) (hp : (classOf c : Int) = 4) : awp (tbl [(112, G)]) c97 (PostQ [.t 2, .t 3, .t 4, .t 5] (RT s)) ⟨argE 0 (dvArgs [.c (.list sz (encB s))]), ⟨0, []⟩⟩ := by
  have hrun := runOf_le 4 s
  have hr1 : 1 ≤ runOf 4 s := by
    cases s with
    | nil => simp at hc
    | cons b r => simp at hc; subst hc; simp [runOf, hp]
  unfold c97
  repeat' first
    | ((with_reducible apply Z2 (f := 112));rfl;rfl;rfl;exact (hG ⟨sz, s⟩ ⟨.inl hz, hroom⟩);rintro _ ⟨v, e, rfl⟩;refine Z0 rfl ?_)
    | (with_reducible first|refine Za ?_|refine Zb ?_|refine Zc ?_|refine Zd ?_|refine Ze ?_|refine Zf ?_|refine Zg ?_|refine Zh ?_|refine Zi ?_|refine Zj ?_|refine Zk ?_|refine Zl ?_|refine Zm ?_|refine Zn ?_|refine Zo ?_|refine Zp ?_|refine Zq ?_|refine Zr ?_|refine Zs ?_|refine Zt ?_|refine Zu ?_)|(with_reducible refine Zv (by decide) ?_)|((with_reducible apply Zw);rfl)|((with_reducible apply Zx);rfl;decide)|((with_reducible apply Zy);rfl)|((with_reducible apply Zz);rfl)|((with_reducible apply ZA);rfl)|refine ZB rfl ?_|refine ZC rfl ?_
    | with_reducible refine ZS ?_
    | refine ZY (ev_slb rfl (.inl hz) rfl rfl (by omega) (by omega) (by simp only []; omega)) (by (repeat' first|exact True.intro|refine ⟨?_, ?_⟩|exact .inl rfl|exact .inr (.inl rfl)|exact .inr (.inr rfl)|rfl)) ?_
    | refine ZY (ev_b2s rfl) (by (repeat' first|exact True.intro|refine ⟨?_, ?_⟩|exact .inl rfl|exact .inr (.inl rfl)|exact .inr (.inr rfl)|rfl)) ?_
    | (with_reducible first|refine ZS ?_|refine ZT ?_)|((with_reducible apply ZU);rfl)|((with_reducible apply ZV);rfl;decide)|((with_reducible apply ZW);rfl)|refine ZX rfl rfl ?_|refine ZY rfl (by (repeat' first|exact True.intro|refine ⟨?_, ?_⟩|exact .inl rfl|exact .inr (.inl rfl)|exact .inr (.inr rfl)|rfl)) ?_|refine ZZ (Z0 rfl ⟨rfl, rfl⟩) (by (repeat' first|exact True.intro|refine ⟨?_, ?_⟩|exact .inl rfl|exact .inr (.inl rfl)|exact .inr (.inr rfl)|rfl)) ?_
  exact ⟨_, _, rfl, rfl, _, _, _, _, rfl, by simp only []; omega, by simp only []; omega⟩

set_option maxRecDepth 8000 in
set_option maxHeartbeats 4000000 in
theorem w96 (sz : Nat) (s : List UInt8) (c : UInt8) (hz : sz = 1) (hroom : s.length ≤ room) (hc : s[0]? = some c) (hp : (classOf c : Int) = 5) : awp (tbl [(80, G80), (90, G90)]) c96 (PostQ [.t 2, .t 3, .t 4, .t 5] (R96 s)) ⟨argE 0 (dvArgs [.c (.list sz (encB s))]), ⟨0, []⟩⟩ := by
  have hl : (encB s).length = s.length := encB_length s
  have hz' : sz = 1 ∨ s = [] := .inl hz
  have hrun := runOf_le 5 s
  have hr1 : 1 ≤ runOf 5 s := by
    cases s with
    | nil => simp at hc
    | cons b r => simp at hc; subst hc; simp [runOf, hp]
  unfold c96
  repeat' first
    | ((with_reducible first|apply ZD|apply ZE|apply ZF|apply ZG|apply ZH|apply ZI);rfl;rfl;all_goals (intro hc;first|(exfalso;omega)|skip))|((with_reducible first|apply ZJ|apply ZK);rfl;rfl;all_goals (intro hc;first|contradiction|skip))|((with_reducible first|apply ZL|apply ZM);rfl;rfl;omega;omega)|((with_reducible first|apply ZN|apply ZO);rfl;rfl;omega;omega;intro c hget hc)|((with_reducible apply ZP);rfl;(first|exact .inl rfl|assumption);rfl;rfl;omega;omega;omega;intro s' hs' hl')|((with_reducible apply ZQ);rfl;rfl;rfl;omega;omega;omega;intro s' hs' hl')|((with_reducible apply ZR);rfl)
    | ((with_reducible apply Z1 (f := 90));rfl;rfl;rfl;exact (k90 _ _ _ hz' hroom);rfl)
    | ((with_reducible apply Z1 (f := 80));rfl;rfl;rfl;exact (G80_eq _);rfl)
    | (with_reducible first|refine Za ?_|refine Zb ?_|refine Zc ?_|refine Zd ?_|refine Ze ?_|refine Zf ?_|refine Zg ?_|refine Zh ?_|refine Zi ?_|refine Zj ?_|refine Zk ?_|refine Zl ?_|refine Zm ?_|refine Zn ?_|refine Zo ?_|refine Zp ?_|refine Zq ?_|refine Zr ?_|refine Zs ?_|refine Zt ?_|refine Zu ?_)|(with_reducible refine Zv (by decide) ?_)|((with_reducible apply Zw);rfl)|((with_reducible apply Zx);rfl;decide)|((with_reducible apply Zy);rfl)|((with_reducible apply Zz);rfl)|((with_reducible apply ZA);rfl)|refine ZB rfl ?_|refine ZC rfl ?_
    | exact ⟨_, _, rfl, rfl, _, _, _, _, rfl, by omega, by omega, fun hall hd => by
        have hr := runOf_all hall
        rw [hr] at hs'
        have e : s' = s := by simpa using hs'
        first
        | exact ⟨rfl, by rw [hr], e, rfl⟩
        | (exfalso; exact hd (e.symm.trans (by assumption)))⟩

set_option maxRecDepth 8000 in
set_option maxHeartbeats 4000000 in
theorem w95 {G G' : List DV → Option DV} (hG : K111 G) (hG' : ∀ x : BS, x.ok → ∃ r, G' [x.v] = some r ∧ R110 G x r) (sz : Nat) (s : List UInt8) (c : UInt8) (hz : sz = 1) (hroom : s.length ≤ room) (hc : s[0]? = some c) (hp : (classOf c : Int) = 9) :
    awp (tblh [(111, G)] [(94, T94), (109, T109 G')]) c95 (PostQ [.t 2, .t 3, .t 4, .t 5] (RT s)) ⟨argE 0 (dvArgs [.c (.list sz (encB s))]), ⟨0, []⟩⟩ := by
  have h0 : 0 < s.length := (List.getElem?_eq_some_iff.1 hc).1
  have hbig : 128 ≤ c.toNat := by
    refine Decidable.byContradiction fun hlt => ?_
    have h1 : c.toNat < 128 := by omega
    have h2 : classOf c = classIn memberT c := by unfold classOf; rw [if_neg (by omega)]
    rw [h2] at hp
    revert hp
    unfold memberT
    simp only [classIn]
    repeat' split
    all_goals simp
  obtain ⟨r0, e0, k0, rfl, c1, c2, c3, c4, _⟩ := hG' ⟨sz, s⟩ ⟨.inl hz, hroom⟩
  unfold c95
  repeat' first
    | (((with_reducible apply Z2 (f := 111)); rfl; rfl; rfl; exact keepG (hG sz s (.inl hz) hroom); rintro _ ⟨hGe, k, (_ | _), rfl, b1, b2, b3, b4⟩) <;> refine Z0 rfl ?_)
    | (with_reducible first|refine Za ?_|refine Zb ?_|refine Zc ?_|refine Zd ?_|refine Ze ?_|refine Zf ?_|refine Zg ?_|refine Zh ?_|refine Zi ?_|refine Zj ?_|refine Zk ?_|refine Zl ?_|refine Zm ?_|refine Zn ?_|refine Zo ?_|refine Zp ?_|refine Zq ?_|refine Zr ?_|refine Zs ?_|refine Zt ?_|refine Zu ?_)|(with_reducible refine Zv (by decide) ?_)|((with_reducible apply Zw);rfl)|((with_reducible apply Zx);rfl;decide)|((with_reducible apply Zy);rfl)|((with_reducible apply Zz);rfl)|((with_reducible apply ZA);rfl)|refine ZB rfl ?_|refine ZC rfl ?_
    | exact ⟨_, _, rfl, rfl, _, _, _, _, rfl, by omega, by omega⟩
    | (refine step_hcall rfl ⟨_, rfl, ?_⟩)
    | (refine step_vcall ⟨sz, s, _, _, _, rfl, .inl hz, look_hd, e0, c1, c2, ?_⟩)
  have hk2 := ((b4 c hc).2 hbig rfl)
  have := c4 k hGe hk2
  exact ⟨_, _, rfl, rfl, _, _, _, _, rfl, by omega, by omega⟩
end Go.Am
