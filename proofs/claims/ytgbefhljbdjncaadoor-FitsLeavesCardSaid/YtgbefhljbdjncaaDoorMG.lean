/-
  Splitting; token.Next; lex.All.
-/
import Derived.Test.YtgbefhljbdjncaaDoorProg
import Derived.Shelf.Strings.Split
import Derived.Test.YtgbefhljbdjncaaDoorMF
namespace Go.Proofs
open Go.Shelf
def Tryd.lays146_ren : Go.Shelf.Ren := ⟨fun | 146 => 44 | 221 => 62 | 268 => 83 | 138 => 84 | 143 => 82 | 195 => 101 | 197 => 102 | 218 => 103 | 219 => 100 | 260 => 118 | 217 => 114 | 225 => 115 | 224 => 116 | 267 => 117 | 266 => 124 | 314 => 125 | n => n, fun | 9 => 9 | 31 => 24 | 3 => 3 | 4 => 4 | 0 => 0 | 105 => 142 | 21 => 21 | 5 => 5 | 46 => 73 | 119 => 164 | 139 => 167 | 138 => 166 | 146 => 162 | 51 => 161 | n => n, fun | 1 => 2 | 3 => 3 | 4 => 4 | n => n⟩
theorem Tryd.lays146 : Go.Proofs.Lays.n146 Tryd.prog Tryd.lays146_ren := {
  mixed := by kernel_rfl
  f138 := Tryd.func84.trans (congrArg some (by kernel_rfl))
  f143 := Tryd.func82.trans (congrArg some (by kernel_rfl))
  f146 := Tryd.func44.trans (congrArg some (by kernel_rfl))
  f195 := Tryd.func101.trans (congrArg some (by kernel_rfl))
  f197 := Tryd.func102.trans (congrArg some (by kernel_rfl))
  f217 := Tryd.func114.trans (congrArg some (by kernel_rfl))
  f218 := Tryd.func103.trans (congrArg some (by kernel_rfl))
  f219 := Tryd.func100.trans (congrArg some (by kernel_rfl))
  f221 := Tryd.func62.trans (congrArg some (by kernel_rfl))
  f224 := Tryd.func116.trans (congrArg some (by kernel_rfl))
  f225 := Tryd.func115.trans (congrArg some (by kernel_rfl))
  f260 := Tryd.func118.trans (congrArg some (by kernel_rfl))
  f266 := Tryd.func124.trans (congrArg some (by kernel_rfl))
  f267 := Tryd.func117.trans (congrArg some (by kernel_rfl))
  f268 := Tryd.func83.trans (congrArg some (by kernel_rfl))
  f314 := Tryd.func125.trans (congrArg some (by kernel_rfl))
  t0 := Tryd.underlying0
  a0 := Tryd.isAgg0
  z0 := Tryd.sizeOf0
  v0 := Tryd.zeroValue0
  t3 := Tryd.underlying3
  a3 := Tryd.isAgg3
  z3 := Tryd.sizeOf3
  v3 := Tryd.zeroValue3
  t4 := Tryd.underlying4
  a4 := Tryd.isAgg4
  z4 := Tryd.sizeOf4
  v4 := Tryd.zeroValue4
  t5 := Tryd.underlying5
  a5 := Tryd.isAgg5
  z5 := Tryd.sizeOf5
  v5 := Tryd.zeroValue5
  t9 := Tryd.underlying9
  a9 := Tryd.isAgg9
  z9 := Tryd.sizeOf9
  v9 := Tryd.zeroValue9
  t21 := Tryd.underlying21
  a21 := Tryd.isAgg21
  z21 := Tryd.sizeOf21
  v21 := Tryd.zeroValue21
  t31 := Tryd.underlying24
  a31 := Tryd.isAgg24
  z31 := Tryd.sizeOf24
  v31 := Tryd.zeroValue24
  t46 := Tryd.underlying73
  a46 := Tryd.isAgg73
  z46 := Tryd.sizeOf73
  v46 := Tryd.zeroValue73
  t51 := Tryd.underlying161
  a51 := Tryd.isAgg161
  z51 := Tryd.sizeOf161
  v51 := Tryd.zeroValue161
  t105 := Tryd.underlying142
  a105 := Tryd.isAgg142
  z105 := Tryd.sizeOf142
  v105 := Tryd.zeroValue142
  t119 := Tryd.underlying164
  a119 := Tryd.isAgg164
  z119 := Tryd.sizeOf164
  t138 := Tryd.underlying166
  a138 := Tryd.isAgg166
  z138 := Tryd.sizeOf166
  v138 := Tryd.zeroValue166
  t139 := Tryd.underlying167
  a139 := Tryd.isAgg167
  z139 := Tryd.sizeOf167
  v139 := Tryd.zeroValue167
  t146 := Tryd.underlying162
  a146 := Tryd.isAgg162
  z146 := Tryd.sizeOf162
  v146 := Tryd.zeroValue162
  g1 := by kernel_rfl
  g3 := by kernel_rfl
  g4 := by kernel_rfl }
def Tryd.lays144_ren : Go.Shelf.Ren := ⟨fun | 144 => 61 | 143 => 82 | 219 => 100 | 217 => 114 | 225 => 115 | 224 => 116 | 267 => 117 | 266 => 124 | 314 => 125 | n => n, fun | 9 => 9 | 4 => 4 | 3 => 3 | 5 => 5 | 46 => 73 | 146 => 162 | 51 => 161 | n => n, fun | 1 => 2 | n => n⟩
theorem Tryd.lays144 : Go.Proofs.Lays.n144 Tryd.prog Tryd.lays144_ren := {
  mixed := by kernel_rfl
  f143 := Tryd.func82.trans (congrArg some (by kernel_rfl))
  f144 := Tryd.func61.trans (congrArg some (by kernel_rfl))
  f217 := Tryd.func114.trans (congrArg some (by kernel_rfl))
  f219 := Tryd.func100.trans (congrArg some (by kernel_rfl))
  f224 := Tryd.func116.trans (congrArg some (by kernel_rfl))
  f225 := Tryd.func115.trans (congrArg some (by kernel_rfl))
  f266 := Tryd.func124.trans (congrArg some (by kernel_rfl))
  f267 := Tryd.func117.trans (congrArg some (by kernel_rfl))
  f314 := Tryd.func125.trans (congrArg some (by kernel_rfl))
  t3 := Tryd.underlying3
  a3 := Tryd.isAgg3
  z3 := Tryd.sizeOf3
  v3 := Tryd.zeroValue3
  t4 := Tryd.underlying4
  a4 := Tryd.isAgg4
  z4 := Tryd.sizeOf4
  v4 := Tryd.zeroValue4
  t5 := Tryd.underlying5
  a5 := Tryd.isAgg5
  z5 := Tryd.sizeOf5
  v5 := Tryd.zeroValue5
  t9 := Tryd.underlying9
  a9 := Tryd.isAgg9
  z9 := Tryd.sizeOf9
  v9 := Tryd.zeroValue9
  t46 := Tryd.underlying73
  a46 := Tryd.isAgg73
  z46 := Tryd.sizeOf73
  v46 := Tryd.zeroValue73
  t51 := Tryd.underlying161
  a51 := Tryd.isAgg161
  z51 := Tryd.sizeOf161
  v51 := Tryd.zeroValue161
  t146 := Tryd.underlying162
  a146 := Tryd.isAgg162
  z146 := Tryd.sizeOf162
  v146 := Tryd.zeroValue162
  g1 := by kernel_rfl }
end Go.Proofs
namespace Go.Am
open Go
/-- A text cut at a byte. -/
def cutU (c : UInt8) : List UInt8 → List (List UInt8)
  | [] => [[]]
  | b :: r => if b = c then [] :: cutU c r else match cutU c r with | h :: t => (b :: h) :: t | [] => [[b]]
theorem cutU_ne (c : UInt8) : ∀ s, cutU c s ≠ []
  | [] => by simp [cutU]
  | b :: r => by
    unfold cutU
    split
    · simp
    · split <;> simp
theorem cutU_split (c : UInt8) : ∀ s : List UInt8, Lib.splitK [c] 0 (s.count c) s = cutU c s
  | [] => by rfl
  | b :: r => by
    have ih := cutU_split c r
    by_cases hb : b = c
    · subst hb
      rw [List.count_cons_self]
      have hi : Lib.index (b :: r) [b] = 0 := by rw [Lib.index_one]; simp [Lib.indexByte]
      simp only [Lib.splitK, hi, cutU, if_true]
      simp [ih]
    · have hcount : (b :: r).count c = r.count c := by rw [List.count_cons]; simp [hb]
      rw [hcount]
      simp only [cutU, if_neg hb]
      have hi : Lib.index (b :: r) [c] = if Lib.index r [c] = -1 then -1 else Lib.index r [c] + 1 := by
        rw [Lib.index_one, Lib.index_one]
        simp [Lib.indexByte, hb]
      have hge := Lib.indexByte_ge r c
      rw [← Lib.index_one] at hge
      cases hk : r.count c with
      | zero =>
        rw [hk] at ih
        simp only [Lib.splitK] at ih ⊢
        rw [← ih]
      | succ k =>
        rw [hk] at ih
        simp only [Lib.splitK] at ih ⊢
        rw [hi]
        by_cases hm : Lib.index r [c] = -1
        · rw [if_pos hm]
          rw [hm] at ih
          simp only [beq_self_eq_true, if_true] at ih ⊢
          rw [← ih]
        · rw [if_neg hm]
          have e1 : (Lib.index r [c] == -1) = false := by simpa using hm
          have e2 : (Lib.index r [c] + 1 == -1) = false := by
            simp
            omega
          rw [e1] at ih
          rw [e2]
          simp only [Bool.false_eq_true, if_false] at ih ⊢
          rw [← ih]
          have e3 : (Lib.index r [c] + 1).toNat = (Lib.index r [c]).toNat + 1 := by omega
          simp [e3]

def G44 : List DV → Option DV
  | [.c (.str s), .c (.str [c])] => if s.length ≤ room then some (.c (.list 1 ((cutU c s).map fun p => [.str p]))) else none
  | _ => none
def G61 : List DV → Option DV
  | [.c (.str s), .c (.str [c])] => some (.c (.bool (decide (0 ≤ Lib.indexByte s c))))
  | _ => none

theorem ds_two {w : World} {A : Nat → Prop} {d e : DV} {vs : List Value} (h : DsRep w A [d, e] vs) : ∃ u v, vs = [u, v] ∧ RepDV w A d u ∧ RepDV w A e v := by
  obtain ⟨hl, hr⟩ := h
  match vs, hl with
  | [u, v], _ => exact ⟨u, v, rfl, hr 0 _ u rfl rfl, hr 1 _ v rfl rfl⟩
theorem repdv_str {w : World} {A : Nat → Prop} {s : List UInt8} {v : Value} (h : RepDV w A (.c (.str s)) v) : v = .string ⟨⟨s⟩⟩ := by
  cases h with
  | c _ _ h => cases h; rfl

theorem pok61 (m : Int) : PureOk Go.Proofs.Tryd.prog (glb m) 61 G61 := by
  refine .inl ⟨enters_of (fn := Go.Proofs.Tryd.f61) (c := (Go.Proofs.Tryd.f61.body).getD .skip) (by kernel_rfl) (by kernel_rfl) (by kernel_rfl), ?_⟩
  intro w A ds vs r hgl hA hds hG
  unfold G61 at hG
  split at hG
  · rename_i s c
    cases hG
    obtain ⟨u, v, rfl, h1, h2⟩ := ds_two hds
    obtain rfl := repdv_str h1
    obtain rfl := repdv_str h2
    refine Calls.mono (Go.Proofs.Any.strings_Contains_one Go.Proofs.Tryd.lays144 ⟨⟨s⟩⟩ c w) ?_
    rintro e w' ⟨rfl, rfl⟩
    exact ⟨Kept.refl _ _, .c _ _ (.bool _)⟩
  · cases hG
theorem pok44 (m : Int) : PureOk Go.Proofs.Tryd.prog (glb m) 44 G44 := by
  refine .inl ⟨enters_of (fn := Go.Proofs.Tryd.f44) (c := (Go.Proofs.Tryd.f44.body).getD .skip) (by kernel_rfl) (by kernel_rfl) (by kernel_rfl), ?_⟩
  intro w A ds vs r hgl hA hds hG
  unfold G44 at hG
  split at hG
  · rename_i s c
    split at hG
    · rename_i hroom
      cases hG
      obtain ⟨u, v, rfl, h1, h2⟩ := ds_two hds
      obtain rfl := repdv_str h1
      obtain rfl := repdv_str h2
      have hm : w.cell? ⟨2, 0, none⟩ = some (.int .i64 m) := by
        have := hgl 2 _ (show glb m 2 = some [.int .i64 m] by rfl)
        cases this with
        | lptr e off b o vs hnA hcell hrep =>
          have h3 := hcell 0 (by simp)
          have h4 := repd_int (hrep 0 _ rfl)
          rw [h4] at h3
          exact h3
      have hs : (⟨⟨s⟩⟩ : ByteArray).size < 4294967281 := by
        show s.length < _
        unfold room at hroom
        omega
      refine Calls.mono (Go.Proofs.Any.strings_Split Go.Proofs.Tryd.lays146 (by kernel_rfl) ⟨⟨s⟩⟩ ⟨⟨[c]⟩⟩ m w hs hm (Nat.le_refl 1)) ?_
      rintro e w' ⟨rfl, rfl⟩
      have hcnt : Lib.countB ⟨⟨s⟩⟩ ⟨⟨[c]⟩⟩ = s.count c := Lib.count_one c s
      have hcut : (Lib.splitB ⟨⟨[c]⟩⟩ 0 (s.count c) ⟨⟨s⟩⟩).map (·.data.toList) = cutU c s := by rw [Lib.splitB_data]; exact cutU_split c s
      have hlen := Lib.splitB_all ⟨⟨[c]⟩⟩ (Nat.le_refl 1) 0 _ ⟨⟨s⟩⟩ hcnt
      rw [hcnt]
      generalize Lib.splitB ⟨⟨[c]⟩⟩ 0 (s.count c) ⟨⟨s⟩⟩ = L at hcut hlen
      rw [← hcut, ← hlen]
      refine ⟨kept_alloc _ _, .c _ _ ?_⟩
      have e1 : L.length = ((List.map (fun x : ByteArray => x.data.toList) L).map fun p => [D.str p]).length := by simp
      rw [e1]
      refine .list 1 _ _ 0 _ (fun i => match L[i]? with | some x => .string x | none => undef) (by simp; omega) (by decide) (by simp) (Nat.le_refl _) (fun h => Nat.lt_irrefl _ (hA _ h)) ?_ ?_
      · intro i hi
        have hi' : i < L.length := by simpa using hi
        unfold cellAt
        simp [hi']
      · intro i d hd
        have hflat : ((List.map (fun x : ByteArray => x.data.toList) L).map fun p => [D.str p]).flatten = L.map fun x => D.str x.data.toList := by
          clear hd hlen hcut e1
          induction L with
          | nil => rfl
          | cons a r ih => simp only [List.map_cons, List.flatten_cons, ih]; rfl
        rw [hflat, List.getElem?_map] at hd
        cases hx : L[i]? with
        | none => rw [hx] at hd; cases hd
        | some x =>
          rw [hx] at hd
          cases hd
          have : x = ⟨⟨x.data.toList⟩⟩ := by cases x; simp
          show RepD _ _ (D.str x.data.toList) (.string x)
          conv => rhs; rw [this]
          exact .str _
    · cases hG
  · cases hG
end Go.Am
namespace Go.Am
open Go
def scansM (a b : Nat) : List (D × C) := [(.int .i64 2, .clo 109 [.ptr a 0]), (.int .i64 3, .clo 109 [.ptr b 0]), (.int .i64 9, .d (.fn 95)), (.int .i64 5, .d (.fn 96)), (.int .i64 4, .d (.fn 97)), (.int .i64 7, .d (.fn 98)), (.int .i64 6, .d (.fn 99))]
def T79 (xs : List V) (h : Hp) (K : V → Hp → Prop) : Prop := xs = [] ∧ K (.c (.map h.next)) ⟨h.next + 1 + 1 + 1, (h.next + 1 + 1, .cells [.d (.int .i64 3)]) :: (h.next + 1, .cells [.d (.int .i64 1)]) :: (h.next, .map (scansM (h.next + 1) (h.next + 1 + 1))) :: h.obs⟩
theorem fineT79 : FineT T79 := fun _ _ _ ⟨e, hk⟩ => ⟨_, _, hk, fun _ h' => ⟨e, h'⟩⟩
theorem ev_mapSet {cl : Call} {e : Env} {nx y : Nat} {ob ob' : List (Nat × Ob)} {m k x : Opd} {es es' : List (D × C)} {kd : D} {q : C} (hm : ev e m = .c (.map y)) (hk : ev e k = .c (.d kd)) (hx : ev e x = .c q) (ha : q.isAny = false) (hl : look ob y = some (.map es)) (hs : setK false kd q es = some es')
    (hp : put ob y (.map es') = some ob') : eval cl e ⟨nx, ob⟩ (.mapSet false m k x) = some (.tup [], ⟨nx, ob'⟩) := by
  simp only [eval, hm, hk, hx, ha, hl, hs, hp]
set_option maxRecDepth 8000 in
theorem hok79 {P : Program} {m : Int} (fk : FnOk P ⟨[], [], [79, 94, 109], glb m⟩ 79 5 c79 [.t 0]) (h : HeapOk P (glb m) 94 T94) : HeapOk P (glb m) 79 T79 := by
  refine heap_ok fk (callh_cons h (callh_nil (callOk_nil _ _))) ?_
  rintro xs ⟨nx, ob⟩ K ⟨rfl, hk⟩
  unfold c79
  repeat' first
    | (with_reducible first|refine Za ?_|refine Zb ?_|refine Zc ?_|refine Zd ?_|refine Ze ?_|refine Zf ?_|refine Zg ?_|refine Zh ?_|refine Zi ?_|refine Zj ?_|refine Zk ?_|refine Zl ?_|refine Zm ?_|refine Zn ?_|refine Zo ?_|refine Zp ?_|refine Zq ?_|refine Zr ?_|refine Zs ?_|refine Zt ?_|refine Zu ?_)|(with_reducible refine Zv (by decide) ?_)|((with_reducible apply Zw);rfl)|((with_reducible apply Zx);rfl;decide)|((with_reducible apply Zy);rfl)|((with_reducible apply Zz);rfl)|((with_reducible apply ZA);rfl)|refine ZB rfl ?_|refine ZC rfl ?_
    | (refine step_hcall rfl ⟨_, rfl, ?_⟩; dsimp only)
    | (refine ZC (ev_mapSet rfl rfl rfl rfl (by first | exact look_hd | exact look_tl (by omega) look_hd | exact look_tl (by omega) (look_tl (by omega) look_hd)) rfl (by first | exact put_hd | exact put_tl (by omega) put_hd | exact put_tl (by omega) (put_tl (by omega) put_hd))) ?_)
  exact ⟨_, rfl, hk⟩

theorem classOf_cases (c : UInt8) : classOf c = 0 ∨ classOf c = 1 ∨ classOf c = 2 ∨ classOf c = 3 ∨ classOf c = 4 ∨ classOf c = 5 ∨ classOf c = 6 ∨ classOf c = 7 ∨ classOf c = 8 ∨ classOf c = 9 := by
  unfold classOf memberT
  simp only [classIn]
  repeat' split
  all_goals simp
theorem classOf_quote {c : UInt8} (h : classOf c = 7) : c.toNat = 39 := by
  unfold classOf memberT at h
  simp only [classIn] at h
  repeat' split at h
  all_goals first | (exfalso; revert h; decide) | skip
  rename_i hc
  simp at hc
  rw [hc]
  rfl
theorem evalR_hcall {cl : Call} {e : Env} {h h' : Hp} {f : Nat} {args : List Opd} {v : V} {T : List V → Hp → (V → Hp → Prop) → Prop} (hT : cl.heap f = some T) (hk : T (evs e args) h (fun v2 h2 => v2 = v ∧ h2 = h')) : evalR cl e h (.hcall f args) v h' := by
  unfold evalR
  simp only [opWp, hT]
  exact hk
theorem G80_k {c : UInt8} {k : Nat} (h : classOf c = k) : G80 [.c (.int .u8 c.toNat)] = some (.c (.int .i64 k)) := by rw [G80_eq, h]
/-- Texts that are one token: names, symbols, bytes that stand alone. -/
def single (s : List UInt8) (k : Int) : Prop := ∃ c, s[0]? = some c ∧ ((classOf c = 2 ∧ k = 1 ∧ ∀ b ∈ s, nameC b = true) ∨ (classOf c = 5 ∧ k = 2 ∧ s ≠ [46] ∧ hasPre s [47, 42] = false ∧ ∀ b ∈ s, (classOf b : Int) = 5) ∨ (classOf c = 6 ∧ k = 6 ∧ s.length = 1))
theorem hasPre_first {s : List UInt8} {c : UInt8} (h : s[0]? = some c) (hc : classOf c ≠ 5) : hasPre s [47, 42] = false := by
  cases s with
  | nil => rfl
  | cons b r =>
    simp at h
    subst h
    have : b ≠ 47 := by intro e; subst e; revert hc; decide
    cases r with
    | nil => rfl
    | cons d r => simp [hasPre, this]
theorem single_H78 {s : List UInt8} {k : Int} (h : single s k) : H78 s := by
  obtain ⟨c, h0, h⟩ := h
  refine .inr ⟨c, h0, ?_⟩
  rcases h with ⟨h1, _⟩ | ⟨h1, _, _, h2, _⟩ | ⟨h1, _⟩
  · exact ⟨by omega, by omega, hasPre_first h0 (by omega)⟩
  · exact ⟨by omega, by omega, h2⟩
  · exact ⟨by omega, by omega, hasPre_first h0 (by omega)⟩
theorem sub_zero {s s' : List UInt8} {i : Int} {n : Nat} (hs : s' = (s.take n).drop i.toNat) (hn : n = s.length) (hi : i = 0) : s' = s := by
  subst hi
  subst hn
  simpa using hs
/-- A token behind a place. -/
def R60 (s : List UInt8) (i : Int) (r : DV) : Prop := ∃ (kind a b e : Int) (text : List UInt8) (ok : Bool), r = .tup [.agg [.int .i64 kind, .int .i64 a, .int .i64 b, .str text, .int .i64 e], .c (.bool ok)] ∧ (ok = true → i < b ∧ b ≤ s.length) ∧
  (∀ k, single s k → i = 0 → kind = k ∧ a = 0 ∧ b = s.length ∧ text = s ∧ e = 0 ∧ ok = true) ∧ (i = s.length → ok = false)
set_option maxRecDepth 8000 in
set_option maxHeartbeats 8000000 in
theorem w60 {G78 G95 G96 G97 G98 G99 G110 G111 : List DV → Option DV} (h78 : KB R78 G78) (h95 : KP (fun c => (classOf c : Int) = 9) RT G95) (h96 : KP (fun c => (classOf c : Int) = 5) R96 G96) (h97 : KP (fun c => (classOf c : Int) = 4) RT G97)
    (h98 : KP (fun c => c.toNat = 39) RT G98) (h99 : KP (fun _ => True) R99 G99) (h110 : ∀ x : BS, x.ok → ∃ r, G110 [x.v] = some r ∧ R110 G111 x r)
    (sz : Nat) (s : List UInt8) (i : Int) (hz : sz = 1 ∨ s = []) (hroom : s.length ≤ room) (h0 : 0 ≤ i) (h1 : i ≤ s.length) :
    awp (tblh [(78, G78), (80, G80), (81, G81), (95, G95), (96, G96), (97, G97), (98, G98), (99, G99)] [(79, T79), (109, T109 G110)]) c60 (PostQ [.cell 4 5 true, .t 5] (R60 s i)) ⟨argE 0 (dvArgs [.c (.list sz (encB s)), .c (.int .i64 i)]), ⟨0, []⟩⟩ := by
  have hl : (encB s).length = s.length := encB_length s
  unfold room at hroom
  unfold c60
  repeat' first
    | ((with_reducible first|apply ZD|apply ZE|apply ZF|apply ZG|apply ZH|apply ZI);rfl;rfl;all_goals (intro hc;first|(exfalso;omega)|skip))|((with_reducible first|apply ZJ|apply ZK);rfl;rfl;all_goals (intro hc;first|contradiction|skip))|((with_reducible first|apply ZL|apply ZM);rfl;rfl;omega;omega)|((with_reducible first|apply ZN|apply ZO);rfl;rfl;omega;omega;intro c hget hc)|((with_reducible apply ZP);rfl;(first|exact .inl rfl|assumption);rfl;rfl;omega;omega;omega;intro s' hs' hl')|((with_reducible apply ZQ);rfl;rfl;rfl;omega;omega;omega;intro s' hs' hl')|((with_reducible apply ZR);rfl)
    | ((with_reducible apply Z2 (f := 78));rfl;rfl;rfl;exact (h78 1 _ (.inl rfl) (by unfold room; omega));rintro _ ⟨k, e, rfl, b1, b2, b3, b4⟩;refine Z0 rfl ?_)
    | (with_reducible first|refine Za ?_|refine Zb ?_|refine Zc ?_|refine Zd ?_|refine Ze ?_|refine Zf ?_|refine Zg ?_|refine Zh ?_|refine Zi ?_|refine Zj ?_|refine Zk ?_|refine Zl ?_|refine Zm ?_|refine Zn ?_|refine Zo ?_|refine Zp ?_|refine Zq ?_|refine Zr ?_|refine Zs ?_|refine Zt ?_|refine Zu ?_)|(with_reducible refine Zv (by decide) ?_)|((with_reducible apply Zw);rfl)|((with_reducible apply Zx);rfl;decide)|((with_reducible apply Zy);rfl)|((with_reducible apply Zz);rfl)|((with_reducible apply ZA);rfl)|refine ZB rfl ?_|refine ZC rfl ?_
    | exact ⟨_, _, rfl, rfl, _, _, _, _, _, _, rfl, fun h => by first | contradiction | omega | (have := b3 (by assumption); omega), fun k' hs hi => by
        have h4 := b4 (by rw [sub_zero hs' (by simp) hi]; exact single_H78 hs)
        obtain ⟨c, h5, _⟩ := hs
        have h6 : 0 < s.length := (List.getElem?_eq_some_iff.1 h5).1
        exfalso
        omega, fun hi => by
        first
        | rfl
        | (have h4 := b4 (.inl (List.length_eq_zero_iff.1 (by omega))); exfalso; omega)⟩
    | with_reducible refine ZS ?_
  refine ZZ (v := .c (.map 1)) (hp2 := ⟨4, [(3, .cells [.d (.int .i64 3)]), (2, .cells [.d (.int .i64 1)]), (1, .map (scansM 2 3)), (0, .cells [.d (.int .i64 0), .d (.int .i64 0), .d (.int .i64 0), .d (.str []), .d (.int .i64 0)])]⟩) (evalR_hcall (T := T79) rfl ⟨rfl, rfl, rfl⟩) trivial ?_
  refine ZX rfl rfl ?_
  refine ZX rfl rfl ?_
  (with_reducible apply dstep_byte)
  · rfl
  · rfl
  · omega
  · omega
  intro c hget hcb hall1
  have hend : ¬ i = s.length := fun hi => by
    have h4 := b4 (.inl (List.length_eq_zero_iff.1 (by omega)))
    omega
  have hone : ∀ k', single s k' → i = 0 → k = 0 ∧ s[0]? = some c := fun k' hs hi => by
    have h4 := b4 (by rw [sub_zero hs' (by simp) hi]; exact single_H78 hs)
    refine ⟨h4.1, ?_⟩
    have e0 : i + k = 0 := by omega
    rw [e0] at hget
    exact hget
  refine dstep_all (fun ⟨_, _⟩ => rfl) ?_
  have hbad : classOf c ≠ 2 → classOf c ≠ 5 → classOf c ≠ 6 → ∀ k', i = 0 → ¬ single s k' := by
    intro n1 n2 n3 k' hi hs
    obtain ⟨h1, h2⟩ := hone k' hs hi
    obtain ⟨c', h3, h4⟩ := hs
    obtain rfl := Option.some.inj (h2.symm.trans h3)
    rcases h4 with ⟨h5, _⟩ | ⟨h5, _⟩ | ⟨h5, _⟩
    · exact n1 h5
    · exact n2 h5
    · exact n3 h5
  have hu : ∀ n : Nat, classOf c = n → (classOf c : Int) = n := fun n h => by rw [h]
  rcases classOf_cases c with hcl | hcl | hcl | hcl | hcl | hcl | hcl | hcl | hcl | hcl <;>
  (refine ZY (ev_pcall rfl rfl (G80_k hcl) rfl rfl) (by (repeat' first|exact True.intro|refine ⟨?_, ?_⟩|exact .inl rfl|exact .inr (.inl rfl)|exact .inr (.inr rfl)|rfl)) ?_
   repeat' first
    | ((with_reducible first|apply ZD|apply ZE|apply ZF|apply ZG|apply ZH|apply ZI);rfl;rfl;all_goals (intro hc;first|(exfalso;omega)|skip))|((with_reducible first|apply ZJ|apply ZK);rfl;rfl;all_goals (intro hc;first|contradiction|skip))|((with_reducible first|apply ZL|apply ZM);rfl;rfl;omega;omega)|((with_reducible first|apply ZN|apply ZO);rfl;rfl;omega;omega;intro c hget hc)|((with_reducible apply ZP);rfl;(first|exact .inl rfl|assumption);rfl;rfl;omega;omega;omega;intro s' hs' hl')|((with_reducible apply ZQ);rfl;rfl;rfl;omega;omega;omega;intro s' hs' hl')|((with_reducible apply ZR);rfl)
    | (with_reducible first|refine Za ?_|refine Zb ?_|refine Zc ?_|refine Zd ?_|refine Ze ?_|refine Zf ?_|refine Zg ?_|refine Zh ?_|refine Zi ?_|refine Zj ?_|refine Zk ?_|refine Zl ?_|refine Zm ?_|refine Zn ?_|refine Zo ?_|refine Zp ?_|refine Zq ?_|refine Zr ?_|refine Zs ?_|refine Zt ?_|refine Zu ?_)|(with_reducible refine Zv (by decide) ?_)|((with_reducible apply Zw);rfl)|((with_reducible apply Zx);rfl;decide)|((with_reducible apply Zy);rfl)|((with_reducible apply Zz);rfl)|((with_reducible apply ZA);rfl)|refine ZB rfl ?_|refine ZC rfl ?_
    | (with_reducible first|refine ZS ?_|refine ZT ?_)|((with_reducible apply ZU);rfl)|((with_reducible apply ZV);rfl;decide)|((with_reducible apply ZW);rfl)|refine ZX rfl rfl ?_|refine ZY rfl (by (repeat' first|exact True.intro|refine ⟨?_, ?_⟩|exact .inl rfl|exact .inr (.inl rfl)|exact .inr (.inr rfl)|rfl)) ?_|refine ZZ (Z0 rfl ⟨rfl, rfl⟩) (by (repeat' first|exact True.intro|refine ⟨?_, ?_⟩|exact .inl rfl|exact .inr (.inl rfl)|exact .inr (.inr rfl)|rfl)) ?_
    | exact ⟨_, _, rfl, rfl, _, _, _, _, _, _, rfl, fun h => by first | contradiction | omega, fun k' hs hi => by
        exact absurd hs (hbad (by omega) (by omega) (by omega) k' hi), fun hi => (hend hi).elim⟩
    | (refine ⟨_, _, rfl, rfl, _, _, _, _, _, _, rfl, fun h => by first | contradiction | omega, fun k' hs hi => ?_, fun hi => (hend hi).elim⟩
       (· obtain ⟨h1, h2⟩ := hone k' hs hi
          obtain ⟨c', h3, h4⟩ := hs
          obtain rfl := Option.some.inj (h2.symm.trans h3)
          have e1 := sub_zero hs' (by simp) (show i + k = 0 by omega)
          rcases h4 with ⟨h5, h6, h7⟩ | ⟨h5, h6, h7, h8, h9⟩ | ⟨h5, h6, h7⟩
          · first
            | (exfalso; omega)
            | (subst h6; have h10 := c5 (by rw [e1]; exact h7); rw [e1] at h10; refine ⟨rfl, by omega, by omega, ?_, rfl, rfl⟩; rw [h10, e1]; simp)
          · first
            | (exfalso; omega)
            | (subst h6; obtain ⟨d1, d2, d3, d4⟩ := c3 (by rw [e1]; exact h9) (by rw [e1]; exact h7); exact ⟨d1, by omega, by rw [e1] at d2; omega, by rw [d3, e1], rfl, rfl⟩)
            | (subst h6; obtain ⟨d1, d2, d3, d4⟩ := c3 (by rw [e1]; exact h9) (by rw [e1]; exact h7); exfalso; omega)
          · first
            | (exfalso; omega)
            | (subst h6; refine ⟨rfl, by omega, by omega, ?_, rfl, rfl⟩; rw [e1]; exact List.take_of_length_le (by omega))))
    | ((with_reducible apply step_vfn (g := 81)); rfl; rfl; rfl; rfl; rfl; rfl; rfl)
    | (obtain ⟨r0, hr0, kind, size, e0, text, rfl, c1, c2⟩ := h95 1 s' c rfl (by unfold room; omega) (first_of hs' (by simp) hget) (hu _ hcl); (with_reducible apply step_vfn (g := 95)); rfl; rfl; rfl; rfl; exact hr0; rfl; rfl)
    | (obtain ⟨r0, hr0, kind, size, e0, text, rfl, c1, c2, c3⟩ := h96 1 s' c rfl (by unfold room; omega) (first_of hs' (by simp) hget) (hu _ hcl); (with_reducible apply step_vfn (g := 96)); rfl; rfl; rfl; rfl; exact hr0; rfl; rfl)
    | (obtain ⟨r0, hr0, kind, size, e0, text, rfl, c1, c2⟩ := h97 1 s' c rfl (by unfold room; omega) (first_of hs' (by simp) hget) (hu _ hcl); (with_reducible apply step_vfn (g := 97)); rfl; rfl; rfl; rfl; exact hr0; rfl; rfl)
    | (obtain ⟨r0, hr0, kind, size, e0, text, rfl, c1, c2⟩ := h98 1 s' c rfl (by unfold room; omega) (first_of hs' (by simp) hget) (classOf_quote hcl); (with_reducible apply step_vfn (g := 98)); rfl; rfl; rfl; rfl; exact hr0; rfl; rfl)
    | (obtain ⟨r0, hr0, rfl⟩ := h99 1 s' c rfl (by unfold room; omega) (first_of hs' (by simp) hget) trivial; (with_reducible apply step_vfn (g := 99)); rfl; rfl; rfl; rfl; exact hr0; rfl; rfl)
    | (obtain ⟨r0, hr0, n0, rfl, c1, c2, c3, c4, c5⟩ := h110 ⟨1, s'⟩ ⟨.inl rfl, by show s'.length ≤ room; unfold room; omega⟩; have c3 := c3 c (first_of hs' (by simp) hget) (by simp [nameC, hcl]); simp only at c2 c5; refine step_vclo rfl rfl ⟨1, s', _, _, _, rfl, .inl rfl, rfl, hr0, c1, c2, ?_⟩))
end Go.Am
namespace Go.Am
open Go
section
variable {cl : Call} {e : Env} {nx : Nat} {ob ob' : List (Nat × Ob)} {x y : Opd}
theorem ev_slice_own {z n sz a b : Nat} {l : List (List D)} {lo hi mx : Option Opd} (hx : ev e x = .c (.own z n)) (hl : look ob z = some (.row sz l)) (hn : n = l.length) (hb : bounds e l.length lo hi mx = some (a, b)) :
    eval cl e ⟨nx, ob⟩ (.slice sz x lo hi mx) = some (.c (.d (.list sz ((l.take b).drop a))), ⟨nx, C.shed ob (.own z n)⟩) := by
  have h1 : sized sz sz l = true := by simp [sized]
  simp only [eval, hx, C.lst, toD_own (h := ⟨nx, ob⟩) hl hn, h1, hb]
theorem bounds_full {n : Nat} {o o' : Opd} (h1 : asInt (ev e o) = some (n : Int)) (h2 : asInt (ev e o') = some (n : Int)) : bounds e n none (some o) (some o') = some (0, n) := by
  have c : (0 : Int) ≤ n ∧ (n : Int) ≤ (n : Int) := by omega
  have e1 : bnd e (some n) n (some o') = some n := by simp only [bnd, h2, if_pos c, Int.toNat_natCast]
  have e2 : bnd e (dflt n (some o')) n (some o) = some n := by simp only [bnd, h1, if_pos c, Int.toNat_natCast]
  unfold bounds
  rw [e1]
  simp only [e2]
  rfl
theorem ev_app_own {z n sz : Nat} {l ys : List (List D)} (hx : ev e x = .c (.own z n)) (hy : ev e y = .c (.d (.list sz ys))) (hl : look ob z = some (.row sz l)) (hn : n = l.length) (hr : l.length + ys.length ≤ room) (hp : put ob z (.row sz (l ++ ys)) = some ob') :
    eval cl e ⟨nx, ob⟩ (.append x y sz) = some (.c (.own z (l ++ ys).length), ⟨nx, ob'⟩) := by
  have h1 : sized sz sz ys = true := by simp [sized]
  have h2 : True ∧ n = l.length ∧ l.length + ys.length ≤ room := ⟨trivial, hn, hr⟩
  simp only [eval, hy, C.lst, C.toD, h1, hx, hl]
  rw [if_pos h2, hp]
end
theorem look_more {x : Nat} {o : Ob} {ob : List (Nat × Ob)} (hne : look ob x = none) (y : Nat) (p : Ob) (h : look ob y = some p) : look ((x, o) :: ob) y = some p := by
  by_cases hxy : x = y
  · subst hxy; rw [hne] at h; cases h
  · exact look_tl hxy h
/-- Tokens as elements. -/
def tokD (e : List D) : Prop := ∃ (kind a b code : Int) (text : List UInt8), e = [.int .i64 kind, .int .i64 a, .int .i64 b, .str text, .int .i64 code]
def tokL (k : Int) (s : List UInt8) : List D := [.int .i64 k, .int .i64 0, .int .i64 s.length, .str s, .int .i64 0]
def R37 (s : List UInt8) (r : DV) : Prop := ∃ l : List (List D), r = .c (.list 5 l) ∧ (∀ e ∈ l, tokD e) ∧ (s = [] → l = []) ∧ ∀ k, single s k → l = [tokL k s]
def K60 (G : List DV → Option DV) : Prop := ∀ (sz : Nat) (s : List UInt8) (i : Int), (sz = 1 ∨ s = []) → s.length ≤ room → 0 ≤ i → i ≤ s.length → ∃ r, G [.c (.list sz (encB s)), .c (.int .i64 i)] = some r ∧ R60 s i r
def I37 (sz : Nat) (s : List UInt8) (n : Nat) (st : St) : Prop := ∃ (i : Int) (l : List (List D)) (nx : Nat), 0 ≤ i ∧ i ≤ s.length ∧ s.length - i < n ∧ l.length ≤ i ∧ 0 < nx ∧ (∀ e ∈ l, tokD e) ∧ (s = [] → l = []) ∧ (∀ k, single s k → (i = 0 ∧ l = []) ∨ (i = s.length ∧ l = [tokL k s])) ∧
  st = ⟨[(0, .c (.d (.list sz (encB s)))), (3, .c (.own 0 l.length)), (4, .c (.d (.int .i64 i)))], ⟨nx, [(0, .row 5 l)]⟩⟩
set_option maxRecDepth 8000 in
set_option maxHeartbeats 8000000 in
theorem w37 {G : List DV → Option DV} (hG : K60 G) (sz : Nat) (s : List UInt8) (hz : sz = 1 ∨ s = []) (hroom : s.length ≤ room) : awp (tbl [(60, G)]) c37 (PostQ [.t 2] (R37 s)) ⟨argE 0 (dvArgs [.c (.list sz (encB s))]), ⟨0, []⟩⟩ := by
  have hroom' := hroom
  unfold room at hroom
  unfold c37
  repeat' first | (with_reducible first|refine Za ?_|refine Zb ?_|refine Zc ?_|refine Zd ?_|refine Ze ?_|refine Zf ?_|refine Zg ?_|refine Zh ?_|refine Zi ?_|refine Zj ?_|refine Zk ?_|refine Zl ?_|refine Zm ?_|refine Zn ?_|refine Zo ?_|refine Zp ?_|refine Zq ?_|refine Zr ?_|refine Zs ?_|refine Zt ?_|refine Zu ?_)|(with_reducible refine Zv (by decide) ?_)|((with_reducible apply Zw);rfl)|((with_reducible apply Zx);rfl;decide)|((with_reducible apply Zy);rfl)|((with_reducible apply Zz);rfl)|((with_reducible apply ZA);rfl)|refine ZB rfl ?_|refine ZC rfl ?_
  refine awp_loop (I37 sz s) (s.length + 1) ?_ (by rintro st ⟨i, l, nx, h1, h2, h3, _⟩; omega) ?_
  · exact weak_keep [0, 3, 4] rfl ⟨0, [], 1, by omega, by omega, by omega, by simp, by omega, by simp, fun _ => rfl, fun _ _ => .inl ⟨rfl, rfl⟩, rfl⟩
  · rintro n K hK st ⟨i, l, nx, h1, h2, h3, h4, h5, h6, hE, hS, rfl⟩
    have hne : nx ≠ 0 := by omega
    repeat' first
      | (with_reducible first|refine Za ?_|refine Zb ?_|refine Zc ?_|refine Zd ?_|refine Ze ?_|refine Zf ?_|refine Zg ?_|refine Zh ?_|refine Zi ?_|refine Zj ?_|refine Zk ?_|refine Zl ?_|refine Zm ?_|refine Zn ?_|refine Zo ?_|refine Zp ?_|refine Zq ?_|refine Zr ?_|refine Zs ?_|refine Zt ?_|refine Zu ?_)|(with_reducible refine Zv (by decide) ?_)|((with_reducible apply Zw);rfl)|((with_reducible apply Zx);rfl;decide)|((with_reducible apply Zy);rfl)|((with_reducible apply Zz);rfl)|((with_reducible apply ZA);rfl)|refine ZB rfl ?_|refine ZC rfl ?_
      | (((with_reducible apply Z2 (f := 60)); rfl; rfl; rfl; exact hG sz s i hz hroom' h1 h2; rintro _ ⟨kind, a, b, code, text, (_ | _), rfl, b1, b4, b5⟩) <;> refine Z0 rfl ?_)
      | (refine ZC (ev_store rfl rfl rfl look_hd rfl put_hd) ?_)
      | ((with_reducible apply step_len_own); rfl; exact look_tl hne look_hd; rfl)
      | (refine ZB (ev_slice_own rfl (look_tl hne look_hd) rfl (bounds_full rfl rfl)) ?_)
    · refine ⟨_, _, rfl, rfl, l, ?_, h6, hE, fun k hs => ?_⟩
      · simp
      · rcases hS k hs with ⟨hi, _⟩ | ⟨_, hl⟩
        · have := (b4 k hs hi).2.2.2.2.2
          cases this
        · exact hl
    · obtain ⟨b2, b3⟩ := b1 rfl
      refine ZS ?_
      refine ZX rfl rfl ?_
      refine ZY (ev_load rfl look_hd rfl) trivial ?_
      refine ZY rfl ⟨trivial, trivial⟩ ?_
      refine ZZ (Z0 (ev_app_own rfl rfl (look_tl hne look_hd) rfl (by show l.length + 1 ≤ room; unfold room; omega) (put_tl hne put_hd)) ⟨rfl, rfl⟩) (by (repeat' first|exact True.intro|refine ⟨?_, ?_⟩|exact .inl rfl|exact .inr (.inl rfl)|exact .inr (.inr rfl)|rfl)) ?_
      refine ZX rfl rfl ?_
      refine ZY (ev_load rfl look_hd rfl) ⟨.inr (.inr (ev_load rfl look_hd rfl)), trivial, trivial, trivial⟩ ?_
      refine ZX rfl rfl ?_
      refine ZX rfl rfl ?_
      refine ZT ?_
      repeat' first | (with_reducible first|refine Za ?_|refine Zb ?_|refine Zc ?_|refine Zd ?_|refine Ze ?_|refine Zf ?_|refine Zg ?_|refine Zh ?_|refine Zi ?_|refine Zj ?_|refine Zk ?_|refine Zl ?_|refine Zm ?_|refine Zn ?_|refine Zo ?_|refine Zp ?_|refine Zq ?_|refine Zr ?_|refine Zs ?_|refine Zt ?_|refine Zu ?_)|(with_reducible refine Zv (by decide) ?_)|((with_reducible apply Zw);rfl)|((with_reducible apply Zx);rfl;decide)|((with_reducible apply Zy);rfl)|((with_reducible apply Zz);rfl)|((with_reducible apply ZA);rfl)|refine ZB rfl ?_|refine ZC rfl ?_
      refine hK _ (weak_drop [0, 3, 4] rfl (look_more (by simp [look]; omega)) (Nat.le_refl _) ⟨b, _, _, by omega, by omega, by omega, ?_, by omega, ?_, fun hs => ?_, fun k hs => ?_, rfl⟩)
      · simp [repl]; omega
      · intro e he
        rcases List.mem_append.1 he with h | h
        · exact h6 e h
        · simp [repl] at h; subst h; exact ⟨_, _, _, _, _, rfl⟩
      · have : s.length = 0 := by rw [hs]; rfl
        have h9 := b5 (by omega)
        cases h9
      · rcases hS k hs with ⟨hi, hl⟩ | ⟨hi, _⟩
        · obtain ⟨e1, e2, e3, e4, e5, _⟩ := b4 k hs hi
          refine .inr ⟨e3, ?_⟩
          rw [hl, e1, e2, e3, e4, e5]
          rfl
        · have h9 := b5 hi
          cases h9
theorem pok37 {P : Program} {m : Int} {G : List DV → Option DV} (fk : FnOk P ⟨[], [3], [79, 94, 109], glb m⟩ 37 27 c37 [.t 2]) (h : PureOk P (glb m) 60 G) (hG : K60 G) : ∃ G', PureFn P (glb m) 37 G' ∧ KB R37 G' :=
  kb fk (callOk_cons h (callOk_nil _ _)) (fine_tbl _) (w37 hG)
theorem pok60 {P : Program} {m : Int} {G78 G95 G96 G97 G98 G99 G110 G111 : List DV → Option DV} (fk : FnOk P ⟨[], [], [79, 94, 109], glb m⟩ 60 83 c60 [.cell 4 5 true, .t 5]) (h78 : KB R78 G78) (h95 : KP (fun c => (classOf c : Int) = 9) RT G95) (h96 : KP (fun c => (classOf c : Int) = 5) R96 G96) (h97 : KP (fun c => (classOf c : Int) = 4) RT G97)
    (h98 : KP (fun c => c.toNat = 39) RT G98) (h99 : KP (fun _ => True) R99 G99) (h110 : ∀ x : BS, x.ok → ∃ r, G110 [x.v] = some r ∧ R110 G111 x r)
    (ok : CallOk P (glb m) (tblh [(78, G78), (80, G80), (81, G81), (95, G95), (96, G96), (97, G97), (98, G98), (99, G99)] [(79, T79), (109, T109 G110)])) : ∃ G', PureFn P (glb m) 60 G' ∧ K60 G' := by
  obtain ⟨G, h1, h2⟩ := loose_by fk ok (fine_cons fineT79 (fine_cons (fineT109 _) (fine_nil _))) (ι := BS × Int) (arg := fun x => [x.1.v, .c (.int .i64 x.2)]) (Pre := fun x => x.1.ok ∧ 0 ≤ x.2 ∧ x.2 ≤ x.1.s.length) (R := fun x r => R60 x.1.s x.2 r)
    (fun i j _ _ h r hr => by
      injection h with h3 h4
      injection h4 with h4 _
      injection h4 with h4
      injection h4 with _ h4
      rw [← BS.inj h3, ← h4]
      exact hr)
    (fun x hx => w60 h78 h95 h96 h97 h98 h99 h110 x.1.sz x.1.s x.2 hx.1.1 hx.1.2 hx.2.1 hx.2.2)
  exact ⟨G, h1, fun sz s i hz hr h0 h3 => h2 (⟨sz, s⟩, i) ⟨⟨hz, hr⟩, h0, h3⟩⟩
end Go.Am
namespace Go.Am
open Go
theorem lexAll (m : Int) : ∃ G, PureFn Go.Proofs.Tryd.prog (glb m) 37 G ∧ KB R37 G := by
  obtain ⟨G111, p111, k111⟩ := pok111 m
  have k111' : K111 G111 := fun sz s hz hr => k111 ⟨sz, s⟩ ⟨hz, hr⟩
  obtain ⟨G110, p110, k110⟩ := pok110 (fn110 m) (.inl p111) (pok122 m) k111'
  obtain ⟨G112, p112, k112⟩ := pok112 m
  obtain ⟨G113, p113, k113⟩ := pok113 (fn113 m) (.inl p111) k111'
  obtain ⟨G78, p78, k78⟩ := pok78 m
  have h94 := hok94 (fn94 m)
  have h109 := hok109 (fn109 m) (.inl p110)
  have h79 := hok79 (fn79 m) h94
  have p81 : PureOk Go.Proofs.Tryd.prog (glb m) 81 G81 := pure_ok (fn81 m) (callOk_nil _ _) w81
  obtain ⟨G99, p99, k99⟩ := kp (p := fun _ => True) (fn99 m) (callOk_nil _ _) (fine_tbl _) (fun sz s c hz hr hc _ => w99 sz s c hz hr hc)
  obtain ⟨G98, p98, k98⟩ := kp (fn98 m) (callOk_cons (.inl p113) (callOk_nil _ _)) (fine_tbl _) (w98 k113)
  obtain ⟨G97, p97, k97⟩ := kp (fn97 m) (callOk_cons (.inl p112) (callOk_nil _ _)) (fine_tbl _) (w97 k112)
  obtain ⟨G96, p96, k96⟩ := kp (fn96 m) (callOk_cons (pok80 m) (callOk_cons (pok90 m) (callOk_nil _ _))) (fine_tbl _) w96
  obtain ⟨G95, p95, k95⟩ := kp (fn95 m) (callh_cons h94 (callh_cons h109 (callh_nil (callOk_cons (.inl p111) (callOk_nil _ _))))) (fine_cons fineT94 (fine_cons (fineT109 _) (fine_nil _))) (w95 k111' k110)
  obtain ⟨G60, p60, k60⟩ := pok60 (fn60 m) k78 k95 k96 k97 k98 k99 k110
    (callh_cons h79 (callh_cons h109 (callh_nil (callOk_cons (.inl p78) (callOk_cons (pok80 m) (callOk_cons p81 (callOk_cons (.inl p95) (callOk_cons (.inl p96) (callOk_cons (.inl p97) (callOk_cons (.inl p98) (callOk_cons (.inl p99) (callOk_nil _ _))))))))))))
  exact pok37 (fn37 m) (.inl p60) k60
end Go.Am
