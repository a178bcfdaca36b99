/-
  Splitting; token.Next; lex.All.
-/
import Derived.Test.YtpidbhbmamjbpaaDoorProg
import Derived.Shelf.Strings.Split
import Derived.Test.YtpidbhbmamjbpaaDoorSMF
namespace Go.Proofs
open Go.Shelf
def Tryd.lays146_ren : Go.Shelf.Ren := ⟨fun | 146 => 32 | 221 => 54 | 268 => 74 | 138 => 75 | 143 => 76 | 195 => 88 | 197 => 89 | 218 => 90 | 219 => 91 | 260 => 95 | 217 => 96 | 225 => 97 | 224 => 98 | 267 => 99 | 266 => 100 | 314 => 101 | n => n, fun | 9 => 9 | 31 => 56 | 3 => 3 | 4 => 4 | 0 => 0 | 105 => 141 | 21 => 21 | 5 => 5 | 46 => 149 | 119 => 150 | 139 => 153 | 138 => 152 | 146 => 155 | 51 => 154 | n => n, fun | 1 => 1 | 3 => 2 | 4 => 3 | n => n⟩
theorem Tryd.lays146 : Go.Proofs.Lays.n146 Tryd.prog Tryd.lays146_ren := {
  mixed := by kernel_rfl
  f138 := Tryd.func75.trans (congrArg some (by kernel_rfl))
  f143 := Tryd.func76.trans (congrArg some (by kernel_rfl))
  f146 := Tryd.func32.trans (congrArg some (by kernel_rfl))
  f195 := Tryd.func88.trans (congrArg some (by kernel_rfl))
  f197 := Tryd.func89.trans (congrArg some (by kernel_rfl))
  f217 := Tryd.func96.trans (congrArg some (by kernel_rfl))
  f218 := Tryd.func90.trans (congrArg some (by kernel_rfl))
  f219 := Tryd.func91.trans (congrArg some (by kernel_rfl))
  f221 := Tryd.func54.trans (congrArg some (by kernel_rfl))
  f224 := Tryd.func98.trans (congrArg some (by kernel_rfl))
  f225 := Tryd.func97.trans (congrArg some (by kernel_rfl))
  f260 := Tryd.func95.trans (congrArg some (by kernel_rfl))
  f266 := Tryd.func100.trans (congrArg some (by kernel_rfl))
  f267 := Tryd.func99.trans (congrArg some (by kernel_rfl))
  f268 := Tryd.func74.trans (congrArg some (by kernel_rfl))
  f314 := Tryd.func101.trans (congrArg some (by kernel_rfl))
  t0 := Tryd.underlying0
  a0 := Tryd.isAgg0
  z0 := Tryd.sizeOf0
  v0 := Tryd.zeroValue0
  t3 := Tryd.underlying3
  a3 := Tryd.isAgg3
  z3 := Tryd.sizeOf3
  v3 := Tryd.zeroValue3
  t4 := Tryd.underlying4
  a4 := Tryd.isAgg4
  z4 := Tryd.sizeOf4
  v4 := Tryd.zeroValue4
  t5 := Tryd.underlying5
  a5 := Tryd.isAgg5
  z5 := Tryd.sizeOf5
  v5 := Tryd.zeroValue5
  t9 := Tryd.underlying9
  a9 := Tryd.isAgg9
  z9 := Tryd.sizeOf9
  v9 := Tryd.zeroValue9
  t21 := Tryd.underlying21
  a21 := Tryd.isAgg21
  z21 := Tryd.sizeOf21
  v21 := Tryd.zeroValue21
  t31 := Tryd.underlying56
  a31 := Tryd.isAgg56
  z31 := Tryd.sizeOf56
  v31 := Tryd.zeroValue56
  t46 := Tryd.underlying149
  a46 := Tryd.isAgg149
  z46 := Tryd.sizeOf149
  v46 := Tryd.zeroValue149
  t51 := Tryd.underlying154
  a51 := Tryd.isAgg154
  z51 := Tryd.sizeOf154
  v51 := Tryd.zeroValue154
  t105 := Tryd.underlying141
  a105 := Tryd.isAgg141
  z105 := Tryd.sizeOf141
  v105 := Tryd.zeroValue141
  t119 := Tryd.underlying150
  a119 := Tryd.isAgg150
  z119 := Tryd.sizeOf150
  t138 := Tryd.underlying152
  a138 := Tryd.isAgg152
  z138 := Tryd.sizeOf152
  v138 := Tryd.zeroValue152
  t139 := Tryd.underlying153
  a139 := Tryd.isAgg153
  z139 := Tryd.sizeOf153
  v139 := Tryd.zeroValue153
  t146 := Tryd.underlying155
  a146 := Tryd.isAgg155
  z146 := Tryd.sizeOf155
  v146 := Tryd.zeroValue155
  g1 := by kernel_rfl
  g3 := by kernel_rfl
  g4 := by kernel_rfl }
def Tryd.lays144_ren : Go.Shelf.Ren := ⟨fun | 144 => 55 | 143 => 76 | 219 => 91 | 217 => 96 | 225 => 97 | 224 => 98 | 267 => 99 | 266 => 100 | 314 => 101 | n => n, fun | 9 => 9 | 4 => 4 | 3 => 3 | 5 => 5 | 46 => 149 | 146 => 155 | 51 => 154 | n => n, fun | 1 => 1 | n => n⟩
theorem Tryd.lays144 : Go.Proofs.Lays.n144 Tryd.prog Tryd.lays144_ren := {
  mixed := by kernel_rfl
  f143 := Tryd.func76.trans (congrArg some (by kernel_rfl))
  f144 := Tryd.func55.trans (congrArg some (by kernel_rfl))
  f217 := Tryd.func96.trans (congrArg some (by kernel_rfl))
  f219 := Tryd.func91.trans (congrArg some (by kernel_rfl))
  f224 := Tryd.func98.trans (congrArg some (by kernel_rfl))
  f225 := Tryd.func97.trans (congrArg some (by kernel_rfl))
  f266 := Tryd.func100.trans (congrArg some (by kernel_rfl))
  f267 := Tryd.func99.trans (congrArg some (by kernel_rfl))
  f314 := Tryd.func101.trans (congrArg some (by kernel_rfl))
  t3 := Tryd.underlying3
  a3 := Tryd.isAgg3
  z3 := Tryd.sizeOf3
  v3 := Tryd.zeroValue3
  t4 := Tryd.underlying4
  a4 := Tryd.isAgg4
  z4 := Tryd.sizeOf4
  v4 := Tryd.zeroValue4
  t5 := Tryd.underlying5
  a5 := Tryd.isAgg5
  z5 := Tryd.sizeOf5
  v5 := Tryd.zeroValue5
  t9 := Tryd.underlying9
  a9 := Tryd.isAgg9
  z9 := Tryd.sizeOf9
  v9 := Tryd.zeroValue9
  t46 := Tryd.underlying149
  a46 := Tryd.isAgg149
  z46 := Tryd.sizeOf149
  v46 := Tryd.zeroValue149
  t51 := Tryd.underlying154
  a51 := Tryd.isAgg154
  z51 := Tryd.sizeOf154
  v51 := Tryd.zeroValue154
  t146 := Tryd.underlying155
  a146 := Tryd.isAgg155
  z146 := Tryd.sizeOf155
  v146 := Tryd.zeroValue155
  g1 := by kernel_rfl }
end Go.Proofs
namespace Go.Am
open Go
def cutU (c : UInt8) : List UInt8 → List (List UInt8)
  | [] => [[]]
  | b :: r => if b = c then [] :: cutU c r else match cutU c r with | h :: t => (b :: h) :: t | [] => [[b]]
theorem cutU_ne (c : UInt8) : ∀ s, cutU c s ≠ []
  | [] => by simp [cutU]
  | b :: r => by
    unfold cutU
    split
    · simp
    · split <;> simp
theorem cutU_split (c : UInt8) : ∀ s : List UInt8, Lib.splitK [c] 0 (s.count c) s = cutU c s
  | [] => by rfl
  | b :: r => by
    have ih := cutU_split c r
    by_cases hb : b = c
    · subst hb
      rw [List.count_cons_self]
      have hi : Lib.index (b :: r) [b] = 0 := by rw [Lib.index_one]; simp [Lib.indexByte]
      simp only [Lib.splitK, hi, cutU, if_true]
      simp [ih]
    · have hcount : (b :: r).count c = r.count c := by rw [List.count_cons]; simp [hb]
      rw [hcount]
      simp only [cutU, if_neg hb]
      have hi : Lib.index (b :: r) [c] = if Lib.index r [c] = -1 then -1 else Lib.index r [c] + 1 := by
        rw [Lib.index_one, Lib.index_one]
        simp [Lib.indexByte, hb]
      have hge := Lib.indexByte_ge r c
      rw [← Lib.index_one] at hge
      cases hk : r.count c with
      | zero =>
        rw [hk] at ih
        simp only [Lib.splitK] at ih ⊢
        rw [← ih]
      | succ k =>
        rw [hk] at ih
        simp only [Lib.splitK] at ih ⊢
        rw [hi]
        by_cases hm : Lib.index r [c] = -1
        · rw [if_pos hm]
          rw [hm] at ih
          simp only [beq_self_eq_true, if_true] at ih ⊢
          rw [← ih]
        · rw [if_neg hm]
          have e1 : (Lib.index r [c] == -1) = false := by simpa using hm
          have e2 : (Lib.index r [c] + 1 == -1) = false := by
            simp
            omega
          rw [e1] at ih
          rw [e2]
          simp only [Bool.false_eq_true, if_false] at ih ⊢
          rw [← ih]
          have e3 : (Lib.index r [c] + 1).toNat = (Lib.index r [c]).toNat + 1 := by omega
          simp [e3]
def G44 : List DV → Option DV
  | [.c (.str s), .c (.str [c])] => if s.length ≤ room then some (.c (.list 1 ((cutU c s).map fun p => [.str p]))) else none
  | _ => none
def G61 : List DV → Option DV
  | [.c (.str s), .c (.str [c])] => some (.c (.bool (decide (0 ≤ Lib.indexByte s c))))
  | _ => none
theorem ds_two {w : World} {A : Nat → Prop} {d e : DV} {vs : List Value} (h : DsRep w A [d, e] vs) : ∃ u v, vs = [u, v] ∧ RepDV w A d u ∧ RepDV w A e v := by
  obtain ⟨hl, hr⟩ := h
  match vs, hl with
  | [u, v], _ => exact ⟨u, v, rfl, hr 0 _ u rfl rfl, hr 1 _ v rfl rfl⟩
theorem repdv_str {w : World} {A : Nat → Prop} {s : List UInt8} {v : Value} (h : RepDV w A (.c (.str s)) v) : v = .string ⟨⟨s⟩⟩ := by
  cases h with
  | c _ _ h => cases h; rfl
theorem pok61 (m : Int) : PureOk Go.Proofs.Tryd.prog (glb m) 55 G61 := by
  refine .inl ⟨enters_of (fn := Go.Proofs.Tryd.f55) (c := (Go.Proofs.Tryd.f55.body).getD .skip) (by kernel_rfl) (by kernel_rfl) (by kernel_rfl), ?_⟩
  intro w A ds vs r hgl hA hds hG
  unfold G61 at hG
  split at hG
  · rename_i s c
    cases hG
    obtain ⟨u, v, rfl, h1, h2⟩ := ds_two hds
    obtain rfl := repdv_str h1
    obtain rfl := repdv_str h2
    refine Calls.mono (Go.Proofs.Any.strings_Contains_one Go.Proofs.Tryd.lays144 ⟨⟨s⟩⟩ c w) ?_
    rintro e w' ⟨rfl, rfl⟩
    exact ⟨Kept.refl _ _, .c _ _ (.bool _)⟩
  · cases hG
theorem pok44 (m : Int) : PureOk Go.Proofs.Tryd.prog (glb m) 32 G44 := by
  refine .inl ⟨enters_of (fn := Go.Proofs.Tryd.f32) (c := (Go.Proofs.Tryd.f32.body).getD .skip) (by kernel_rfl) (by kernel_rfl) (by kernel_rfl), ?_⟩
  intro w A ds vs r hgl hA hds hG
  unfold G44 at hG
  split at hG
  · rename_i s c
    split at hG
    · rename_i hroom
      cases hG
      obtain ⟨u, v, rfl, h1, h2⟩ := ds_two hds
      obtain rfl := repdv_str h1
      obtain rfl := repdv_str h2
      have hm : w.cell? ⟨1, 0, none⟩ = some (.int .i64 m) := by
        have := hgl 1 _ (show glb m 1 = some [.int .i64 m] by rfl)
        cases this with
        | lptr e off b o vs hnA hcell hrep =>
          have h3 := hcell 0 (by simp)
          have h4 := repd_int (hrep 0 _ rfl)
          rw [h4] at h3
          exact h3
      have hs : (⟨⟨s⟩⟩ : ByteArray).size < 4294967281 := by
        show s.length < _
        unfold room at hroom
        omega
      refine Calls.mono (Go.Proofs.Any.strings_Split Go.Proofs.Tryd.lays146 (by kernel_rfl) ⟨⟨s⟩⟩ ⟨⟨[c]⟩⟩ m w hs hm (Nat.le_refl 1)) ?_
      rintro e w' ⟨rfl, rfl⟩
      have hcnt : Lib.countB ⟨⟨s⟩⟩ ⟨⟨[c]⟩⟩ = s.count c := Lib.count_one c s
      have hcut : (Lib.splitB ⟨⟨[c]⟩⟩ 0 (s.count c) ⟨⟨s⟩⟩).map (·.data.toList) = cutU c s := by rw [Lib.splitB_data]; exact cutU_split c s
      have hlen := Lib.splitB_all ⟨⟨[c]⟩⟩ (Nat.le_refl 1) 0 _ ⟨⟨s⟩⟩ hcnt
      rw [hcnt]
      generalize Lib.splitB ⟨⟨[c]⟩⟩ 0 (s.count c) ⟨⟨s⟩⟩ = L at hcut hlen
      rw [← hcut, ← hlen]
      refine ⟨kept_alloc _ _, .c _ _ ?_⟩
      have e1 : L.length = ((List.map (fun x : ByteArray => x.data.toList) L).map fun p => [D.str p]).length := by simp
      rw [e1]
      refine .list 1 _ _ 0 _ (fun i => match L[i]? with | some x => .string x | none => undef) (by simp; omega) (by decide) (by simp) (Nat.le_refl _) (fun h => Nat.lt_irrefl _ (hA _ h)) ?_ ?_
      · intro i hi
        have hi' : i < L.length := by simpa using hi
        unfold cellAt
        simp [hi']
      · intro i d hd
        have hflat : ((List.map (fun x : ByteArray => x.data.toList) L).map fun p => [D.str p]).flatten = L.map fun x => D.str x.data.toList := by
          clear hd hlen hcut e1
          induction L with
          | nil => rfl
          | cons a r ih => simp only [List.map_cons, List.flatten_cons, ih]; rfl
        rw [hflat, List.getElem?_map] at hd
        cases hx : L[i]? with
        | none => rw [hx] at hd; cases hd
        | some x =>
          rw [hx] at hd
          cases hd
          have : x = ⟨⟨x.data.toList⟩⟩ := by cases x; simp
          show RepD _ _ (D.str x.data.toList) (.string x)
          conv => rhs; rw [this]
          exact .str _
    · cases hG
  · cases hG
def scansM (a b : Nat) : List (D × C) := [(.int .i64 2, .clo 80 [.ptr a 0]), (.int .i64 3, .clo 80 [.ptr b 0]), (.int .i64 9, .d (.fn 64)), (.int .i64 5, .d (.fn 65)), (.int .i64 4, .d (.fn 66)), (.int .i64 7, .d (.fn 67)), (.int .i64 6, .d (.fn 68))]
def T79 (xs : List V) (h : Hp) (K : V → Hp → Prop) : Prop := xs = [] ∧ K (.c (.map h.next)) ⟨h.next + 1 + 1 + 1, (h.next + 1 + 1, .cells [.d (.int .i64 3)]) :: (h.next + 1, .cells [.d (.int .i64 1)]) :: (h.next, .map (scansM (h.next + 1) (h.next + 1 + 1))) :: h.obs⟩
theorem ev_mapSet {cl : Call} {e : Env} {nx y : Nat} {ob ob' : List (Nat × Ob)} {m k x : Opd} {wd : Bool} {ks : List Nat} {es es' : List (D × C)} {kd : D} {q : C} (hm : ev e m = .c (.map y)) (hk : keyD (ev e k) = some kd) (hx : ev e x = .c q) (ha : q.isAny = false) (ho : okK wd ks kd = true) (hl : look ob y = some (.map es)) (hs : setK wd ks kd q es = some es')
    (hp : put ob y (.map es') = some ob') : eval cl e ⟨nx, ob⟩ (.mapSet wd ks m k x) = some (.tup [], ⟨nx, ob'⟩) := by
  simp only [eval, hm, hk, hx, ha, ho, hl, hs, hp]
set_option maxRecDepth 8000 in
theorem hok79 {P : Program} {m : Int} (fk : FnOk P ⟨[], [], HP, glb m⟩ 42 5 c79 [.t 0]) (h : HeapOk P (glb m) 63 T94) : HeapOk P (glb m) 42 T79 := by
  refine heap_ok fk (callh_cons h (callh_nil (callOk_nil _ _))) ?_
  rintro xs ⟨nx, ob⟩ K ⟨rfl, hk⟩
  unfold c79
  repeat' first
    | refine GoH ?_|refine ZB rfl ?_|refine ZC rfl ?_
    | (refine step_hcall rfl ⟨_, rfl, ?_⟩; dsimp only)
    | (refine ZC (ev_mapSet rfl rfl rfl rfl rfl (by first | exact look_hd | exact look_tl (by omega) look_hd | exact look_tl (by omega) (look_tl (by omega) look_hd)) rfl (by first | exact put_hd | exact put_tl (by omega) put_hd | exact put_tl (by omega) (put_tl (by omega) put_hd))) ?_)
  exact ⟨_, rfl, hk⟩
theorem classOf_cases (c : UInt8) : classOf c = 0 ∨ classOf c = 1 ∨ classOf c = 2 ∨ classOf c = 3 ∨ classOf c = 4 ∨ classOf c = 5 ∨ classOf c = 6 ∨ classOf c = 7 ∨ classOf c = 8 ∨ classOf c = 9 := by
  unfold classOf memberT
  simp only [classIn]
  repeat' split
  all_goals simp
theorem evalR_hcall {cl : Call} {e : Env} {h h' : Hp} {f : Nat} {args : List Opd} {v : V} {T : List V → Hp → (V → Hp → Prop) → Prop} (hT : cl.heap f = some T) (hk : T (evs e args) h (fun v2 h2 => v2 = v ∧ h2 = h')) : evalR cl e h (.hcall f args) v h' := by
  unfold evalR
  simp only [opWp, hT]
  exact hk
theorem G80_k {c : UInt8} {k : Nat} (h : classOf c = k) : G80 [.c (.int .u8 c.toNat)] = some (.c (.int .i64 k)) := by rw [G80_eq, h]
def single (s : List UInt8) (k : Int) : Prop := ∃ c, s[0]? = some c ∧ ((classOf c = 2 ∧ k = 1 ∧ ∀ b ∈ s, nameC b = true) ∨ (classOf c = 5 ∧ k = 2 ∧ s ≠ [46] ∧ hasPre s [47, 42] = false ∧ ∀ b ∈ s, (classOf b : Int) = 5) ∨ (classOf c = 6 ∧ k = 6 ∧ s.length = 1))
theorem hasPre_first {s : List UInt8} {c : UInt8} (h : s[0]? = some c) (hc : classOf c ≠ 5) : hasPre s [47, 42] = false := by
  cases s with
  | nil => rfl
  | cons b r =>
    simp at h
    subst h
    have : b ≠ 47 := by intro e; subst e; revert hc; decide
    cases r with
    | nil => rfl
    | cons d r => simp [hasPre, this]
theorem single_H78 {s : List UInt8} {k : Int} (h : single s k) : H78 s := by
  obtain ⟨c, h0, h⟩ := h
  refine .inr ⟨c, h0, ?_⟩
  rcases h with ⟨h1, _⟩ | ⟨h1, _, _, h2, _⟩ | ⟨h1, _⟩
  · exact ⟨by omega, by omega, hasPre_first h0 (by omega)⟩
  · exact ⟨by omega, by omega, h2⟩
  · exact ⟨by omega, by omega, hasPre_first h0 (by omega)⟩
theorem sub_zero {s s' : List UInt8} {i : Int} {n : Nat} (hs : s' = (s.take n).drop i.toNat) (hn : n = s.length) (hi : i = 0) : s' = s := by
  subst hi
  subst hn
  simpa using hs
section
variable {cl : Call} {e : Env} {nx : Nat} {ob ob' : List (Nat × Ob)} {x y : Opd}
theorem ev_slice_own {z n sz a b : Nat} {l : List (List D)} {lo hi mx : Option Opd} (hx : ev e x = .c (.own z n)) (hl : look ob z = some (.row sz l)) (hn : n = l.length) (hb : bounds e l.length lo hi mx = some (a, b)) :
    eval cl e ⟨nx, ob⟩ (.slice sz x lo hi mx) = some (.c (.d (.list sz ((l.take b).drop a))), ⟨nx, C.shed ob (.own z n)⟩) := by
  have h1 : sized sz sz l = true := by simp [sized]
  simp only [eval, hx, C.lst, toD_own (h := ⟨nx, ob⟩) hl hn, h1, hb]
theorem bounds_full {n : Nat} {o o' : Opd} (h1 : asInt (ev e o) = some (n : Int)) (h2 : asInt (ev e o') = some (n : Int)) : bounds e n none (some o) (some o') = some (0, n) := by
  have c : (0 : Int) ≤ n ∧ (n : Int) ≤ (n : Int) := by omega
  have e1 : bnd e (some n) n (some o') = some n := by simp only [bnd, h2, if_pos c, Int.toNat_natCast]
  have e2 : bnd e (dflt n (some o')) n (some o) = some n := by simp only [bnd, h1, if_pos c, Int.toNat_natCast]
  unfold bounds
  rw [e1]
  simp only [e2]
  rfl
theorem ev_app_own {z n sz : Nat} {l ys : List (List D)} (hx : ev e x = .c (.own z n)) (hy : ev e y = .c (.d (.list sz ys))) (hl : look ob z = some (.row sz l)) (hn : n = l.length) (hr : l.length + ys.length ≤ room) (hp : put ob z (.row sz (l ++ ys)) = some ob') :
    eval cl e ⟨nx, ob⟩ (.append x y sz) = some (.c (.own z (l ++ ys).length), ⟨nx, ob'⟩) := by
  have h1 : sized sz sz ys = true := by simp [sized]
  have h2 : True ∧ n = l.length ∧ l.length + ys.length ≤ room := ⟨trivial, hn, hr⟩
  simp only [eval, hy, C.lst, C.toD, h1, hx, hl]
  rw [if_pos h2, hp]
end
theorem look_more {x : Nat} {o : Ob} {ob : List (Nat × Ob)} (hne : look ob x = none) (y : Nat) (p : Ob) (h : look ob y = some p) : look ((x, o) :: ob) y = some p := by
  by_cases hxy : x = y
  · subst hxy; rw [hne] at h; cases h
  · exact look_tl hxy h
def tokD (e : List D) : Prop := ∃ (kind a b code : Int) (text : List UInt8), e = [.int .i64 kind, .int .i64 a, .int .i64 b, .str text, .int .i64 code]
def tokL (k : Int) (s : List UInt8) : List D := [.int .i64 k, .int .i64 0, .int .i64 s.length, .str s, .int .i64 0]
def R37 (s : List UInt8) (r : DV) : Prop := ∃ l : List (List D), r = .c (.list 5 l) ∧ (∀ e ∈ l, tokD e) ∧ (s = [] → l = []) ∧ ∀ k, single s k → l = [tokL k s]
end Go.Am
