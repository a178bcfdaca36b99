/-
  The reference's Same.
-/
import Derived.Test.YtgbefhljbdjncaaDoorNB
import Derived.Test.YtgbefhljbdjncaaDoorNJ
import Derived.Test.YtgbefhljbdjncaaDoorMJ
namespace Go.Am
open Go
def G59 : List DV → Option DV
  | [.c (.list sz l), .c (.str sep)] => match strsOf l with
    | some ss => if (sz = 1 ∨ ss = []) ∧ joinOk ss sep = true then some (.c (.str (joinOf ss sep))) else none
    | none => none
  | _ => none
theorem kept_below {w w' : World} (h : RowKit.Below w.heap.size w w') : Kept (fun _ => False) w w' := ⟨h.os, h.tape, h.output, h.size, fun b hb _ => h.block b hb⟩
theorem map_data : ∀ ss : List (List UInt8), (ss.map fun s => (⟨⟨s⟩⟩ : ByteArray)).map (fun x => x.data.toList) = ss
  | [] => rfl
  | s :: r => by simp only [List.map_cons, map_data r]
theorem ofStrs_flat : ∀ ss : List (List UInt8), (ofStrs ss).flatten = ss.map D.str
  | [] => rfl
  | s :: r => by
    have := ofStrs_flat r
    show ([D.str s] :: ofStrs r).flatten = _
    simp only [List.flatten_cons, this]
    rfl
theorem pok59 (m : Int) : PureOk Go.Proofs.Tryd.prog (glb m) 59 G59 := by
  refine .inl ⟨enters_of (fn := Go.Proofs.Tryd.f59) (c := (Go.Proofs.Tryd.f59.body).getD .skip) (by kernel_rfl) (by kernel_rfl) (by kernel_rfl), ?_⟩
  intro w A ds vs r hgl hA hds hG
  unfold G59 at hG
  split at hG
  · rename_i sz l sep
    split at hG
    · rename_i ss hss
      split at hG
      · rename_i hok
        cases hG
        obtain ⟨hsz, hok⟩ := hok
        obtain rfl := strsOf_get hss
        simp only [joinOk, Bool.and_eq_true, decide_eq_true_eq] at hok
        obtain ⟨hl1, hl2⟩ := hok
        unfold room at hl1 hl2
        obtain ⟨u, v, rfl, h1, h2⟩ := ds_two hds
        obtain rfl := repdv_str h2
        cases h1 with
        | c _ _ h1 =>
          generalize hl : ofStrs ss = l at h1
          cases h1 with
          | nil _ a c =>
            have : ss = [] := by cases ss with | nil => rfl | cons b r => cases hl
            subst this
            refine Calls.mono (Go.Proofs.Any.strings_Join_none Go.Proofs.Tryd.lays156 Go.Proofs.Tryd.extra156 a c ⟨⟨sep⟩⟩ w) ?_
            rintro e w' ⟨rfl, rfl⟩
            exact ⟨Kept.refl _ _, .c _ _ (.str _)⟩
          | list _ _ b off c us hpos hz' hse hc hnA hcell hrepd =>
            have hlen : l.length = ss.length := by rw [← hl]; exact ofStrs_len ss
            have hne : ss ≠ [] := by intro e; rw [e] at hlen; simp only [List.length_nil] at hlen; omega
            have hs1 : sz = 1 := hsz.resolve_right hne
            subst hs1
            rw [hlen]
            have hx : ∀ (j : Nat) x, (ss.map fun s => (⟨⟨s⟩⟩ : ByteArray))[j]? = some x → w.cell? ⟨b, off + j, none⟩ = some (.string x) := by
              intro j x hj
              rw [List.getElem?_map] at hj
              cases hsj : ss[j]? with
              | none => rw [hsj] at hj; cases hj
              | some s =>
                rw [hsj] at hj
                cases hj
                have hjl : j < ss.length := (List.getElem?_eq_some_iff.1 hsj).1
                have e1 : cellAt w b (off + j) = some (us j) := hcell j (by omega)
                have e2 : l.flatten[j]? = some (.str s) := by rw [← hl, ofStrs_flat, List.getElem?_map, hsj]; rfl
                have e3 := hrepd j _ e2
                have e4 : us j = .string ⟨⟨s⟩⟩ := by
                  generalize us j = z at e3
                  cases e3
                  rfl
                rw [← e4]
                exact e1
            have hb : b < w.heap.size := by
              have := hcell 0 (by omega)
              exact cellAt_lt this
            have key := Go.Proofs.Any.strings_Join Go.Proofs.Tryd.lays156 Go.Proofs.Tryd.extra156 b off c (ss.map fun s => (⟨⟨s⟩⟩ : ByteArray)) ⟨⟨sep⟩⟩ w hx hb (by simp; omega) (by simp; omega)
              (by rw [map_data]; have : (joinOf ss sep).length ≤ 140737488355328 := by omega
                  exact this)
            rw [List.length_map] at key
            refine Calls.mono key ?_
            rintro e w' ⟨rfl, hbel⟩
            refine ⟨kept_below hbel, .c _ _ ?_⟩
            rw [map_data]
            exact .str _
      · cases hG
    · cases hG
  · cases hG

def G58 : List DV → Option DV
  | [.c (.bool b)] => some (.c (.str (if b then [95] else [])))
  | _ => none
theorem w58 (ds : List DV) (r : DV) (h : G58 ds = some r) : awp (tbl []) c58 (PureQ [.t 2] r) ⟨argE 0 (dvArgs ds), ⟨0, []⟩⟩ := by
  unfold G58 at h
  split at h
  · rename_i b
    cases h
    unfold c58
    cases b <;> (repeat' first | (with_reducible first|refine Za ?_|refine Zb ?_|refine Zc ?_|refine Zd ?_|refine Ze ?_|refine Zf ?_|refine Zg ?_|refine Zh ?_|refine Zi ?_|refine Zj ?_|refine Zk ?_|refine Zl ?_|refine Zm ?_|refine Zn ?_|refine Zo ?_|refine Zp ?_|refine Zq ?_|refine Zr ?_|refine Zs ?_|refine Zt ?_|refine Zu ?_)|(with_reducible refine Zv (by decide) ?_)|((with_reducible apply Zw);rfl)|((with_reducible apply Zx);rfl;decide)|((with_reducible apply Zy);rfl)|((with_reducible apply Zz);rfl)|((with_reducible apply ZA);rfl)|refine ZB rfl ?_|refine ZC rfl ?_) <;> exact ⟨_, rfl, rfl⟩
  · cases h
theorem pok58 (m : Int) : PureOk Go.Proofs.Tryd.prog (glb m) 58 G58 := pure_ok (fn58 m) (callOk_nil _ _) w58
/-- A shape's pattern. -/
def G34 : List DV → Option DV
  | [.agg [.list sz l, .bool a, .bool b]] => match strsOf l with
    | some ss => if (sz = 1 ∨ ss = []) ∧ joinOk ss [95] = true then some (.c (.str (textOf ⟨ss, a, b⟩))) else none
    | none => none
  | _ => none
theorem evalR_vfn {cl : Call} {e : Env} {h : Hp} {f : Opd} {g : Nat} {args : List Opd} {G : List DV → Option DV} {ds : List DV} {q : DV} {v : V} (hx : ev e f = .c (.d (.fn g))) (hh : cl.heap g = none) (hp : cl.pure g = some G) (hd : toDVs h (evs e args) = some ds) (hG : G ds = some q) (hv : q.toV = some v) (hf : q.flat = true) :
    evalR cl e h (.vcall f args) v h := by
  unfold evalR
  simp only [opWp]
  rw [hx]
  exact vcall_pure hh hp hd hG hv hf ⟨rfl, rfl⟩
set_option maxRecDepth 8000 in
set_option maxHeartbeats 2000000 in
theorem w34 (ds : List DV) (r : DV) (h : G34 ds = some r) : awp (tbl [(58, G58), (59, G59)]) c34 (PureQ [.t 2] r) ⟨argE 0 (dvArgs ds), ⟨0, []⟩⟩ := by
  unfold G34 at h
  split at h
  · rename_i sz l a b
    split at h
    · rename_i ss hss
      split at h
      · rename_i hok
        cases h
        have h59 : G59 [.c (.list sz l), .c (.str [95])] = some (.c (.str (joinOf ss [95]))) := by simp only [G59, hss, if_pos hok]
        have h58a : G58 [.c (.bool a)] = some (.c (.str (if a then [95] else []))) := rfl
        have h58b : G58 [.c (.bool b)] = some (.c (.str (if b then [95] else []))) := rfl
        have hl : (joinOf ss [95]).length ≤ 2147483648 := by
          have := hok.2
          simp only [joinOk, Bool.and_eq_true, decide_eq_true_eq] at this
          exact this.2
        have hla : (if a = true then [95] else ([] : List UInt8)).length ≤ 1 := by split <;> simp
        have hlb : (if b = true then [95] else ([] : List UInt8)).length ≤ 1 := by split <;> simp
        unfold c34
        repeat' first
          | (with_reducible first|refine Za ?_|refine Zb ?_|refine Zc ?_|refine Zd ?_|refine Ze ?_|refine Zf ?_|refine Zg ?_|refine Zh ?_|refine Zi ?_|refine Zj ?_|refine Zk ?_|refine Zl ?_|refine Zm ?_|refine Zn ?_|refine Zo ?_|refine Zp ?_|refine Zq ?_|refine Zr ?_|refine Zs ?_|refine Zt ?_|refine Zu ?_)|(with_reducible refine Zv (by decide) ?_)|((with_reducible apply Zw);rfl)|((with_reducible apply Zx);rfl;decide)|((with_reducible apply Zy);rfl)|((with_reducible apply Zz);rfl)|((with_reducible apply ZA);rfl)|refine ZB rfl ?_|refine ZC rfl ?_
          | with_reducible refine ZS ?_
          | refine ZX rfl (ev_adds rfl rfl (by first | omega | (simp only [List.length_append]; omega))) ?_
          | refine ZY (ev_pcall rfl rfl h59 rfl rfl) (by (repeat' first|exact True.intro|refine ⟨?_, ?_⟩|exact .inl rfl|exact .inr (.inl rfl)|exact .inr (.inr rfl)|rfl)) ?_
          | refine ZZ (evalR_vfn rfl rfl rfl rfl h58a rfl rfl) (by (repeat' first|exact True.intro|refine ⟨?_, ?_⟩|exact .inl rfl|exact .inr (.inl rfl)|exact .inr (.inr rfl)|rfl)) ?_
          | refine ZZ (evalR_vfn rfl rfl rfl rfl h58b rfl rfl) (by (repeat' first|exact True.intro|refine ⟨?_, ?_⟩|exact .inl rfl|exact .inr (.inl rfl)|exact .inr (.inr rfl)|rfl)) ?_
          | (with_reducible first|refine ZS ?_|refine ZT ?_)|((with_reducible apply ZU);rfl)|((with_reducible apply ZV);rfl;decide)|((with_reducible apply ZW);rfl)|refine ZX rfl rfl ?_|refine ZY rfl (by (repeat' first|exact True.intro|refine ⟨?_, ?_⟩|exact .inl rfl|exact .inr (.inl rfl)|exact .inr (.inr rfl)|rfl)) ?_
        exact ⟨_, rfl, rfl⟩
      · cases h
    · cases h
  · cases h
theorem pok34 (m : Int) : PureOk Go.Proofs.Tryd.prog (glb m) 34 G34 := pure_ok (fn34 m) (callOk_cons (pok58 m) (callOk_cons (pok59 m) (callOk_nil _ _))) w34
end Go.Am
namespace Go.Am
open Go
/-! ### The reference's Same -/
def G33 : List DV → Option DV
  | [.agg [.list _ l, .bool a, .bool b], .agg [.list _ l', .bool a', .bool b']] => match strsOf l, strsOf l' with
    | some ss, some ss' => if ss.length ≤ room ∧ ss'.length ≤ room then some (.c (.bool (a == a' && b == b' && ss == ss'))) else none
    | _, _ => none
  | _ => none
def c33r : ACode := match c33 with
  | .seq _ (.seq _ x) => x
  | x => x
set_option maxRecDepth 8000 in
set_option maxHeartbeats 4000000 in
theorem w33 (ds : List DV) (r : DV) (h : G33 ds = some r) : awp (tbl []) c33 (PureQ [.t 4] r) ⟨argE 0 (dvArgs ds), ⟨0, []⟩⟩ := by
  unfold G33 at h
  split at h
  · rename_i sz l a b sz' l' a' b'
    split at h
    · rename_i ss ss' hss hss'
      obtain rfl := strsOf_get hss
      obtain rfl := strsOf_get hss'
      split at h
      · rename_i hroom
        obtain ⟨hr1, hr2⟩ := hroom
        unfold room at hr1 hr2
        cases h
        have hl1 := ofStrs_len ss
        have hl2 := ofStrs_len ss'
        by_cases hab : a = a' ∧ b = b' ∧ ss.length = ss'.length
        · obtain ⟨rfl, rfl, hlen⟩ := hab
          have e : (a == a && b == b && ss == ss') = (ss == ss') := by simp
          rw [e]
          have hna : (!(a == a)) = false := by simp
          have hnb : (!(b == b)) = false := by simp
          have hgo : awp (tbl []) c33r (PureQ [.t 4] (.c (.bool (ss == ss')))) ⟨[(2, .c (.ptr 0 0)), (3, .c (.ptr 1 0))], ⟨2, [(1, .cells [.d (.list sz' (ofStrs ss')), .d (.bool a), .d (.bool b)]), (0, .cells [.d (.list sz (ofStrs ss)), .d (.bool a), .d (.bool b)])]⟩⟩ := by
            unfold c33r c33
            dsimp only
            repeat' first | (with_reducible first|refine Za ?_|refine Zb ?_|refine Zc ?_|refine Zd ?_|refine Ze ?_|refine Zf ?_|refine Zg ?_|refine Zh ?_|refine Zi ?_|refine Zj ?_|refine Zk ?_|refine Zl ?_|refine Zm ?_|refine Zn ?_|refine Zo ?_|refine Zp ?_|refine Zq ?_|refine Zr ?_|refine Zs ?_|refine Zt ?_|refine Zu ?_)|(with_reducible refine Zv (by decide) ?_)|((with_reducible apply Zw);rfl)|((with_reducible apply Zx);rfl;decide)|((with_reducible apply Zy);rfl)|((with_reducible apply Zz);rfl)|((with_reducible apply ZA);rfl)|refine ZB rfl ?_|refine ZC rfl ?_
            refine awp_loop (fun n st => ∃ i : Nat, i ≤ ss.length ∧ n = ss.length - i + 1 ∧ ss.take i = ss'.take i ∧
              st = ⟨[(2, .c (.ptr 0 0)), (3, .c (.ptr 1 0)), (5, .c (.d (.int .i64 (i : Nat))))], ⟨2, [(1, .cells [.d (.list sz' (ofStrs ss')), .d (.bool a), .d (.bool b)]), (0, .cells [.d (.list sz (ofStrs ss)), .d (.bool a), .d (.bool b)])]⟩⟩) (ss.length + 1) ?_ (by rintro st ⟨i, h1, h2, _⟩; omega) ?_
            · exact weak_keep [2, 3, 5] rfl ⟨0, by omega, by omega, by simp, rfl⟩
            · rintro n K hK st ⟨i, hi, hn, hpre, rfl⟩
              by_cases hend : i = ss.length
              · have e2 : (ss == ss') = true := by
                  have h1 : ss.take i = ss := List.take_of_length_le (by omega)
                  have h2 : ss'.take i = ss' := List.take_of_length_le (by omega)
                  rw [h1, h2] at hpre
                  simp [hpre]
                rw [e2]
                repeat' first | ((with_reducible first|apply ZD|apply ZE|apply ZF|apply ZG|apply ZH|apply ZI);rfl;rfl;all_goals (intro hc;first|(exfalso;omega)|skip))|((with_reducible first|apply ZJ|apply ZK);rfl;rfl;all_goals (intro hc;first|contradiction|skip))|((with_reducible first|apply ZL|apply ZM);rfl;rfl;omega;omega)|((with_reducible first|apply ZN|apply ZO);rfl;rfl;omega;omega;intro c hget hc)|((with_reducible apply ZP);rfl;(first|exact .inl rfl|assumption);rfl;rfl;omega;omega;omega;intro s' hs' hl')|((with_reducible apply ZQ);rfl;rfl;rfl;omega;omega;omega;intro s' hs' hl')|((with_reducible apply ZR);rfl) | (with_reducible first|refine Za ?_|refine Zb ?_|refine Zc ?_|refine Zd ?_|refine Ze ?_|refine Zf ?_|refine Zg ?_|refine Zh ?_|refine Zi ?_|refine Zj ?_|refine Zk ?_|refine Zl ?_|refine Zm ?_|refine Zn ?_|refine Zo ?_|refine Zp ?_|refine Zq ?_|refine Zr ?_|refine Zs ?_|refine Zt ?_|refine Zu ?_)|(with_reducible refine Zv (by decide) ?_)|((with_reducible apply Zw);rfl)|((with_reducible apply Zx);rfl;decide)|((with_reducible apply Zy);rfl)|((with_reducible apply Zz);rfl)|((with_reducible apply ZA);rfl)|refine ZB rfl ?_|refine ZC rfl ?_
                exact ⟨_, rfl, rfl⟩
              · have hlt : i < ss.length := by omega
                have hlt' : i < ss'.length := by omega
                have hx : (ofStrs ss)[(i : Int).toNat]? = some [.str ss[i]] := by simp [ofStrs_get, hlt]
                have hx' : (ofStrs ss')[(i : Int).toNat]? = some [.str ss'[i]] := by simp [ofStrs_get, hlt']
                by_cases heq : ss[i] = ss'[i]
                · repeat' first
                    | ((with_reducible first|apply ZD|apply ZE|apply ZF|apply ZG|apply ZH|apply ZI);rfl;rfl;all_goals (intro hc;first|(exfalso;omega)|skip))|((with_reducible first|apply ZJ|apply ZK);rfl;rfl;all_goals (intro hc;first|contradiction|skip))|((with_reducible first|apply ZL|apply ZM);rfl;rfl;omega;omega)|((with_reducible first|apply ZN|apply ZO);rfl;rfl;omega;omega;intro c hget hc)|((with_reducible apply ZP);rfl;(first|exact .inl rfl|assumption);rfl;rfl;omega;omega;omega;intro s' hs' hl')|((with_reducible apply ZQ);rfl;rfl;rfl;omega;omega;omega;intro s' hs' hl')|((with_reducible apply ZR);rfl)
                    | (with_reducible first|refine Za ?_|refine Zb ?_|refine Zc ?_|refine Zd ?_|refine Ze ?_|refine Zf ?_|refine Zg ?_|refine Zh ?_|refine Zi ?_|refine Zj ?_|refine Zk ?_|refine Zl ?_|refine Zm ?_|refine Zn ?_|refine Zo ?_|refine Zp ?_|refine Zq ?_|refine Zr ?_|refine Zs ?_|refine Zt ?_|refine Zu ?_)|(with_reducible refine Zv (by decide) ?_)|((with_reducible apply Zw);rfl)|((with_reducible apply Zx);rfl;decide)|((with_reducible apply Zy);rfl)|((with_reducible apply Zz);rfl)|((with_reducible apply ZA);rfl)|refine ZB rfl ?_|refine ZC rfl ?_
                    | with_reducible refine ZS ?_
                    | refine ZY (ev_idx rfl rfl (by omega) hx rfl) (by (repeat' first|exact True.intro|refine ⟨?_, ?_⟩|exact .inl rfl|exact .inr (.inl rfl)|exact .inr (.inr rfl)|rfl)) ?_
                    | refine ZY (ev_idx rfl rfl (by omega) hx' rfl) (by (repeat' first|exact True.intro|refine ⟨?_, ?_⟩|exact .inl rfl|exact .inr (.inl rfl)|exact .inr (.inr rfl)|rfl)) ?_
                    | refine ZX rfl (ev_nes_f rfl rfl heq) ?_
                    | (with_reducible first|refine ZS ?_|refine ZT ?_)|((with_reducible apply ZU);rfl)|((with_reducible apply ZV);rfl;decide)|((with_reducible apply ZW);rfl)|refine ZX rfl rfl ?_|refine ZY rfl (by (repeat' first|exact True.intro|refine ⟨?_, ?_⟩|exact .inl rfl|exact .inr (.inl rfl)|exact .inr (.inr rfl)|rfl)) ?_
                  refine hK _ (weak_keep [2, 3, 5] rfl ⟨i + 1, by omega, by omega, ?_, rfl⟩)
                  rw [List.take_add_one, List.take_add_one, hpre, List.getElem?_eq_getElem hlt, List.getElem?_eq_getElem hlt', heq]
                · have e2 : (ss == ss') = false := by
                    refine Bool.eq_false_iff.2 fun h => heq ?_
                    have : ss = ss' := by simpa using h
                    subst this
                    rfl
                  rw [e2]
                  repeat' first
                    | ((with_reducible first|apply ZD|apply ZE|apply ZF|apply ZG|apply ZH|apply ZI);rfl;rfl;all_goals (intro hc;first|(exfalso;omega)|skip))|((with_reducible first|apply ZJ|apply ZK);rfl;rfl;all_goals (intro hc;first|contradiction|skip))|((with_reducible first|apply ZL|apply ZM);rfl;rfl;omega;omega)|((with_reducible first|apply ZN|apply ZO);rfl;rfl;omega;omega;intro c hget hc)|((with_reducible apply ZP);rfl;(first|exact .inl rfl|assumption);rfl;rfl;omega;omega;omega;intro s' hs' hl')|((with_reducible apply ZQ);rfl;rfl;rfl;omega;omega;omega;intro s' hs' hl')|((with_reducible apply ZR);rfl)
                    | (with_reducible first|refine Za ?_|refine Zb ?_|refine Zc ?_|refine Zd ?_|refine Ze ?_|refine Zf ?_|refine Zg ?_|refine Zh ?_|refine Zi ?_|refine Zj ?_|refine Zk ?_|refine Zl ?_|refine Zm ?_|refine Zn ?_|refine Zo ?_|refine Zp ?_|refine Zq ?_|refine Zr ?_|refine Zs ?_|refine Zt ?_|refine Zu ?_)|(with_reducible refine Zv (by decide) ?_)|((with_reducible apply Zw);rfl)|((with_reducible apply Zx);rfl;decide)|((with_reducible apply Zy);rfl)|((with_reducible apply Zz);rfl)|((with_reducible apply ZA);rfl)|refine ZB rfl ?_|refine ZC rfl ?_
                    | with_reducible refine ZS ?_
                    | refine ZY (ev_idx rfl rfl (by omega) hx rfl) (by (repeat' first|exact True.intro|refine ⟨?_, ?_⟩|exact .inl rfl|exact .inr (.inl rfl)|exact .inr (.inr rfl)|rfl)) ?_
                    | refine ZY (ev_idx rfl rfl (by omega) hx' rfl) (by (repeat' first|exact True.intro|refine ⟨?_, ?_⟩|exact .inl rfl|exact .inr (.inl rfl)|exact .inr (.inr rfl)|rfl)) ?_
                    | refine ZX rfl (ev_nes_t rfl rfl heq) ?_
                    | (with_reducible first|refine ZS ?_|refine ZT ?_)|((with_reducible apply ZU);rfl)|((with_reducible apply ZV);rfl;decide)|((with_reducible apply ZW);rfl)|refine ZX rfl rfl ?_|refine ZY rfl (by (repeat' first|exact True.intro|refine ⟨?_, ?_⟩|exact .inl rfl|exact .inr (.inl rfl)|exact .inr (.inr rfl)|rfl)) ?_
                  exact ⟨_, rfl, rfl⟩
          cases a <;> cases b <;>
          (unfold c33
           repeat' first
            | exact weak_keep [2, 3] rfl hgo
            | ((with_reducible first|apply ZD|apply ZE|apply ZF|apply ZG|apply ZH|apply ZI);rfl;rfl;all_goals (intro hc;first|(exfalso;omega)|skip))|((with_reducible first|apply ZJ|apply ZK);rfl;rfl;all_goals (intro hc;first|contradiction|skip))|((with_reducible first|apply ZL|apply ZM);rfl;rfl;omega;omega)|((with_reducible first|apply ZN|apply ZO);rfl;rfl;omega;omega;intro c hget hc)|((with_reducible apply ZP);rfl;(first|exact .inl rfl|assumption);rfl;rfl;omega;omega;omega;intro s' hs' hl')|((with_reducible apply ZQ);rfl;rfl;rfl;omega;omega;omega;intro s' hs' hl')|((with_reducible apply ZR);rfl)
            | (with_reducible first|refine Za ?_|refine Zb ?_|refine Zc ?_|refine Zd ?_|refine Ze ?_|refine Zf ?_|refine Zg ?_|refine Zh ?_|refine Zi ?_|refine Zj ?_|refine Zk ?_|refine Zl ?_|refine Zm ?_|refine Zn ?_|refine Zo ?_|refine Zp ?_|refine Zq ?_|refine Zr ?_|refine Zs ?_|refine Zt ?_|refine Zu ?_)|(with_reducible refine Zv (by decide) ?_)|((with_reducible apply Zw);rfl)|((with_reducible apply Zx);rfl;decide)|((with_reducible apply Zy);rfl)|((with_reducible apply Zz);rfl)|((with_reducible apply ZA);rfl)|refine ZB rfl ?_|refine ZC rfl ?_)
        · have e : (a == a' && b == b' && ss == ss') = false := by
            refine Bool.eq_false_iff.2 fun h => hab ?_
            simp only [Bool.and_eq_true, beq_iff_eq] at h
            exact ⟨h.1.1, h.1.2, by rw [h.2]⟩
          rw [e]
          have hne : a = a' → b = b' → ss.length ≠ ss'.length := fun h1 h2 h3 => hab ⟨h1, h2, h3⟩
          cases a <;> cases a' <;> cases b <;> cases b' <;>
          ((try have hne := hne rfl rfl)
           unfold c33
           repeat' first
            | ((with_reducible first|apply ZD|apply ZE|apply ZF|apply ZG|apply ZH|apply ZI);rfl;rfl;all_goals (intro hc;first|(exfalso;omega)|skip))|((with_reducible first|apply ZJ|apply ZK);rfl;rfl;all_goals (intro hc;first|contradiction|skip))|((with_reducible first|apply ZL|apply ZM);rfl;rfl;omega;omega)|((with_reducible first|apply ZN|apply ZO);rfl;rfl;omega;omega;intro c hget hc)|((with_reducible apply ZP);rfl;(first|exact .inl rfl|assumption);rfl;rfl;omega;omega;omega;intro s' hs' hl')|((with_reducible apply ZQ);rfl;rfl;rfl;omega;omega;omega;intro s' hs' hl')|((with_reducible apply ZR);rfl)
            | (with_reducible first|refine Za ?_|refine Zb ?_|refine Zc ?_|refine Zd ?_|refine Ze ?_|refine Zf ?_|refine Zg ?_|refine Zh ?_|refine Zi ?_|refine Zj ?_|refine Zk ?_|refine Zl ?_|refine Zm ?_|refine Zn ?_|refine Zo ?_|refine Zp ?_|refine Zq ?_|refine Zr ?_|refine Zs ?_|refine Zt ?_|refine Zu ?_)|(with_reducible refine Zv (by decide) ?_)|((with_reducible apply Zw);rfl)|((with_reducible apply Zx);rfl;decide)|((with_reducible apply Zy);rfl)|((with_reducible apply Zz);rfl)|((with_reducible apply ZA);rfl)|refine ZB rfl ?_|refine ZC rfl ?_
           exact ⟨_, rfl, rfl⟩)
      · cases h
    · cases h
  · cases h
theorem pok33 (m : Int) : PureOk Go.Proofs.Tryd.prog (glb m) 33 G33 := pure_ok (fn33 m) (callOk_nil _ _) w33

end Go.Am
