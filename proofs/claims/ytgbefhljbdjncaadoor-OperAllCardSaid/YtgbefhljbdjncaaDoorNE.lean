/-
  The program's sequences, names, numbers: as the plain lexer says.
-/
import Derived.Test.YtgbefhljbdjncaaDoorMQ
import Derived.Test.YtgbefhljbdjncaaDoorMX
namespace Go.Am
open Go
def loQ (c : UInt8) : Nat := if c.toNat < 128 ∨ longOf c = 0 then 0 else lowB c
def hiQ (c : UInt8) : Nat := if c.toNat < 128 ∨ longOf c = 0 then 0 else topB c
def moreQ (c : UInt8) : Int := if c.toNat < 128 then 0 else (longOf c : Int) - 1
def FBeh (c : UInt8) : DV := .agg [.int .u8 (loQ c : Nat), .int .u8 (hiQ c : Nat), .int .i64 (moreQ c)]
def E123 : List DV → Option DV
  | [.c (.int .u8 n)] => if 0 ≤ n ∧ n < 256 then some (FBeh (UInt8.ofNat n.toNat)) else none
  | _ => none
theorem E123_eq (b : UInt8) : E123 [.c (.int .u8 b.toNat)] = some (FBeh b) := by
  have := b.toNat_lt
  have hb : (0 : Int) ≤ (b.toNat : Int) ∧ (b.toNat : Int) < 256 := by omega
  simp [E123, hb]
theorem fbeh {c : UInt8} {lo hi : Nat} {more : Int} (h1 : loQ c = lo) (h2 : hiQ c = hi) (h3 : moreQ c = more) : FBeh c = .agg [.int .u8 (lo : Nat), .int .u8 (hi : Nat), .int .i64 more] := by
  unfold FBeh
  rw [h1, h2, h3]
set_option maxRecDepth 8000 in
set_option maxHeartbeats 4000000 in
theorem we123 (ds : List DV) (r : DV) (h : E123 ds = some r) : awp (tbl []) c123 (PureQ [.cell 2 3 true] r) ⟨argE 0 (dvArgs ds), ⟨0, []⟩⟩ := by
  unfold E123 at h
  split at h
  · rename_i n
    split at h
    · rename_i hn
      have e0 : ((UInt8.ofNat n.toNat).toNat : Int) = n := by rw [UInt8.toNat_ofNat']; omega
      generalize UInt8.ofNat n.toNat = c at h e0
      subst e0
      cases h
      have hlong : longOf c = if c.toNat < 128 then 1 else if c.toNat < 194 ∨ 244 < c.toNat then 0 else if c.toNat < 224 then 2 else if c.toNat < 240 then 3 else 4 := rfl
      unfold c123
      repeat' first | (with_reducible first|refine Za ?_|refine Zb ?_|refine Zc ?_|refine Zd ?_|refine Ze ?_|refine Zf ?_|refine Zg ?_|refine Zh ?_|refine Zi ?_|refine Zj ?_|refine Zk ?_|refine Zl ?_|refine Zm ?_|refine Zn ?_|refine Zo ?_|refine Zp ?_|refine Zq ?_|refine Zr ?_|refine Zs ?_|refine Zt ?_|refine Zu ?_)|(with_reducible refine Zv (by decide) ?_)|((with_reducible apply Zw);rfl)|((with_reducible apply Zx);rfl;decide)|((with_reducible apply Zy);rfl)|((with_reducible apply Zz);rfl)|((with_reducible apply ZA);rfl) | ((with_reducible first|apply ZD|apply ZE|apply ZF|apply ZG|apply ZH|apply ZI);rfl;rfl;all_goals (intro hc;first|(exfalso;omega)|skip))|((with_reducible first|apply ZJ|apply ZK);rfl;rfl;all_goals (intro hc;first|contradiction|skip))|((with_reducible first|apply ZL|apply ZM);rfl;rfl;omega;omega)|((with_reducible first|apply ZN|apply ZO);rfl;rfl;omega;omega;intro c hget hc)|((with_reducible apply ZP);rfl;(first|exact .inl rfl|assumption);rfl;rfl;omega;omega;omega;intro s' hs' hl')|((with_reducible apply ZQ);rfl;rfl;rfl;omega;omega;omega;intro s' hs' hl')|((with_reducible apply ZR);rfl) | (with_reducible first|refine Za ?_|refine Zb ?_|refine Zc ?_|refine Zd ?_|refine Ze ?_|refine Zf ?_|refine Zg ?_|refine Zh ?_|refine Zi ?_|refine Zj ?_|refine Zk ?_|refine Zl ?_|refine Zm ?_|refine Zn ?_|refine Zo ?_|refine Zp ?_|refine Zq ?_|refine Zr ?_|refine Zs ?_|refine Zt ?_|refine Zu ?_)|(with_reducible refine Zv (by decide) ?_)|((with_reducible apply Zw);rfl)|((with_reducible apply Zx);rfl;decide)|((with_reducible apply Zy);rfl)|((with_reducible apply Zz);rfl)|((with_reducible apply ZA);rfl)|refine ZB rfl ?_|refine ZC rfl ?_
      · rw [fbeh (lo := 0) (hi := 0) (more := 0) (by unfold loQ; rw [if_pos (by omega)]) (by unfold hiQ; rw [if_pos (by omega)]) (by unfold moreQ; rw [if_pos (by omega)])]; exact ⟨_, rfl, rfl⟩
      all_goals
        first
        | (have hz : longOf c = 0 := by rw [hlong, if_neg (by omega), if_pos (by omega)]
           rw [fbeh (lo := 0) (hi := 0) (more := -1) (by unfold loQ; rw [if_pos (by omega)]) (by unfold hiQ; rw [if_pos (by omega)]) (by unfold moreQ; rw [if_neg (by omega), hz]; rfl)]; exact ⟨_, rfl, rfl⟩)
        | (have hz : longOf c = 2 := by rw [hlong, if_neg (by omega), if_neg (by omega), if_pos (by omega)]
           rw [fbeh (lo := 128) (hi := 191) (more := 1) (by unfold loQ lowB; rw [if_neg (by omega), if_neg (by omega), if_neg (by omega)]) (by unfold hiQ topB; rw [if_neg (by omega), if_neg (by omega), if_neg (by omega)]) (by unfold moreQ; rw [if_neg (by omega), hz]; rfl)]; exact ⟨_, rfl, rfl⟩)
        | (have hz : longOf c = 3 := by rw [hlong, if_neg (by omega), if_neg (by omega), if_neg (by omega), if_pos (by omega)]
           first
           | (rw [fbeh (lo := 160) (hi := 191) (more := 2) (by unfold loQ lowB; rw [if_neg (by omega), if_pos (by omega)]) (by unfold hiQ topB; rw [if_neg (by omega), if_neg (by omega), if_neg (by omega)]) (by unfold moreQ; rw [if_neg (by omega), hz]; rfl)]; exact ⟨_, rfl, rfl⟩)
           | (rw [fbeh (lo := 128) (hi := 159) (more := 2) (by unfold loQ lowB; rw [if_neg (by omega), if_neg (by omega), if_neg (by omega)]) (by unfold hiQ topB; rw [if_neg (by omega), if_pos (by omega)]) (by unfold moreQ; rw [if_neg (by omega), hz]; rfl)]; exact ⟨_, rfl, rfl⟩)
           | (rw [fbeh (lo := 128) (hi := 191) (more := 2) (by unfold loQ lowB; rw [if_neg (by omega), if_neg (by omega), if_neg (by omega)]) (by unfold hiQ topB; rw [if_neg (by omega), if_neg (by omega), if_neg (by omega)]) (by unfold moreQ; rw [if_neg (by omega), hz]; rfl)]; exact ⟨_, rfl, rfl⟩))
        | (have hz : longOf c = 4 := by rw [hlong, if_neg (by omega), if_neg (by omega), if_neg (by omega), if_neg (by omega)]
           first
           | (rw [fbeh (lo := 144) (hi := 191) (more := 3) (by unfold loQ lowB; rw [if_neg (by omega), if_neg (by omega), if_pos (by omega)]) (by unfold hiQ topB; rw [if_neg (by omega), if_neg (by omega), if_neg (by omega)]) (by unfold moreQ; rw [if_neg (by omega), hz]; rfl)]; exact ⟨_, rfl, rfl⟩)
           | (rw [fbeh (lo := 128) (hi := 143) (more := 3) (by unfold loQ lowB; rw [if_neg (by omega), if_neg (by omega), if_neg (by omega)]) (by unfold hiQ topB; rw [if_neg (by omega), if_neg (by omega), if_pos (by omega)]) (by unfold moreQ; rw [if_neg (by omega), hz]; rfl)]; exact ⟨_, rfl, rfl⟩)
           | (rw [fbeh (lo := 128) (hi := 191) (more := 3) (by unfold loQ lowB; rw [if_neg (by omega), if_neg (by omega), if_neg (by omega)]) (by unfold hiQ topB; rw [if_neg (by omega), if_neg (by omega), if_neg (by omega)]) (by unfold moreQ; rw [if_neg (by omega), hz]; rfl)]; exact ⟨_, rfl, rfl⟩))
    · cases h
  · cases h
theorem pe123 (m : Int) : PureOk Go.Proofs.Tryd.prog (glb m) 123 E123 := pure_ok (fn123 m) (callOk_nil _ _) we123
theorem more_long {c : UInt8} (h0 : moreQ c ≥ 0) : (longOf c : Int) = moreQ c + 1 := by
  have h := h0
  clear h0
  unfold moreQ at *
  split at h
  · rename_i hc
    rw [if_pos hc, longOf_low hc]
    rfl
  · rename_i hc
    rw [if_neg hc]
    omega
theorem more_neg {c : UInt8} (h : moreQ c < 0) : longOf c = 0 := by
  unfold moreQ at h
  split at h
  · omega
  · omega
theorem lo_eq {c : UInt8} (h : 1 ≤ moreQ c) : loQ c = lowB c ∧ hiQ c = topB c := by
  have h1 := more_long (c := c) (by omega)
  have h2 : ¬ c.toNat < 128 := fun hc => by rw [longOf_low hc] at h1; omega
  unfold loQ hiQ
  rw [if_neg (by omega), if_neg (by omega)]
  exact ⟨rfl, rfl⟩
set_option maxRecDepth 8000 in
set_option maxHeartbeats 4000000 in
theorem we111 (sz : Nat) (s : List UInt8) (_ : sz = 1 ∨ s = []) (hroom : s.length ≤ room) : awp (tbl [(123, E123)]) c111 (PureQ [.t 2, .t 3] (FTake s)) ⟨argE 0 (dvArgs [.c (.list sz (encB s))]), ⟨0, []⟩⟩ := by
  have hl : (encB s).length = s.length := encB_length s
  unfold room at hroom
  unfold FTake
  by_cases hs0 : s = []
  · subst hs0
    have hl0 : (encB ([] : List UInt8)).length = 0 := rfl
    unfold c111
    repeat' first | (with_reducible first|refine Za ?_|refine Zb ?_|refine Zc ?_|refine Zd ?_|refine Ze ?_|refine Zf ?_|refine Zg ?_|refine Zh ?_|refine Zi ?_|refine Zj ?_|refine Zk ?_|refine Zl ?_|refine Zm ?_|refine Zn ?_|refine Zo ?_|refine Zp ?_|refine Zq ?_|refine Zr ?_|refine Zs ?_|refine Zt ?_|refine Zu ?_)|(with_reducible refine Zv (by decide) ?_)|((with_reducible apply Zw);rfl)|((with_reducible apply Zx);rfl;decide)|((with_reducible apply Zy);rfl)|((with_reducible apply Zz);rfl)|((with_reducible apply ZA);rfl) | ((with_reducible first|apply ZD|apply ZE|apply ZF|apply ZG|apply ZH|apply ZI);rfl;rfl;all_goals (intro hc;first|(exfalso;omega)|skip))|((with_reducible first|apply ZJ|apply ZK);rfl;rfl;all_goals (intro hc;first|contradiction|skip))|((with_reducible first|apply ZL|apply ZM);rfl;rfl;omega;omega)|((with_reducible first|apply ZN|apply ZO);rfl;rfl;omega;omega;intro c hget hc)|((with_reducible apply ZP);rfl;(first|exact .inl rfl|assumption);rfl;rfl;omega;omega;omega;intro s' hs' hl')|((with_reducible apply ZQ);rfl;rfl;rfl;omega;omega;omega;intro s' hs' hl')|((with_reducible apply ZR);rfl) | (with_reducible first|refine Za ?_|refine Zb ?_|refine Zc ?_|refine Zd ?_|refine Ze ?_|refine Zf ?_|refine Zg ?_|refine Zh ?_|refine Zi ?_|refine Zj ?_|refine Zk ?_|refine Zl ?_|refine Zm ?_|refine Zn ?_|refine Zo ?_|refine Zp ?_|refine Zq ?_|refine Zr ?_|refine Zs ?_|refine Zt ?_|refine Zu ?_)|(with_reducible refine Zv (by decide) ?_)|((with_reducible apply Zw);rfl)|((with_reducible apply Zx);rfl;decide)|((with_reducible apply Zy);rfl)|((with_reducible apply Zz);rfl)|((with_reducible apply ZA);rfl)|refine ZB rfl ?_|refine ZC rfl ?_
    exact ⟨_, rfl, rfl⟩
  · have hp0 : 0 < s.length := List.length_pos_iff.2 hs0
    obtain ⟨c, hget0, -, -⟩ := at_of hp0
    have hc0 := UInt8.toNat_lt c
    have hml := @more_long c
    have hmn := @more_neg c
    have hle := longOf_le c
    have hlo := @lo_eq c
    have e1 := E123_eq c
    unfold FBeh at e1
    unfold c111
    repeat' first
      | (with_reducible first|refine Za ?_|refine Zb ?_|refine Zc ?_|refine Zd ?_|refine Ze ?_|refine Zf ?_|refine Zg ?_|refine Zh ?_|refine Zi ?_|refine Zj ?_|refine Zk ?_|refine Zl ?_|refine Zm ?_|refine Zn ?_|refine Zo ?_|refine Zp ?_|refine Zq ?_|refine Zr ?_|refine Zs ?_|refine Zt ?_|refine Zu ?_)|(with_reducible refine Zv (by decide) ?_)|((with_reducible apply Zw);rfl)|((with_reducible apply Zx);rfl;decide)|((with_reducible apply Zy);rfl)|((with_reducible apply Zz);rfl)|((with_reducible apply ZA);rfl)
      | ((with_reducible apply step_byteN (i := 0)); rfl; rfl; exact hget0)
      | ((with_reducible first|apply ZD|apply ZE|apply ZF|apply ZG|apply ZH|apply ZI);rfl;rfl;all_goals (intro hc;first|(exfalso;omega)|skip))|((with_reducible first|apply ZJ|apply ZK);rfl;rfl;all_goals (intro hc;first|contradiction|skip))|((with_reducible first|apply ZL|apply ZM);rfl;rfl;omega;omega)|((with_reducible first|apply ZN|apply ZO);rfl;rfl;omega;omega;intro c hget hc)|((with_reducible apply ZP);rfl;(first|exact .inl rfl|assumption);rfl;rfl;omega;omega;omega;intro s' hs' hl')|((with_reducible apply ZQ);rfl;rfl;rfl;omega;omega;omega;intro s' hs' hl')|((with_reducible apply ZR);rfl)
      | ((with_reducible apply Z1 (f := 123));rfl;rfl;rfl;exact e1;rfl)
      | (with_reducible first|refine Za ?_|refine Zb ?_|refine Zc ?_|refine Zd ?_|refine Ze ?_|refine Zf ?_|refine Zg ?_|refine Zh ?_|refine Zi ?_|refine Zj ?_|refine Zk ?_|refine Zl ?_|refine Zm ?_|refine Zn ?_|refine Zo ?_|refine Zp ?_|refine Zq ?_|refine Zr ?_|refine Zs ?_|refine Zt ?_|refine Zu ?_)|(with_reducible refine Zv (by decide) ?_)|((with_reducible apply Zw);rfl)|((with_reducible apply Zx);rfl;decide)|((with_reducible apply Zy);rfl)|((with_reducible apply Zz);rfl)|((with_reducible apply ZA);rfl)|refine ZB rfl ?_|refine ZC rfl ?_
      | (rw [take_no hget0 (.inl (hmn (by omega)))]; exact ⟨_, rfl, rfl⟩)
      | (rw [take_no hget0 (.inr (.inl (by have := hml (by omega); omega)))]; exact ⟨_, rfl, rfl⟩)
    have hlg := hml (by omega)
    refine awp_loop (fun n st => ∃ (i : Nat) (lo hi : Nat), (i : Int) ≤ moreQ c ∧ moreQ c - i < n ∧ (i = 0 ∧ lo = loQ c ∧ hi = hiQ c ∨ 1 ≤ i ∧ lo = 128 ∧ hi = 191) ∧ (∀ d, s[1]? = some d → 1 ≤ i → secB c d = true) ∧ (∀ k d, 2 ≤ k → k ≤ i → s[k]? = some d → contB d = true) ∧
      st = ⟨[(0, .c (.d (.list sz (encB s)))), (4, .c (.ptr 0 0)), (25, .c (.d (.int .i64 (moreQ c)))), (26, .c (.d (.int .i64 (i : Nat))))], ⟨1, [(0, .cells [.d (.int .u8 (lo : Nat)), .d (.int .u8 (hi : Nat)), .d (.int .i64 (moreQ c))])]⟩⟩)
      5 ?_ (by rintro st ⟨i, lo, hi, h1, h2, _⟩; omega) ?_
    · exact weak_keep [0, 4, 25, 26] rfl ⟨0, loQ c, hiQ c, by omega, by omega, .inl ⟨rfl, rfl, rfl⟩, fun d _ h => by omega, fun k d _ _ => by omega, rfl⟩
    · rintro n K hK st ⟨i, lo, hi, h1, h2, h3, h4, h5, rfl⟩
      by_cases hend : (i : Int) = moreQ c
      · rw [take_yes hget0 (by omega) (by omega) (fun d hd h => h4 d hd (by omega)) (fun k d hk1 hk2 hd => h5 k d hk1 (by omega) hd), show ((longOf c : Nat) : Int) = moreQ c + 1 by omega]
        repeat' first | (with_reducible first|refine Za ?_|refine Zb ?_|refine Zc ?_|refine Zd ?_|refine Ze ?_|refine Zf ?_|refine Zg ?_|refine Zh ?_|refine Zi ?_|refine Zj ?_|refine Zk ?_|refine Zl ?_|refine Zm ?_|refine Zn ?_|refine Zo ?_|refine Zp ?_|refine Zq ?_|refine Zr ?_|refine Zs ?_|refine Zt ?_|refine Zu ?_)|(with_reducible refine Zv (by decide) ?_)|((with_reducible apply Zw);rfl)|((with_reducible apply Zx);rfl;decide)|((with_reducible apply Zy);rfl)|((with_reducible apply Zz);rfl)|((with_reducible apply ZA);rfl) | ((with_reducible first|apply ZD|apply ZE|apply ZF|apply ZG|apply ZH|apply ZI);rfl;rfl;all_goals (intro hc;first|(exfalso;omega)|skip))|((with_reducible first|apply ZJ|apply ZK);rfl;rfl;all_goals (intro hc;first|contradiction|skip))|((with_reducible first|apply ZL|apply ZM);rfl;rfl;omega;omega)|((with_reducible first|apply ZN|apply ZO);rfl;rfl;omega;omega;intro c hget hc)|((with_reducible apply ZP);rfl;(first|exact .inl rfl|assumption);rfl;rfl;omega;omega;omega;intro s' hs' hl')|((with_reducible apply ZQ);rfl;rfl;rfl;omega;omega;omega;intro s' hs' hl')|((with_reducible apply ZR);rfl) | (with_reducible first|refine Za ?_|refine Zb ?_|refine Zc ?_|refine Zd ?_|refine Ze ?_|refine Zf ?_|refine Zg ?_|refine Zh ?_|refine Zi ?_|refine Zj ?_|refine Zk ?_|refine Zl ?_|refine Zm ?_|refine Zn ?_|refine Zo ?_|refine Zp ?_|refine Zq ?_|refine Zr ?_|refine Zs ?_|refine Zt ?_|refine Zu ?_)|(with_reducible refine Zv (by decide) ?_)|((with_reducible apply Zw);rfl)|((with_reducible apply Zx);rfl;decide)|((with_reducible apply Zy);rfl)|((with_reducible apply Zz);rfl)|((with_reducible apply ZA);rfl)|refine ZB rfl ?_|refine ZC rfl ?_
        exact ⟨_, rfl, rfl⟩
      · obtain ⟨d, hgd, -, -⟩ := at_of (show i + 1 < s.length by omega)
        have hdb := UInt8.toNat_lt d
        have hidx : ∀ (cl : Call) e h x y v, ev e x = .c (.d (.list sz (encB s))) → ev e y = .c (.d (.int .i64 v)) → v = (i : Int) + 1 → eval cl e h (.idxAddr 1 x y) = some (.c (.lptr [.int .u8 d.toNat] 0), h) := fun cl e h x y v hx hy hv => by
          subst hv
          exact ev_idx hx hy (by omega) (by rw [show ((i : Int) + 1).toNat = i + 1 by omega]; exact encB_at hgd) rfl
        have hbad : lo > d.toNat ∨ hi < d.toNat → takeOf s = (1, false) := fun hb => by
          rcases h3 with ⟨rfl, rfl, rfl⟩ | ⟨h31, rfl, rfl⟩
          · obtain ⟨q1, q2⟩ := hlo (by omega)
            rw [q1, q2] at hb
            exact take_no hget0 (.inr (.inr (.inl ⟨d, hgd, by omega, by unfold secB; simp only [Bool.and_eq_false_iff, decide_eq_false_iff_not]; omega⟩)))
          · exact take_no hget0 (.inr (.inr (.inr ⟨i + 1, d, by omega, by omega, hgd, by unfold contB; simp only [Bool.and_eq_false_iff, decide_eq_false_iff_not]; omega⟩)))
        have hgood : lo ≤ d.toNat → d.toNat ≤ hi → (∀ d', s[1]? = some d' → 1 ≤ i + 1 → secB c d' = true) ∧ (∀ k d', 2 ≤ k → k ≤ i + 1 → s[k]? = some d' → contB d' = true) := fun hb1 hb2 => by
          rcases h3 with ⟨rfl, rfl, rfl⟩ | ⟨h31, rfl, rfl⟩
          · obtain ⟨q1, q2⟩ := hlo (by omega)
            rw [q1] at hb1
            rw [q2] at hb2
            refine ⟨fun d' hd' _ => ?_, fun k d' hk1 hk2 _ => by omega⟩
            obtain rfl := Option.some.inj (hgd.symm.trans hd')
            unfold secB
            simp only [Bool.and_eq_true, decide_eq_true_eq]
            exact ⟨hb1, hb2⟩
          · refine ⟨fun d' hd' _ => h4 d' hd' h31, fun k d' hk1 hk2 hd' => ?_⟩
            by_cases hk : k = i + 1
            · subst hk
              obtain rfl := Option.some.inj (hgd.symm.trans hd')
              unfold contB
              simp only [Bool.and_eq_true, decide_eq_true_eq]
              exact ⟨hb1, hb2⟩
            · exact h5 k d' hk1 (by omega) hd'
        repeat' first
          | (with_reducible first|refine Za ?_|refine Zb ?_|refine Zc ?_|refine Zd ?_|refine Ze ?_|refine Zf ?_|refine Zg ?_|refine Zh ?_|refine Zi ?_|refine Zj ?_|refine Zk ?_|refine Zl ?_|refine Zm ?_|refine Zn ?_|refine Zo ?_|refine Zp ?_|refine Zq ?_|refine Zr ?_|refine Zs ?_|refine Zt ?_|refine Zu ?_)|(with_reducible refine Zv (by decide) ?_)|((with_reducible apply Zw);rfl)|((with_reducible apply Zx);rfl;decide)|((with_reducible apply Zy);rfl)|((with_reducible apply Zz);rfl)|((with_reducible apply ZA);rfl)
          | refine ZB (hidx _ _ _ _ _ _ rfl rfl rfl) ?_
          | ((with_reducible first|apply ZD|apply ZE|apply ZF|apply ZG|apply ZH|apply ZI);rfl;rfl;all_goals (intro hc;first|(exfalso;omega)|skip))|((with_reducible first|apply ZJ|apply ZK);rfl;rfl;all_goals (intro hc;first|contradiction|skip))|((with_reducible first|apply ZL|apply ZM);rfl;rfl;omega;omega)|((with_reducible first|apply ZN|apply ZO);rfl;rfl;omega;omega;intro c hget hc)|((with_reducible apply ZP);rfl;(first|exact .inl rfl|assumption);rfl;rfl;omega;omega;omega;intro s' hs' hl')|((with_reducible apply ZQ);rfl;rfl;rfl;omega;omega;omega;intro s' hs' hl')|((with_reducible apply ZR);rfl)
          | (with_reducible first|refine Za ?_|refine Zb ?_|refine Zc ?_|refine Zd ?_|refine Ze ?_|refine Zf ?_|refine Zg ?_|refine Zh ?_|refine Zi ?_|refine Zj ?_|refine Zk ?_|refine Zl ?_|refine Zm ?_|refine Zn ?_|refine Zo ?_|refine Zp ?_|refine Zq ?_|refine Zr ?_|refine Zs ?_|refine Zt ?_|refine Zu ?_)|(with_reducible refine Zv (by decide) ?_)|((with_reducible apply Zw);rfl)|((with_reducible apply Zx);rfl;decide)|((with_reducible apply Zy);rfl)|((with_reducible apply Zz);rfl)|((with_reducible apply ZA);rfl)|refine ZB rfl ?_|refine ZC rfl ?_
          | (rw [hbad (by omega)]; exact ⟨_, rfl, rfl⟩)
          | (obtain ⟨g1, g2⟩ := hgood (by omega) (by omega)
             exact hK _ (weak_keep [0, 4, 25, 26] rfl ⟨i + 1, 128, 191, by omega, by omega, .inr ⟨by omega, rfl, rfl⟩, g1, g2, rfl⟩))
theorem pe111 (m : Int) : PureOk Go.Proofs.Tryd.prog (glb m) 111 (onB FTake) := onB_ok (fn111 m) (callOk_cons (pe123 m) (callOk_nil _ _)) we111
set_option maxRecDepth 8000 in
set_option maxHeartbeats 4000000 in
theorem we110 (sz : Nat) (s : List UInt8) (hz : sz = 1 ∨ s = []) (hroom : s.length ≤ room) : awp (tbl [(111, onB FTake), (122, G122)]) c110 (PureQ [.t 2] (FName s)) ⟨argE 0 (dvArgs [.c (.list sz (encB s))]), ⟨0, []⟩⟩ := by
  have hl : (encB s).length = s.length := encB_length s
  unfold room at hroom
  unfold FName c110
  repeat' first | (with_reducible first|refine Za ?_|refine Zb ?_|refine Zc ?_|refine Zd ?_|refine Ze ?_|refine Zf ?_|refine Zg ?_|refine Zh ?_|refine Zi ?_|refine Zj ?_|refine Zk ?_|refine Zl ?_|refine Zm ?_|refine Zn ?_|refine Zo ?_|refine Zp ?_|refine Zq ?_|refine Zr ?_|refine Zs ?_|refine Zt ?_|refine Zu ?_)|(with_reducible refine Zv (by decide) ?_)|((with_reducible apply Zw);rfl)|((with_reducible apply Zx);rfl;decide)|((with_reducible apply Zy);rfl)|((with_reducible apply Zz);rfl)|((with_reducible apply ZA);rfl) | ((with_reducible first|apply ZD|apply ZE|apply ZF|apply ZG|apply ZH|apply ZI);rfl;rfl;all_goals (intro hc;first|(exfalso;omega)|skip))|((with_reducible first|apply ZJ|apply ZK);rfl;rfl;all_goals (intro hc;first|contradiction|skip))|((with_reducible first|apply ZL|apply ZM);rfl;rfl;omega;omega)|((with_reducible first|apply ZN|apply ZO);rfl;rfl;omega;omega;intro c hget hc)|((with_reducible apply ZP);rfl;(first|exact .inl rfl|assumption);rfl;rfl;omega;omega;omega;intro s' hs' hl')|((with_reducible apply ZQ);rfl;rfl;rfl;omega;omega;omega;intro s' hs' hl')|((with_reducible apply ZR);rfl) | (with_reducible first|refine Za ?_|refine Zb ?_|refine Zc ?_|refine Zd ?_|refine Ze ?_|refine Zf ?_|refine Zg ?_|refine Zh ?_|refine Zi ?_|refine Zj ?_|refine Zk ?_|refine Zl ?_|refine Zm ?_|refine Zn ?_|refine Zo ?_|refine Zp ?_|refine Zq ?_|refine Zr ?_|refine Zs ?_|refine Zt ?_|refine Zu ?_)|(with_reducible refine Zv (by decide) ?_)|((with_reducible apply Zw);rfl)|((with_reducible apply Zx);rfl;decide)|((with_reducible apply Zy);rfl)|((with_reducible apply Zz);rfl)|((with_reducible apply ZA);rfl)|refine ZB rfl ?_|refine ZC rfl ?_
  refine awp_loop (fun m st => ∃ i : Nat, i ≤ s.length ∧ s.length - i < m ∧ nameOf s = i + nameOf (s.drop i) ∧ st = ⟨[(0, .c (.d (.list sz (encB s)))), (3, .c (.d (.int .i64 (i : Nat))))], ⟨0, []⟩⟩) (s.length + 1) ?_ (by rintro st ⟨i, h1, h2, _⟩; omega) ?_
  · exact weak_keep [0, 3] rfl ⟨0, by omega, by omega, by simp, rfl⟩
  · rintro m K hK st ⟨i, hi, hm, hname, rfl⟩
    by_cases hend : i = s.length
    · have e : nameOf s = (encB s).length := by rw [hname, hend, List.drop_length, hl]; rfl
      rw [e]
      repeat' first | (with_reducible first|refine Za ?_|refine Zb ?_|refine Zc ?_|refine Zd ?_|refine Ze ?_|refine Zf ?_|refine Zg ?_|refine Zh ?_|refine Zi ?_|refine Zj ?_|refine Zk ?_|refine Zl ?_|refine Zm ?_|refine Zn ?_|refine Zo ?_|refine Zp ?_|refine Zq ?_|refine Zr ?_|refine Zs ?_|refine Zt ?_|refine Zu ?_)|(with_reducible refine Zv (by decide) ?_)|((with_reducible apply Zw);rfl)|((with_reducible apply Zx);rfl;decide)|((with_reducible apply Zy);rfl)|((with_reducible apply Zz);rfl)|((with_reducible apply ZA);rfl) | ((with_reducible first|apply ZD|apply ZE|apply ZF|apply ZG|apply ZH|apply ZI);rfl;rfl;all_goals (intro hc;first|(exfalso;omega)|skip))|((with_reducible first|apply ZJ|apply ZK);rfl;rfl;all_goals (intro hc;first|contradiction|skip))|((with_reducible first|apply ZL|apply ZM);rfl;rfl;omega;omega)|((with_reducible first|apply ZN|apply ZO);rfl;rfl;omega;omega;intro c hget hc)|((with_reducible apply ZP);rfl;(first|exact .inl rfl|assumption);rfl;rfl;omega;omega;omega;intro s' hs' hl')|((with_reducible apply ZQ);rfl;rfl;rfl;omega;omega;omega;intro s' hs' hl')|((with_reducible apply ZR);rfl) | (with_reducible first|refine Za ?_|refine Zb ?_|refine Zc ?_|refine Zd ?_|refine Ze ?_|refine Zf ?_|refine Zg ?_|refine Zh ?_|refine Zi ?_|refine Zj ?_|refine Zk ?_|refine Zl ?_|refine Zm ?_|refine Zn ?_|refine Zo ?_|refine Zp ?_|refine Zq ?_|refine Zr ?_|refine Zs ?_|refine Zt ?_|refine Zu ?_)|(with_reducible refine Zv (by decide) ?_)|((with_reducible apply Zw);rfl)|((with_reducible apply Zx);rfl;decide)|((with_reducible apply Zy);rfl)|((with_reducible apply Zz);rfl)|((with_reducible apply ZA);rfl)|refine ZB rfl ?_|refine ZC rfl ?_
      exact ⟨_, rfl, rfl⟩
    · obtain ⟨c, hg, hdr, hg0⟩ := at_of (show i < s.length by omega)
      obtain ⟨k, ok, hT⟩ : ∃ k ok, takeOf (s.drop i) = (k, ok) := ⟨_, _, rfl⟩
      have hk := take_le (s.drop i)
      have hk1 := take_pos (s := s.drop i) (by rw [hdr]; simp)
      rw [hT] at hk hk1
      simp only [List.length_drop] at hk hk1
      cases ok <;>
      repeat' first
        | (with_reducible first|refine Za ?_|refine Zb ?_|refine Zc ?_|refine Zd ?_|refine Ze ?_|refine Zf ?_|refine Zg ?_|refine Zh ?_|refine Zi ?_|refine Zj ?_|refine Zk ?_|refine Zl ?_|refine Zm ?_|refine Zn ?_|refine Zo ?_|refine Zp ?_|refine Zq ?_|refine Zr ?_|refine Zs ?_|refine Zt ?_|refine Zu ?_)|(with_reducible refine Zv (by decide) ?_)|((with_reducible apply Zw);rfl)|((with_reducible apply Zx);rfl;decide)|((with_reducible apply Zy);rfl)|((with_reducible apply Zz);rfl)|((with_reducible apply ZA);rfl)
        | ((with_reducible apply step_byteN); rfl; rfl; exact hg)
        | ((with_reducible first|apply ZD|apply ZE|apply ZF|apply ZG|apply ZH|apply ZI);rfl;rfl;all_goals (intro hc;first|(exfalso;omega)|skip))|((with_reducible first|apply ZJ|apply ZK);rfl;rfl;all_goals (intro hc;first|contradiction|skip))|((with_reducible first|apply ZL|apply ZM);rfl;rfl;omega;omega)|((with_reducible first|apply ZN|apply ZO);rfl;rfl;omega;omega;intro c hget hc)|((with_reducible apply ZP);rfl;(first|exact .inl rfl|assumption);rfl;rfl;omega;omega;omega;intro s' hs' hl')|((with_reducible apply ZQ);rfl;rfl;rfl;omega;omega;omega;intro s' hs' hl')|((with_reducible apply ZR);rfl)
        | (((with_reducible apply Z1 (f := 122));rfl;rfl;rfl;exact (G122_eq _);rfl); refine step_bool (fun hb => ?_) (fun hb => ?_))
        | ((with_reducible apply Z1 (f := 111)); rfl; rfl; rfl; exact take_call (.inl rfl) (by unfold room; omega) ((congrArg takeOf (by rw [hs']; simp)).trans hT); rfl)
        | (with_reducible first|refine Za ?_|refine Zb ?_|refine Zc ?_|refine Zd ?_|refine Ze ?_|refine Zf ?_|refine Zg ?_|refine Zh ?_|refine Zi ?_|refine Zj ?_|refine Zk ?_|refine Zl ?_|refine Zm ?_|refine Zn ?_|refine Zo ?_|refine Zp ?_|refine Zq ?_|refine Zr ?_|refine Zs ?_|refine Zt ?_|refine Zu ?_)|(with_reducible refine Zv (by decide) ?_)|((with_reducible apply Zw);rfl)|((with_reducible apply Zx);rfl;decide)|((with_reducible apply Zy);rfl)|((with_reducible apply Zz);rfl)|((with_reducible apply ZA);rfl)|refine ZB rfl ?_|refine ZC rfl ?_
        | (refine hK _ (weak_keep [0, 3] rfl ⟨i + k, by omega, by omega, ?_, rfl⟩)
           (have hgo := nameOf_go hg0 (by rw [hT]) (by rw [hT]; first | exact .inr hb | exact .inl (by show k ≠ 1; omega))
            rw [hT] at hgo
            simp only [List.drop_drop] at hgo
            omega))
        | (rw [show nameOf s = i by rw [hname, nameOf_stop hg0 (by rw [hT]; first | exact .inl rfl | exact .inr ⟨by show k = 1; omega, hb⟩)]; rfl]; exact ⟨_, rfl, rfl⟩)
theorem pe110 (m : Int) : PureOk Go.Proofs.Tryd.prog (glb m) 110 (onB FName) := onB_ok (fn110 m) (callOk_cons (pe111 m) (callOk_cons (pok122 m) (callOk_nil _ _))) we110
set_option maxRecDepth 8000 in
set_option maxHeartbeats 4000000 in
theorem we112 (sz : Nat) (s : List UInt8) (hz : sz = 1 ∨ s = []) (hroom : s.length ≤ room) : awp (tbl [(90, G90)]) c112 (PureQ [.t 2, .t 3, .t 4] (FNum s)) ⟨argE 0 (dvArgs [.c (.list sz (encB s))]), ⟨0, []⟩⟩ := by
  have hl : (encB s).length = s.length := encB_length s
  have hrun := runOf_le 4 s
  have hdig := fun (i : Nat) (c : UInt8) (h : i < runOf 4 s) (hc : s[i]? = some c) => digit_byte c (runOf_get h hc)
  have h0 := k90 sz s 4 hz hroom
  have hnum : numOf s = if runOf 4 s = 0 then ((0, 0, 2) : Int × Nat × Int) else match numF 0 (s.take (runOf 4 s)) with | some v => (v, runOf 4 s, 0) | none => (0, runOf 4 s, 4) := rfl
  generalize runOf 4 s = n at hrun hdig h0 hnum
  unfold room at hroom
  unfold FNum c112
  by_cases hn0 : n = 0
  · subst hn0
    rw [hnum, if_pos rfl]
    repeat' first | (with_reducible first|refine Za ?_|refine Zb ?_|refine Zc ?_|refine Zd ?_|refine Ze ?_|refine Zf ?_|refine Zg ?_|refine Zh ?_|refine Zi ?_|refine Zj ?_|refine Zk ?_|refine Zl ?_|refine Zm ?_|refine Zn ?_|refine Zo ?_|refine Zp ?_|refine Zq ?_|refine Zr ?_|refine Zs ?_|refine Zt ?_|refine Zu ?_)|(with_reducible refine Zv (by decide) ?_)|((with_reducible apply Zw);rfl)|((with_reducible apply Zx);rfl;decide)|((with_reducible apply Zy);rfl)|((with_reducible apply Zz);rfl)|((with_reducible apply ZA);rfl) | ((with_reducible first|apply ZD|apply ZE|apply ZF|apply ZG|apply ZH|apply ZI);rfl;rfl;all_goals (intro hc;first|(exfalso;omega)|skip))|((with_reducible first|apply ZJ|apply ZK);rfl;rfl;all_goals (intro hc;first|contradiction|skip))|((with_reducible first|apply ZL|apply ZM);rfl;rfl;omega;omega)|((with_reducible first|apply ZN|apply ZO);rfl;rfl;omega;omega;intro c hget hc)|((with_reducible apply ZP);rfl;(first|exact .inl rfl|assumption);rfl;rfl;omega;omega;omega;intro s' hs' hl')|((with_reducible apply ZQ);rfl;rfl;rfl;omega;omega;omega;intro s' hs' hl')|((with_reducible apply ZR);rfl) | ((with_reducible apply Z1 (f := 90));rfl;rfl;rfl;exact h0;rfl) | (with_reducible first|refine Za ?_|refine Zb ?_|refine Zc ?_|refine Zd ?_|refine Ze ?_|refine Zf ?_|refine Zg ?_|refine Zh ?_|refine Zi ?_|refine Zj ?_|refine Zk ?_|refine Zl ?_|refine Zm ?_|refine Zn ?_|refine Zo ?_|refine Zp ?_|refine Zq ?_|refine Zr ?_|refine Zs ?_|refine Zt ?_|refine Zu ?_)|(with_reducible refine Zv (by decide) ?_)|((with_reducible apply Zw);rfl)|((with_reducible apply Zx);rfl;decide)|((with_reducible apply Zy);rfl)|((with_reducible apply Zz);rfl)|((with_reducible apply ZA);rfl)|refine ZB rfl ?_|refine ZC rfl ?_
    exact ⟨_, rfl, rfl⟩
  · rw [if_neg hn0] at hnum
    have htl : (s.take n).length = n := by simp; omega
    have hel : (encB (s.take n)).length = n := by rw [encB_length]; exact htl
    repeat' first | (with_reducible first|refine Za ?_|refine Zb ?_|refine Zc ?_|refine Zd ?_|refine Ze ?_|refine Zf ?_|refine Zg ?_|refine Zh ?_|refine Zi ?_|refine Zj ?_|refine Zk ?_|refine Zl ?_|refine Zm ?_|refine Zn ?_|refine Zo ?_|refine Zp ?_|refine Zq ?_|refine Zr ?_|refine Zs ?_|refine Zt ?_|refine Zu ?_)|(with_reducible refine Zv (by decide) ?_)|((with_reducible apply Zw);rfl)|((with_reducible apply Zx);rfl;decide)|((with_reducible apply Zy);rfl)|((with_reducible apply Zz);rfl)|((with_reducible apply ZA);rfl) | ((with_reducible first|apply ZD|apply ZE|apply ZF|apply ZG|apply ZH|apply ZI);rfl;rfl;all_goals (intro hc;first|(exfalso;omega)|skip))|((with_reducible first|apply ZJ|apply ZK);rfl;rfl;all_goals (intro hc;first|contradiction|skip))|((with_reducible first|apply ZL|apply ZM);rfl;rfl;omega;omega)|((with_reducible first|apply ZN|apply ZO);rfl;rfl;omega;omega;intro c hget hc)|((with_reducible apply ZP);rfl;(first|exact .inl rfl|assumption);rfl;rfl;omega;omega;omega;intro s' hs' hl')|((with_reducible apply ZQ);rfl;rfl;rfl;omega;omega;omega;intro s' hs' hl')|((with_reducible apply ZR);rfl) | ((with_reducible apply Z1 (f := 90));rfl;rfl;rfl;exact h0;rfl) | (with_reducible first|refine Za ?_|refine Zb ?_|refine Zc ?_|refine Zd ?_|refine Ze ?_|refine Zf ?_|refine Zg ?_|refine Zh ?_|refine Zi ?_|refine Zj ?_|refine Zk ?_|refine Zl ?_|refine Zm ?_|refine Zn ?_|refine Zo ?_|refine Zp ?_|refine Zq ?_|refine Zr ?_|refine Zs ?_|refine Zt ?_|refine Zu ?_)|(with_reducible refine Zv (by decide) ?_)|((with_reducible apply Zw);rfl)|((with_reducible apply Zx);rfl;decide)|((with_reducible apply Zy);rfl)|((with_reducible apply Zz);rfl)|((with_reducible apply ZA);rfl)|refine ZB rfl ?_|refine ZC rfl ?_
    have es : s' = s.take n := by simpa using hs'
    subst es
    refine awp_loop (fun m st => ∃ (i : Nat) (v : Int), i ≤ n ∧ m = n - i + 1 ∧ 0 ≤ v ∧ v ≤ 2147483647 ∧ numF 0 (s.take n) = numF v ((s.take n).drop i) ∧ st = ⟨[(2, .c (.d (.int .i64 v))), (3, .c (.d (.int .i64 (n : Nat)))), (4, .c (.d (.int .i64 0))), (13, .c (.d (.list 1 (encB (s.take n))))), (14, .c (.d (.int .i64 (encB (s.take n)).length))), (15, .c (.d (.int .i64 (i : Nat))))], ⟨0, []⟩⟩) (n + 1) ?_ (by rintro st ⟨i, v, h1, h2, _⟩; omega) ?_
    · exact weak_keep [2, 3, 4, 13, 14, 15] rfl ⟨0, 0, by omega, by omega, by omega, by omega, by simp, rfl⟩
    · rintro m K hK st ⟨i, v, hi, hm, hv0, hv1, hnf, rfl⟩
      by_cases hend : i = n
      · have e : numOf s = (v, n, 0) := by rw [hnum, hnf, hend, List.drop_eq_nil_of_le (by omega)]; rfl
        rw [e]
        repeat' first | (with_reducible first|refine Za ?_|refine Zb ?_|refine Zc ?_|refine Zd ?_|refine Ze ?_|refine Zf ?_|refine Zg ?_|refine Zh ?_|refine Zi ?_|refine Zj ?_|refine Zk ?_|refine Zl ?_|refine Zm ?_|refine Zn ?_|refine Zo ?_|refine Zp ?_|refine Zq ?_|refine Zr ?_|refine Zs ?_|refine Zt ?_|refine Zu ?_)|(with_reducible refine Zv (by decide) ?_)|((with_reducible apply Zw);rfl)|((with_reducible apply Zx);rfl;decide)|((with_reducible apply Zy);rfl)|((with_reducible apply Zz);rfl)|((with_reducible apply ZA);rfl) | ((with_reducible first|apply ZD|apply ZE|apply ZF|apply ZG|apply ZH|apply ZI);rfl;rfl;all_goals (intro hc;first|(exfalso;omega)|skip))|((with_reducible first|apply ZJ|apply ZK);rfl;rfl;all_goals (intro hc;first|contradiction|skip))|((with_reducible first|apply ZL|apply ZM);rfl;rfl;omega;omega)|((with_reducible first|apply ZN|apply ZO);rfl;rfl;omega;omega;intro c hget hc)|((with_reducible apply ZP);rfl;(first|exact .inl rfl|assumption);rfl;rfl;omega;omega;omega;intro s' hs' hl')|((with_reducible apply ZQ);rfl;rfl;rfl;omega;omega;omega;intro s' hs' hl')|((with_reducible apply ZR);rfl) | (with_reducible first|refine Za ?_|refine Zb ?_|refine Zc ?_|refine Zd ?_|refine Ze ?_|refine Zf ?_|refine Zg ?_|refine Zh ?_|refine Zi ?_|refine Zj ?_|refine Zk ?_|refine Zl ?_|refine Zm ?_|refine Zn ?_|refine Zo ?_|refine Zp ?_|refine Zq ?_|refine Zr ?_|refine Zs ?_|refine Zt ?_|refine Zu ?_)|(with_reducible refine Zv (by decide) ?_)|((with_reducible apply Zw);rfl)|((with_reducible apply Zx);rfl;decide)|((with_reducible apply Zy);rfl)|((with_reducible apply Zz);rfl)|((with_reducible apply ZA);rfl)|refine ZB rfl ?_|refine ZC rfl ?_
        exact ⟨_, rfl, rfl⟩
      · obtain ⟨c, hg, hdr, hg0⟩ := at_of (show i < (s.take n).length by omega)
        have hgs : s[i]? = some c := by
          rw [List.getElem?_take] at hg
          split at hg
          · exact hg
          · cases hg
        have hc := hdig i c (by omega) hgs
        rw [hdr] at hnf
        repeat' first
          | (with_reducible first|refine Za ?_|refine Zb ?_|refine Zc ?_|refine Zd ?_|refine Ze ?_|refine Zf ?_|refine Zg ?_|refine Zh ?_|refine Zi ?_|refine Zj ?_|refine Zk ?_|refine Zl ?_|refine Zm ?_|refine Zn ?_|refine Zo ?_|refine Zp ?_|refine Zq ?_|refine Zr ?_|refine Zs ?_|refine Zt ?_|refine Zu ?_)|(with_reducible refine Zv (by decide) ?_)|((with_reducible apply Zw);rfl)|((with_reducible apply Zx);rfl;decide)|((with_reducible apply Zy);rfl)|((with_reducible apply Zz);rfl)|((with_reducible apply ZA);rfl)
          | ((with_reducible apply step_byteN); rfl; rfl; exact hg)
          | ((with_reducible apply step_muli); rfl; rfl; omega; omega)
          | ((with_reducible first|apply ZD|apply ZE|apply ZF|apply ZG|apply ZH|apply ZI);rfl;rfl;all_goals (intro hc;first|(exfalso;omega)|skip))|((with_reducible first|apply ZJ|apply ZK);rfl;rfl;all_goals (intro hc;first|contradiction|skip))|((with_reducible first|apply ZL|apply ZM);rfl;rfl;omega;omega)|((with_reducible first|apply ZN|apply ZO);rfl;rfl;omega;omega;intro c hget hc)|((with_reducible apply ZP);rfl;(first|exact .inl rfl|assumption);rfl;rfl;omega;omega;omega;intro s' hs' hl')|((with_reducible apply ZQ);rfl;rfl;rfl;omega;omega;omega;intro s' hs' hl')|((with_reducible apply ZR);rfl)
          | ((with_reducible apply step_sub8); rfl; rfl; omega; omega)
          | ((with_reducible apply step_toI); rfl; omega; omega)
          | (with_reducible first|refine Za ?_|refine Zb ?_|refine Zc ?_|refine Zd ?_|refine Ze ?_|refine Zf ?_|refine Zg ?_|refine Zh ?_|refine Zi ?_|refine Zj ?_|refine Zk ?_|refine Zl ?_|refine Zm ?_|refine Zn ?_|refine Zo ?_|refine Zp ?_|refine Zq ?_|refine Zr ?_|refine Zs ?_|refine Zt ?_|refine Zu ?_)|(with_reducible refine Zv (by decide) ?_)|((with_reducible apply Zw);rfl)|((with_reducible apply Zx);rfl;decide)|((with_reducible apply Zy);rfl)|((with_reducible apply Zz);rfl)|((with_reducible apply ZA);rfl)|refine ZB rfl ?_|refine ZC rfl ?_
          | (rw [numF_step (by omega)] at hnf; exact hK _ (weak_keep [2, 3, 4, 13, 14, 15] rfl ⟨i + 1, _, by omega, by omega, by omega, by omega, hnf, rfl⟩))
          | (rw [numF_big (by omega)] at hnf; rw [hnum, hnf]; exact ⟨_, rfl, rfl⟩)
theorem pe112 (m : Int) : PureOk Go.Proofs.Tryd.prog (glb m) 112 (onB FNum) := onB_ok (fn112 m) (callOk_cons (pok90 m) (callOk_nil _ _)) we112
end Go.Am
