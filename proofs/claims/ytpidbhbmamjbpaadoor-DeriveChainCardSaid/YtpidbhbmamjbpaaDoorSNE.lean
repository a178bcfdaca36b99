/-
  The program's sequences, names, numbers: as the plain lexer says.
-/
import Derived.Test.YtpidbhbmamjbpaaDoorSNI
import Derived.Test.YtpidbhbmamjbpaaDoorSCX
namespace Go.Am
open Go
def loQ (c : UInt8) : Nat := if c.toNat < 128 ∨ longOf c = 0 then 0 else lowB c
def hiQ (c : UInt8) : Nat := if c.toNat < 128 ∨ longOf c = 0 then 0 else topB c
def moreQ (c : UInt8) : Int := if c.toNat < 128 then 0 else (longOf c : Int) - 1
def FBeh (c : UInt8) : DV := .agg [.int .u8 (loQ c : Nat), .int .u8 (hiQ c : Nat), .int .i64 (moreQ c)]
def E123 : List DV → Option DV
  | [.c (.int .u8 n)] => if 0 ≤ n ∧ n < 256 then some (FBeh (UInt8.ofNat n.toNat)) else none
  | _ => none
theorem E123_eq (b : UInt8) : E123 [.c (.int .u8 b.toNat)] = some (FBeh b) := by
  have := b.toNat_lt
  have hb : (0 : Int) ≤ (b.toNat : Int) ∧ (b.toNat : Int) < 256 := by omega
  simp [E123, hb]
theorem fbeh {c : UInt8} {lo hi : Nat} {more : Int} (h1 : loQ c = lo) (h2 : hiQ c = hi) (h3 : moreQ c = more) : FBeh c = .agg [.int .u8 (lo : Nat), .int .u8 (hi : Nat), .int .i64 more] := by
  unfold FBeh
  rw [h1, h2, h3]
set_option maxRecDepth 8000 in
set_option maxHeartbeats 4000000 in
theorem we123 (ds : List DV) (r : DV) (h : E123 ds = some r) : awp (tbl []) c123 (PureQ [.cell 2 3 true] r) ⟨argE 0 (dvArgs ds), ⟨0, []⟩⟩ := by
  unfold E123 at h
  split at h
  · rename_i n
    split at h
    · rename_i hn
      have e0 : ((UInt8.ofNat n.toNat).toNat : Int) = n := by rw [UInt8.toNat_ofNat']; omega
      generalize UInt8.ofNat n.toNat = c at h e0
      subst e0
      cases h
      have hlong : longOf c = if c.toNat < 128 then 1 else if c.toNat < 194 ∨ 244 < c.toNat then 0 else if c.toNat < 224 then 2 else if c.toNat < 240 then 3 else 4 := rfl
      unfold c123
      repeat' first | refine GoH ?_ | ((with_reducible first|apply ZD|apply ZE|apply ZF|apply ZG|apply ZH|apply ZI);rfl;rfl;all_goals (intro hc;first|(exfalso;omega)|skip))|((with_reducible first|apply ZJ|apply ZK);rfl;rfl;all_goals (intro hc;first|contradiction|skip))|((with_reducible first|apply ZL|apply ZM);rfl;rfl;omega;omega)|((with_reducible first|apply ZN|apply ZO);rfl;rfl;omega;omega;intro c hget hc)|((with_reducible apply ZP);rfl;(first|exact .inl rfl|assumption);rfl;rfl;omega;omega;omega;intro s' hs' hl')|((with_reducible apply ZQ);rfl;rfl;rfl;omega;omega;omega;intro s' hs' hl')|((with_reducible apply ZR);rfl) | refine GoH ?_|refine ZB rfl ?_|refine ZC rfl ?_
      · rw [fbeh (lo := 0) (hi := 0) (more := 0) (by unfold loQ; rw [if_pos (by omega)]) (by unfold hiQ; rw [if_pos (by omega)]) (by unfold moreQ; rw [if_pos (by omega)])]; exact ⟨_, rfl, rfl⟩
      all_goals
        first
        | (have hz : longOf c = 0 := by rw [hlong, if_neg (by omega), if_pos (by omega)]
           rw [fbeh (lo := 0) (hi := 0) (more := -1) (by unfold loQ; rw [if_pos (by omega)]) (by unfold hiQ; rw [if_pos (by omega)]) (by unfold moreQ; rw [if_neg (by omega), hz]; rfl)]; exact ⟨_, rfl, rfl⟩)
        | (have hz : longOf c = 2 := by rw [hlong, if_neg (by omega), if_neg (by omega), if_pos (by omega)]
           rw [fbeh (lo := 128) (hi := 191) (more := 1) (by unfold loQ lowB; rw [if_neg (by omega), if_neg (by omega), if_neg (by omega)]) (by unfold hiQ topB; rw [if_neg (by omega), if_neg (by omega), if_neg (by omega)]) (by unfold moreQ; rw [if_neg (by omega), hz]; rfl)]; exact ⟨_, rfl, rfl⟩)
        | (have hz : longOf c = 3 := by rw [hlong, if_neg (by omega), if_neg (by omega), if_neg (by omega), if_pos (by omega)]
           first
           | (rw [fbeh (lo := 160) (hi := 191) (more := 2) (by unfold loQ lowB; rw [if_neg (by omega), if_pos (by omega)]) (by unfold hiQ topB; rw [if_neg (by omega), if_neg (by omega), if_neg (by omega)]) (by unfold moreQ; rw [if_neg (by omega), hz]; rfl)]; exact ⟨_, rfl, rfl⟩)
           | (rw [fbeh (lo := 128) (hi := 159) (more := 2) (by unfold loQ lowB; rw [if_neg (by omega), if_neg (by omega), if_neg (by omega)]) (by unfold hiQ topB; rw [if_neg (by omega), if_pos (by omega)]) (by unfold moreQ; rw [if_neg (by omega), hz]; rfl)]; exact ⟨_, rfl, rfl⟩)
           | (rw [fbeh (lo := 128) (hi := 191) (more := 2) (by unfold loQ lowB; rw [if_neg (by omega), if_neg (by omega), if_neg (by omega)]) (by unfold hiQ topB; rw [if_neg (by omega), if_neg (by omega), if_neg (by omega)]) (by unfold moreQ; rw [if_neg (by omega), hz]; rfl)]; exact ⟨_, rfl, rfl⟩))
        | (have hz : longOf c = 4 := by rw [hlong, if_neg (by omega), if_neg (by omega), if_neg (by omega), if_neg (by omega)]
           first
           | (rw [fbeh (lo := 144) (hi := 191) (more := 3) (by unfold loQ lowB; rw [if_neg (by omega), if_neg (by omega), if_pos (by omega)]) (by unfold hiQ topB; rw [if_neg (by omega), if_neg (by omega), if_neg (by omega)]) (by unfold moreQ; rw [if_neg (by omega), hz]; rfl)]; exact ⟨_, rfl, rfl⟩)
           | (rw [fbeh (lo := 128) (hi := 143) (more := 3) (by unfold loQ lowB; rw [if_neg (by omega), if_neg (by omega), if_neg (by omega)]) (by unfold hiQ topB; rw [if_neg (by omega), if_neg (by omega), if_pos (by omega)]) (by unfold moreQ; rw [if_neg (by omega), hz]; rfl)]; exact ⟨_, rfl, rfl⟩)
           | (rw [fbeh (lo := 128) (hi := 191) (more := 3) (by unfold loQ lowB; rw [if_neg (by omega), if_neg (by omega), if_neg (by omega)]) (by unfold hiQ topB; rw [if_neg (by omega), if_neg (by omega), if_neg (by omega)]) (by unfold moreQ; rw [if_neg (by omega), hz]; rfl)]; exact ⟨_, rfl, rfl⟩))
    · cases h
  · cases h
theorem pe123 (m : Int) : PureOk Go.Proofs.Tryd.prog (glb m) 94 E123 := pure_ok (fn123 m) (callOk_nil _ _) we123
theorem more_long {c : UInt8} (h0 : moreQ c ≥ 0) : (longOf c : Int) = moreQ c + 1 := by
  have h := h0
  clear h0
  unfold moreQ at *
  split at h
  · rename_i hc
    rw [if_pos hc, longOf_low hc]
    rfl
  · rename_i hc
    rw [if_neg hc]
    omega
theorem more_neg {c : UInt8} (h : moreQ c < 0) : longOf c = 0 := by
  unfold moreQ at h
  split at h
  · omega
  · omega
theorem lo_eq {c : UInt8} (h : 1 ≤ moreQ c) : loQ c = lowB c ∧ hiQ c = topB c := by
  have h1 := more_long (c := c) (by omega)
  have h2 : ¬ c.toNat < 128 := fun hc => by rw [longOf_low hc] at h1; omega
  unfold loQ hiQ
  rw [if_neg (by omega), if_neg (by omega)]
  exact ⟨rfl, rfl⟩
set_option maxRecDepth 8000 in
set_option maxHeartbeats 4000000 in
theorem we111 (sz : Nat) (s : List UInt8) (_ : sz = 1 ∨ s = []) (hroom : s.length ≤ room) : awp (tbl [(94, E123)]) c111 (PureQ [.t 2, .t 3] (FTake s)) ⟨argE 0 (dvArgs [.c (.list sz (encB s))]), ⟨0, []⟩⟩ := by
  have hl : (encB s).length = s.length := encB_length s
  unfold room at hroom
  unfold FTake
  by_cases hs0 : s = []
  · subst hs0
    have hl0 : (encB ([] : List UInt8)).length = 0 := rfl
    unfold c111
    repeat' first | refine GoH ?_ | ((with_reducible first|apply ZD|apply ZE|apply ZF|apply ZG|apply ZH|apply ZI);rfl;rfl;all_goals (intro hc;first|(exfalso;omega)|skip))|((with_reducible first|apply ZJ|apply ZK);rfl;rfl;all_goals (intro hc;first|contradiction|skip))|((with_reducible first|apply ZL|apply ZM);rfl;rfl;omega;omega)|((with_reducible first|apply ZN|apply ZO);rfl;rfl;omega;omega;intro c hget hc)|((with_reducible apply ZP);rfl;(first|exact .inl rfl|assumption);rfl;rfl;omega;omega;omega;intro s' hs' hl')|((with_reducible apply ZQ);rfl;rfl;rfl;omega;omega;omega;intro s' hs' hl')|((with_reducible apply ZR);rfl) | refine GoH ?_|refine ZB rfl ?_|refine ZC rfl ?_
    exact ⟨_, rfl, rfl⟩
  · have hp0 : 0 < s.length := List.length_pos_iff.2 hs0
    obtain ⟨c, hget0, -, -⟩ := at_of hp0
    have hc0 := UInt8.toNat_lt c
    have hml := @more_long c
    have hmn := @more_neg c
    have hle := longOf_le c
    have hlo := @lo_eq c
    have e1 := E123_eq c
    unfold FBeh at e1
    unfold c111
    repeat' first
      | refine GoH ?_
      | ((with_reducible apply step_byteN (i := 0)); rfl; rfl; exact hget0)
      | ((with_reducible first|apply ZD|apply ZE|apply ZF|apply ZG|apply ZH|apply ZI);rfl;rfl;all_goals (intro hc;first|(exfalso;omega)|skip))|((with_reducible first|apply ZJ|apply ZK);rfl;rfl;all_goals (intro hc;first|contradiction|skip))|((with_reducible first|apply ZL|apply ZM);rfl;rfl;omega;omega)|((with_reducible first|apply ZN|apply ZO);rfl;rfl;omega;omega;intro c hget hc)|((with_reducible apply ZP);rfl;(first|exact .inl rfl|assumption);rfl;rfl;omega;omega;omega;intro s' hs' hl')|((with_reducible apply ZQ);rfl;rfl;rfl;omega;omega;omega;intro s' hs' hl')|((with_reducible apply ZR);rfl)
      | ((with_reducible apply Z1 (f := 94));rfl;rfl;rfl;exact e1;rfl)
      | refine GoH ?_|refine ZB rfl ?_|refine ZC rfl ?_
      | (rw [take_no hget0 (.inl (hmn (by omega)))]; exact ⟨_, rfl, rfl⟩)
      | (rw [take_no hget0 (.inr (.inl (by have := hml (by omega); omega)))]; exact ⟨_, rfl, rfl⟩)
    have hlg := hml (by omega)
    refine awp_loop (fun n st => ∃ (i : Nat) (lo hi : Nat), (i : Int) ≤ moreQ c ∧ moreQ c - i < n ∧ (i = 0 ∧ lo = loQ c ∧ hi = hiQ c ∨ 1 ≤ i ∧ lo = 128 ∧ hi = 191) ∧ (∀ d, s[1]? = some d → 1 ≤ i → secB c d = true) ∧ (∀ k d, 2 ≤ k → k ≤ i → s[k]? = some d → contB d = true) ∧
      st = ⟨[(0, .c (.d (.list sz (encB s)))), (4, .c (.ptr 0 0)), (25, .c (.d (.int .i64 (moreQ c)))), (26, .c (.d (.int .i64 (i : Nat))))], ⟨1, [(0, .cells [.d (.int .u8 (lo : Nat)), .d (.int .u8 (hi : Nat)), .d (.int .i64 (moreQ c))])]⟩⟩)
      5 ?_ (by rintro st ⟨i, lo, hi, h1, h2, _⟩; omega) ?_
    · exact weak_keep [0, 4, 25, 26] rfl ⟨0, loQ c, hiQ c, by omega, by omega, .inl ⟨rfl, rfl, rfl⟩, fun d _ h => by omega, fun k d _ _ => by omega, rfl⟩
    · rintro n K hK st ⟨i, lo, hi, h1, h2, h3, h4, h5, rfl⟩
      by_cases hend : (i : Int) = moreQ c
      · rw [take_yes hget0 (by omega) (by omega) (fun d hd h => h4 d hd (by omega)) (fun k d hk1 hk2 hd => h5 k d hk1 (by omega) hd), show ((longOf c : Nat) : Int) = moreQ c + 1 by omega]
        repeat' first | refine GoH ?_ | ((with_reducible first|apply ZD|apply ZE|apply ZF|apply ZG|apply ZH|apply ZI);rfl;rfl;all_goals (intro hc;first|(exfalso;omega)|skip))|((with_reducible first|apply ZJ|apply ZK);rfl;rfl;all_goals (intro hc;first|contradiction|skip))|((with_reducible first|apply ZL|apply ZM);rfl;rfl;omega;omega)|((with_reducible first|apply ZN|apply ZO);rfl;rfl;omega;omega;intro c hget hc)|((with_reducible apply ZP);rfl;(first|exact .inl rfl|assumption);rfl;rfl;omega;omega;omega;intro s' hs' hl')|((with_reducible apply ZQ);rfl;rfl;rfl;omega;omega;omega;intro s' hs' hl')|((with_reducible apply ZR);rfl) | refine GoH ?_|refine ZB rfl ?_|refine ZC rfl ?_
        exact ⟨_, rfl, rfl⟩
      · obtain ⟨d, hgd, -, -⟩ := at_of (show i + 1 < s.length by omega)
        have hdb := UInt8.toNat_lt d
        have hidx : ∀ (cl : Call) e h x y v, ev e x = .c (.d (.list sz (encB s))) → ev e y = .c (.d (.int .i64 v)) → v = (i : Int) + 1 → eval cl e h (.idxAddr 1 x y) = some (.c (.lptr [.int .u8 d.toNat] 0), h) := fun cl e h x y v hx hy hv => by
          subst hv
          exact ev_idx hx hy (by omega) (by rw [show ((i : Int) + 1).toNat = i + 1 by omega]; exact encB_at hgd) rfl
        have hbad : lo > d.toNat ∨ hi < d.toNat → takeOf s = (1, false) := fun hb => by
          rcases h3 with ⟨rfl, rfl, rfl⟩ | ⟨h31, rfl, rfl⟩
          · obtain ⟨q1, q2⟩ := hlo (by omega)
            rw [q1, q2] at hb
            exact take_no hget0 (.inr (.inr (.inl ⟨d, hgd, by omega, by unfold secB; simp only [Bool.and_eq_false_iff, decide_eq_false_iff_not]; omega⟩)))
          · exact take_no hget0 (.inr (.inr (.inr ⟨i + 1, d, by omega, by omega, hgd, by unfold contB; simp only [Bool.and_eq_false_iff, decide_eq_false_iff_not]; omega⟩)))
        have hgood : lo ≤ d.toNat → d.toNat ≤ hi → (∀ d', s[1]? = some d' → 1 ≤ i + 1 → secB c d' = true) ∧ (∀ k d', 2 ≤ k → k ≤ i + 1 → s[k]? = some d' → contB d' = true) := fun hb1 hb2 => by
          rcases h3 with ⟨rfl, rfl, rfl⟩ | ⟨h31, rfl, rfl⟩
          · obtain ⟨q1, q2⟩ := hlo (by omega)
            rw [q1] at hb1
            rw [q2] at hb2
            refine ⟨fun d' hd' _ => ?_, fun k d' hk1 hk2 _ => by omega⟩
            obtain rfl := Option.some.inj (hgd.symm.trans hd')
            unfold secB
            simp only [Bool.and_eq_true, decide_eq_true_eq]
            exact ⟨hb1, hb2⟩
          · refine ⟨fun d' hd' _ => h4 d' hd' h31, fun k d' hk1 hk2 hd' => ?_⟩
            by_cases hk : k = i + 1
            · subst hk
              obtain rfl := Option.some.inj (hgd.symm.trans hd')
              unfold contB
              simp only [Bool.and_eq_true, decide_eq_true_eq]
              exact ⟨hb1, hb2⟩
            · exact h5 k d' hk1 (by omega) hd'
        repeat' first
          | refine GoH ?_
          | refine ZB (hidx _ _ _ _ _ _ rfl rfl rfl) ?_
          | ((with_reducible first|apply ZD|apply ZE|apply ZF|apply ZG|apply ZH|apply ZI);rfl;rfl;all_goals (intro hc;first|(exfalso;omega)|skip))|((with_reducible first|apply ZJ|apply ZK);rfl;rfl;all_goals (intro hc;first|contradiction|skip))|((with_reducible first|apply ZL|apply ZM);rfl;rfl;omega;omega)|((with_reducible first|apply ZN|apply ZO);rfl;rfl;omega;omega;intro c hget hc)|((with_reducible apply ZP);rfl;(first|exact .inl rfl|assumption);rfl;rfl;omega;omega;omega;intro s' hs' hl')|((with_reducible apply ZQ);rfl;rfl;rfl;omega;omega;omega;intro s' hs' hl')|((with_reducible apply ZR);rfl)
          | refine GoH ?_|refine ZB rfl ?_|refine ZC rfl ?_
          | (rw [hbad (by omega)]; exact ⟨_, rfl, rfl⟩)
          | (obtain ⟨g1, g2⟩ := hgood (by omega) (by omega)
             exact hK _ (weak_keep [0, 4, 25, 26] rfl ⟨i + 1, 128, 191, by omega, by omega, .inr ⟨by omega, rfl, rfl⟩, g1, g2, rfl⟩))
theorem pe111 (m : Int) : PureOk Go.Proofs.Tryd.prog (glb m) 82 (onB FTake) := onB_ok (fn111 m) (callOk_cons (pe123 m) (callOk_nil _ _)) we111
set_option maxRecDepth 8000 in
set_option maxHeartbeats 4000000 in
theorem we110 (sz : Nat) (s : List UInt8) (hz : sz = 1 ∨ s = []) (hroom : s.length ≤ room) : awp (tbl [(82, onB FTake), (93, G122)]) c110 (PureQ [.t 2] (FName s)) ⟨argE 0 (dvArgs [.c (.list sz (encB s))]), ⟨0, []⟩⟩ := by
  have hl : (encB s).length = s.length := encB_length s
  unfold room at hroom
  unfold FName c110
  repeat' first | refine GoH ?_ | ((with_reducible first|apply ZD|apply ZE|apply ZF|apply ZG|apply ZH|apply ZI);rfl;rfl;all_goals (intro hc;first|(exfalso;omega)|skip))|((with_reducible first|apply ZJ|apply ZK);rfl;rfl;all_goals (intro hc;first|contradiction|skip))|((with_reducible first|apply ZL|apply ZM);rfl;rfl;omega;omega)|((with_reducible first|apply ZN|apply ZO);rfl;rfl;omega;omega;intro c hget hc)|((with_reducible apply ZP);rfl;(first|exact .inl rfl|assumption);rfl;rfl;omega;omega;omega;intro s' hs' hl')|((with_reducible apply ZQ);rfl;rfl;rfl;omega;omega;omega;intro s' hs' hl')|((with_reducible apply ZR);rfl) | refine GoH ?_|refine ZB rfl ?_|refine ZC rfl ?_
  refine awp_loop (fun m st => ∃ i : Nat, i ≤ s.length ∧ s.length - i < m ∧ nameOf s = i + nameOf (s.drop i) ∧ st = ⟨[(0, .c (.d (.list sz (encB s)))), (3, .c (.d (.int .i64 (i : Nat))))], ⟨0, []⟩⟩) (s.length + 1) ?_ (by rintro st ⟨i, h1, h2, _⟩; omega) ?_
  · exact weak_keep [0, 3] rfl ⟨0, by omega, by omega, by simp, rfl⟩
  · rintro m K hK st ⟨i, hi, hm, hname, rfl⟩
    by_cases hend : i = s.length
    · have e : nameOf s = (encB s).length := by rw [hname, hend, List.drop_length, hl]; rfl
      rw [e]
      repeat' first | refine GoH ?_ | ((with_reducible first|apply ZD|apply ZE|apply ZF|apply ZG|apply ZH|apply ZI);rfl;rfl;all_goals (intro hc;first|(exfalso;omega)|skip))|((with_reducible first|apply ZJ|apply ZK);rfl;rfl;all_goals (intro hc;first|contradiction|skip))|((with_reducible first|apply ZL|apply ZM);rfl;rfl;omega;omega)|((with_reducible first|apply ZN|apply ZO);rfl;rfl;omega;omega;intro c hget hc)|((with_reducible apply ZP);rfl;(first|exact .inl rfl|assumption);rfl;rfl;omega;omega;omega;intro s' hs' hl')|((with_reducible apply ZQ);rfl;rfl;rfl;omega;omega;omega;intro s' hs' hl')|((with_reducible apply ZR);rfl) | refine GoH ?_|refine ZB rfl ?_|refine ZC rfl ?_
      exact ⟨_, rfl, rfl⟩
    · obtain ⟨c, hg, hdr, hg0⟩ := at_of (show i < s.length by omega)
      obtain ⟨k, ok, hT⟩ : ∃ k ok, takeOf (s.drop i) = (k, ok) := ⟨_, _, rfl⟩
      have hk := take_le (s.drop i)
      have hk1 := take_pos (s := s.drop i) (by rw [hdr]; simp)
      rw [hT] at hk hk1
      simp only [List.length_drop] at hk hk1
      cases ok <;>
      repeat' first
        | refine GoH ?_
        | ((with_reducible apply step_byteN); rfl; rfl; exact hg)
        | ((with_reducible first|apply ZD|apply ZE|apply ZF|apply ZG|apply ZH|apply ZI);rfl;rfl;all_goals (intro hc;first|(exfalso;omega)|skip))|((with_reducible first|apply ZJ|apply ZK);rfl;rfl;all_goals (intro hc;first|contradiction|skip))|((with_reducible first|apply ZL|apply ZM);rfl;rfl;omega;omega)|((with_reducible first|apply ZN|apply ZO);rfl;rfl;omega;omega;intro c hget hc)|((with_reducible apply ZP);rfl;(first|exact .inl rfl|assumption);rfl;rfl;omega;omega;omega;intro s' hs' hl')|((with_reducible apply ZQ);rfl;rfl;rfl;omega;omega;omega;intro s' hs' hl')|((with_reducible apply ZR);rfl)
        | (((with_reducible apply Z1 (f := 93));rfl;rfl;rfl;exact (G122_eq _);rfl); refine step_bool (fun hb => ?_) (fun hb => ?_))
        | ((with_reducible apply Z1 (f := 82)); rfl; rfl; rfl; exact take_call (.inl rfl) (by unfold room; omega) ((congrArg takeOf (by rw [hs']; simp)).trans hT); rfl)
        | refine GoH ?_|refine ZB rfl ?_|refine ZC rfl ?_
        | (refine hK _ (weak_keep [0, 3] rfl ⟨i + k, by omega, by omega, ?_, rfl⟩)
           (have hgo := nameOf_go hg0 (by rw [hT]) (by rw [hT]; first | exact .inr hb | exact .inl (by show k ≠ 1; omega))
            rw [hT] at hgo
            simp only [List.drop_drop] at hgo
            omega))
        | (rw [show nameOf s = i by rw [hname, nameOf_stop hg0 (by rw [hT]; first | exact .inl rfl | exact .inr ⟨by show k = 1; omega, hb⟩)]; rfl]; exact ⟨_, rfl, rfl⟩)
theorem pe110 (m : Int) : PureOk Go.Proofs.Tryd.prog (glb m) 81 (onB FName) := onB_ok (fn110 m) (callOk_cons (pe111 m) (callOk_cons (pok122 m) (callOk_nil _ _))) we110
set_option maxRecDepth 8000 in
set_option maxHeartbeats 4000000 in
theorem we112 (sz : Nat) (s : List UInt8) (hz : sz = 1 ∨ s = []) (hroom : s.length ≤ room) : awp (tbl [(59, G90)]) c112 (PureQ [.t 2, .t 3, .t 4] (FNum s)) ⟨argE 0 (dvArgs [.c (.list sz (encB s))]), ⟨0, []⟩⟩ := by
  have hl : (encB s).length = s.length := encB_length s
  have hrun := runOf_le 4 s
  have hdig := fun (i : Nat) (c : UInt8) (h : i < runOf 4 s) (hc : s[i]? = some c) => digit_byte c (runOf_get h hc)
  have h0 := k90 sz s 4 hz hroom
  have hnum : numOf s = if runOf 4 s = 0 then ((0, 0, 2) : Int × Nat × Int) else match numF 0 (s.take (runOf 4 s)) with | some v => (v, runOf 4 s, 0) | none => (0, runOf 4 s, 4) := rfl
  generalize runOf 4 s = n at hrun hdig h0 hnum
  unfold room at hroom
  unfold FNum c112
  by_cases hn0 : n = 0
  · subst hn0
    rw [hnum, if_pos rfl]
    repeat' first | refine GoH ?_ | ((with_reducible first|apply ZD|apply ZE|apply ZF|apply ZG|apply ZH|apply ZI);rfl;rfl;all_goals (intro hc;first|(exfalso;omega)|skip))|((with_reducible first|apply ZJ|apply ZK);rfl;rfl;all_goals (intro hc;first|contradiction|skip))|((with_reducible first|apply ZL|apply ZM);rfl;rfl;omega;omega)|((with_reducible first|apply ZN|apply ZO);rfl;rfl;omega;omega;intro c hget hc)|((with_reducible apply ZP);rfl;(first|exact .inl rfl|assumption);rfl;rfl;omega;omega;omega;intro s' hs' hl')|((with_reducible apply ZQ);rfl;rfl;rfl;omega;omega;omega;intro s' hs' hl')|((with_reducible apply ZR);rfl) | ((with_reducible apply Z1 (f := 59));rfl;rfl;rfl;exact h0;rfl) | refine GoH ?_|refine ZB rfl ?_|refine ZC rfl ?_
    exact ⟨_, rfl, rfl⟩
  · rw [if_neg hn0] at hnum
    have htl : (s.take n).length = n := by simp; omega
    have hel : (encB (s.take n)).length = n := by rw [encB_length]; exact htl
    repeat' first | refine GoH ?_ | ((with_reducible first|apply ZD|apply ZE|apply ZF|apply ZG|apply ZH|apply ZI);rfl;rfl;all_goals (intro hc;first|(exfalso;omega)|skip))|((with_reducible first|apply ZJ|apply ZK);rfl;rfl;all_goals (intro hc;first|contradiction|skip))|((with_reducible first|apply ZL|apply ZM);rfl;rfl;omega;omega)|((with_reducible first|apply ZN|apply ZO);rfl;rfl;omega;omega;intro c hget hc)|((with_reducible apply ZP);rfl;(first|exact .inl rfl|assumption);rfl;rfl;omega;omega;omega;intro s' hs' hl')|((with_reducible apply ZQ);rfl;rfl;rfl;omega;omega;omega;intro s' hs' hl')|((with_reducible apply ZR);rfl) | ((with_reducible apply Z1 (f := 59));rfl;rfl;rfl;exact h0;rfl) | refine GoH ?_|refine ZB rfl ?_|refine ZC rfl ?_
    have es : s' = s.take n := by simpa using hs'
    subst es
    refine awp_loop (fun m st => ∃ (i : Nat) (v : Int), i ≤ n ∧ m = n - i + 1 ∧ 0 ≤ v ∧ v ≤ 2147483647 ∧ numF 0 (s.take n) = numF v ((s.take n).drop i) ∧ st = ⟨[(2, .c (.d (.int .i64 v))), (3, .c (.d (.int .i64 (n : Nat)))), (4, .c (.d (.int .i64 0))), (13, .c (.d (.list 1 (encB (s.take n))))), (14, .c (.d (.int .i64 (encB (s.take n)).length))), (15, .c (.d (.int .i64 (i : Nat))))], ⟨0, []⟩⟩) (n + 1) ?_ (by rintro st ⟨i, v, h1, h2, _⟩; omega) ?_
    · exact weak_keep [2, 3, 4, 13, 14, 15] rfl ⟨0, 0, by omega, by omega, by omega, by omega, by simp, rfl⟩
    · rintro m K hK st ⟨i, v, hi, hm, hv0, hv1, hnf, rfl⟩
      by_cases hend : i = n
      · have e : numOf s = (v, n, 0) := by rw [hnum, hnf, hend, List.drop_eq_nil_of_le (by omega)]; rfl
        rw [e]
        repeat' first | refine GoH ?_ | ((with_reducible first|apply ZD|apply ZE|apply ZF|apply ZG|apply ZH|apply ZI);rfl;rfl;all_goals (intro hc;first|(exfalso;omega)|skip))|((with_reducible first|apply ZJ|apply ZK);rfl;rfl;all_goals (intro hc;first|contradiction|skip))|((with_reducible first|apply ZL|apply ZM);rfl;rfl;omega;omega)|((with_reducible first|apply ZN|apply ZO);rfl;rfl;omega;omega;intro c hget hc)|((with_reducible apply ZP);rfl;(first|exact .inl rfl|assumption);rfl;rfl;omega;omega;omega;intro s' hs' hl')|((with_reducible apply ZQ);rfl;rfl;rfl;omega;omega;omega;intro s' hs' hl')|((with_reducible apply ZR);rfl) | refine GoH ?_|refine ZB rfl ?_|refine ZC rfl ?_
        exact ⟨_, rfl, rfl⟩
      · obtain ⟨c, hg, hdr, hg0⟩ := at_of (show i < (s.take n).length by omega)
        have hgs : s[i]? = some c := by
          rw [List.getElem?_take] at hg
          split at hg
          · exact hg
          · cases hg
        have hc := hdig i c (by omega) hgs
        rw [hdr] at hnf
        repeat' first
          | refine GoH ?_
          | ((with_reducible apply step_byteN); rfl; rfl; exact hg)
          | ((with_reducible apply step_muli); rfl; rfl; omega; omega)
          | ((with_reducible first|apply ZD|apply ZE|apply ZF|apply ZG|apply ZH|apply ZI);rfl;rfl;all_goals (intro hc;first|(exfalso;omega)|skip))|((with_reducible first|apply ZJ|apply ZK);rfl;rfl;all_goals (intro hc;first|contradiction|skip))|((with_reducible first|apply ZL|apply ZM);rfl;rfl;omega;omega)|((with_reducible first|apply ZN|apply ZO);rfl;rfl;omega;omega;intro c hget hc)|((with_reducible apply ZP);rfl;(first|exact .inl rfl|assumption);rfl;rfl;omega;omega;omega;intro s' hs' hl')|((with_reducible apply ZQ);rfl;rfl;rfl;omega;omega;omega;intro s' hs' hl')|((with_reducible apply ZR);rfl)
          | ((with_reducible apply step_sub8); rfl; rfl; omega; omega)
          | ((with_reducible apply step_toI); rfl; omega; omega)
          | refine GoH ?_|refine ZB rfl ?_|refine ZC rfl ?_
          | (rw [numF_step (by omega)] at hnf; exact hK _ (weak_keep [2, 3, 4, 13, 14, 15] rfl ⟨i + 1, _, by omega, by omega, by omega, by omega, hnf, rfl⟩))
          | (rw [numF_big (by omega)] at hnf; rw [hnum, hnf]; exact ⟨_, rfl, rfl⟩)
theorem pe112 (m : Int) : PureOk Go.Proofs.Tryd.prog (glb m) 83 (onB FNum) := onB_ok (fn112 m) (callOk_cons (pok90 m) (callOk_nil _ _)) we112
theorem ev_from {cl : Call} {e : Env} {h : Hp} {x lo : Opd} {sz i : Nat} {s : List UInt8} {v : Int} (hx : ev e x = .c (.d (.list sz (encB s)))) (hs : sz = 1 ∨ s = []) (hy : ev e lo = .c (.d (.int .i64 v))) (hv : v = (i : Int)) (hi : i ≤ s.length) :
    eval cl e h (.slice 1 x (some lo) none none) = some (.c (.d (.list 1 (encB (s.drop i)))), h) := by
  subst hv
  rw [ev_slb hx hs (show loOf e (some lo) = some (i : Int) by show asInt (ev e lo) = _; rw [hy]; rfl) (show hiOf e s.length none = some (s.length : Int) from rfl) (by omega) (by omega) (by omega)]
  simp
set_option maxRecDepth 8000 in
set_option maxHeartbeats 8000000 in
theorem we113 (sz : Nat) (s : List UInt8) (hz : sz = 1 ∨ s = []) (hroom : s.length ≤ room) : awp (tbl [(82, onB FTake)]) c113 (PureQ [.t 2, .t 3, .t 4] (FQuote 1 s)) ⟨argE 0 (dvArgs [.c (.list sz (encB s))]), ⟨0, []⟩⟩ := by
  have hl : (encB s).length = s.length := encB_length s
  unfold room at hroom
  unfold c113
  repeat' first | refine GoH ?_ | ((with_reducible first|apply ZD|apply ZE|apply ZF|apply ZG|apply ZH|apply ZI);rfl;rfl;all_goals (intro hc;first|(exfalso;omega)|skip))|((with_reducible first|apply ZJ|apply ZK);rfl;rfl;all_goals (intro hc;first|contradiction|skip))|((with_reducible first|apply ZL|apply ZM);rfl;rfl;omega;omega)|((with_reducible first|apply ZN|apply ZO);rfl;rfl;omega;omega;intro c hget hc)|((with_reducible apply ZP);rfl;(first|exact .inl rfl|assumption);rfl;rfl;omega;omega;omega;intro s' hs' hl')|((with_reducible apply ZQ);rfl;rfl;rfl;omega;omega;omega;intro s' hs' hl')|((with_reducible apply ZR);rfl) | refine GoH ?_|refine ZB rfl ?_|refine ZC rfl ?_
  refine awp_jump (fun _ _ => False) (fun _ h => h) ?_ (fun _ _ _ _ h => h.elim)
  intro K hK
  by_cases h39 : nxt s 0 ≠ 39
  · rw [fq_none h39]
    by_cases h0 : s.length = 0
    · repeat' first | refine GoH ?_ | ((with_reducible first|apply ZD|apply ZE|apply ZF|apply ZG|apply ZH|apply ZI);rfl;rfl;all_goals (intro hc;first|(exfalso;omega)|skip))|((with_reducible first|apply ZJ|apply ZK);rfl;rfl;all_goals (intro hc;first|contradiction|skip))|((with_reducible first|apply ZL|apply ZM);rfl;rfl;omega;omega)|((with_reducible first|apply ZN|apply ZO);rfl;rfl;omega;omega;intro c hget hc)|((with_reducible apply ZP);rfl;(first|exact .inl rfl|assumption);rfl;rfl;omega;omega;omega;intro s' hs' hl')|((with_reducible apply ZQ);rfl;rfl;rfl;omega;omega;omega;intro s' hs' hl')|((with_reducible apply ZR);rfl) | refine GoH ?_|refine ZB rfl ?_|refine ZC rfl ?_
      exact ⟨_, rfl, rfl⟩
    · obtain ⟨c, hg, -, -⟩ := at_of (show 0 < s.length by omega)
      rw [nxt_some hg] at h39
      repeat' first | refine GoH ?_ | ((with_reducible apply step_byteN (i := 0)); rfl; rfl; exact hg) | ((with_reducible first|apply ZD|apply ZE|apply ZF|apply ZG|apply ZH|apply ZI);rfl;rfl;all_goals (intro hc;first|(exfalso;omega)|skip))|((with_reducible first|apply ZJ|apply ZK);rfl;rfl;all_goals (intro hc;first|contradiction|skip))|((with_reducible first|apply ZL|apply ZM);rfl;rfl;omega;omega)|((with_reducible first|apply ZN|apply ZO);rfl;rfl;omega;omega;intro c hget hc)|((with_reducible apply ZP);rfl;(first|exact .inl rfl|assumption);rfl;rfl;omega;omega;omega;intro s' hs' hl')|((with_reducible apply ZQ);rfl;rfl;rfl;omega;omega;omega;intro s' hs' hl')|((with_reducible apply ZR);rfl) | refine GoH ?_|refine ZB rfl ?_|refine ZC rfl ?_
      exact ⟨_, rfl, rfl⟩
  · have h39 : nxt s 0 = 39 := by omega
    have h0 : 0 < s.length := nxt_in (by omega)
    obtain ⟨c0, hg0, -, -⟩ := at_of h0
    have hc0 : c0.toNat = 39 := by rw [← nxt_some hg0]; exact h39
    repeat' first | refine GoH ?_ | ((with_reducible apply step_byteN (i := 0)); rfl; rfl; exact hg0) | ((with_reducible first|apply ZD|apply ZE|apply ZF|apply ZG|apply ZH|apply ZI);rfl;rfl;all_goals (intro hc;first|(exfalso;omega)|skip))|((with_reducible first|apply ZJ|apply ZK);rfl;rfl;all_goals (intro hc;first|contradiction|skip))|((with_reducible first|apply ZL|apply ZM);rfl;rfl;omega;omega)|((with_reducible first|apply ZN|apply ZO);rfl;rfl;omega;omega;intro c hget hc)|((with_reducible apply ZP);rfl;(first|exact .inl rfl|assumption);rfl;rfl;omega;omega;omega;intro s' hs' hl')|((with_reducible apply ZQ);rfl;rfl;rfl;omega;omega;omega;intro s' hs' hl')|((with_reducible apply ZR);rfl) | refine GoH ?_|refine ZB rfl ?_|refine ZC rfl ?_
    refine awp_loop (fun n st => ∃ (i : Nat) (text : List UInt8), 1 ≤ i ∧ i ≤ s.length ∧ text.length ≤ i ∧ s.length - i < n ∧ quoteR (s.drop 1) = addQ text (i - 1) (quoteR (s.drop i)) ∧ st = ⟨[(0, .c (.d (.list sz (encB s)))), (2, .c (.own 0 (encB text).length)), (5, .c (.d (.int .i64 (i : Nat))))], ⟨1, [(0, .row 1 (encB text))]⟩⟩)
      (s.length + 1) ?_ (by rintro st ⟨i, text, h1, h2, h3, h4, _⟩; omega) ?_
    · exact weak_keep [0, 2, 5] rfl ⟨1, [], by omega, by omega, by simp, by omega, by simp [addQ], rfl⟩
    · rintro n K' hK' st ⟨i, text, h1, h2, h3, h4, hq, rfl⟩
      by_cases hend : i = s.length
      · rw [fq_err h39 hq h1 (qend (by omega)) (by decide)]
        repeat' first | refine GoH ?_ | ((with_reducible first|apply ZD|apply ZE|apply ZF|apply ZG|apply ZH|apply ZI);rfl;rfl;all_goals (intro hc;first|(exfalso;omega)|skip))|((with_reducible first|apply ZJ|apply ZK);rfl;rfl;all_goals (intro hc;first|contradiction|skip))|((with_reducible first|apply ZL|apply ZM);rfl;rfl;omega;omega)|((with_reducible first|apply ZN|apply ZO);rfl;rfl;omega;omega;intro c hget hc)|((with_reducible apply ZP);rfl;(first|exact .inl rfl|assumption);rfl;rfl;omega;omega;omega;intro s' hs' hl')|((with_reducible apply ZQ);rfl;rfl;rfl;omega;omega;omega;intro s' hs' hl')|((with_reducible apply ZR);rfl) | refine GoH ?_|refine ZB rfl ?_|refine ZC rfl ?_
        exact ⟨_, rfl, rfl⟩
      · obtain ⟨c, hg, hdr, hg1⟩ := at_of (show i < s.length by omega)
        have hcb := UInt8.toNat_lt c
        obtain ⟨k, ok, hT⟩ : ∃ k ok, takeOf (s.drop i) = (k, ok) := ⟨_, _, rfl⟩
        have hk := take_le (s.drop i)
        have hk1 := take_pos (s := s.drop i) (by rw [hdr]; simp)
        rw [hT] at hk hk1
        simp only [List.length_drop] at hk hk1
        have hcall : onB FTake [.c (.list 1 (encB (s.drop i)))] = some (.tup [.c (.int .i64 (k : Nat)), .c (.bool ok)]) := take_call (.inl rfl) (by rw [List.length_drop]; unfold room; omega) hT
        by_cases hlast : i + 1 < s.length
        · obtain ⟨d, hgd, -, -⟩ := at_of hlast
          have hdb := UInt8.toNat_lt d
          have hnx := nxt_some hgd
          have hidx : ∀ (cl : Call) e h x y v, ev e x = .c (.d (.list sz (encB s))) → ev e y = .c (.d (.int .i64 v)) → v = (i : Int) + 1 → eval cl e h (.idxAddr 1 x y) = some (.c (.lptr [.int .u8 d.toNat] 0), h) := fun cl e h x y v hx hy hv => by
            subst hv
            exact ev_idx hx hy (by omega) (by rw [show ((i : Int) + 1).toNat = i + 1 by omega]; exact encB_at hgd) rfl
          cases ok <;>
          repeat' first
            | refine GoH ?_
            | ((with_reducible apply step_byteN (i := i)); rfl; rfl; exact hg)
            | refine ZB (hidx _ _ _ _ _ _ rfl rfl rfl) ?_
            | refine ZB (ev_from (i := i) rfl hz rfl rfl (by omega)) ?_
            | ((with_reducible first|apply ZD|apply ZE|apply ZF|apply ZG|apply ZH|apply ZI);rfl;rfl;all_goals (intro hc;first|(exfalso;omega)|skip))|((with_reducible first|apply ZJ|apply ZK);rfl;rfl;all_goals (intro hc;first|contradiction|skip))|((with_reducible first|apply ZL|apply ZM);rfl;rfl;omega;omega)|((with_reducible first|apply ZN|apply ZO);rfl;rfl;omega;omega;intro c hget hc)|((with_reducible apply ZP);rfl;(first|exact .inl rfl|assumption);rfl;rfl;omega;omega;omega;intro s' hs' hl')|((with_reducible apply ZQ);rfl;rfl;rfl;omega;omega;omega;intro s' hs' hl')|((with_reducible apply ZR);rfl)
            | ((with_reducible apply step_lit1); rfl; omega; omega; intro c2 hc2)
            | ((with_reducible apply step_app_b); rfl; rfl; rfl; rfl; exact .inl rfl; (first | omega | (simp only [List.length_cons, List.length_nil]; omega)); (intro l; rfl); (intro u hu hul; (try simp only [List.length_cons, List.length_nil] at hul)))
            | ((with_reducible apply Z1 (f := 82));rfl;rfl;rfl;exact hcall;rfl)
            | refine GoH ?_|refine ZB rfl ?_|refine ZC rfl ?_
            | (rw [fq_err h39 hq h1 (q10 hdr (by omega)) (by decide)]; exact ⟨_, rfl, rfl⟩)
            | (rw [fq_done h39 hq h1 (q39e hdr (by omega) (by omega))]; exact ⟨_, rfl, toDVt_own3 rfl⟩)
            | (rw [fq_err h39 hq h1 (q92e hdr (by omega) (by omega) (by omega) (by omega)) (by decide)]; exact ⟨_, rfl, rfl⟩)
            | (rw [fq_err h39 hq h1 (qlow hdr (by omega) (by omega)) (by decide)]; exact ⟨_, rfl, rfl⟩)
            | (rw [fq_err h39 hq h1 (qbad hdr (by omega) (by omega) (by omega) (by omega) hT) (by decide)]; exact ⟨_, rfl, rfl⟩)
            | exact hK' _ (weak_keep [0, 2, 5] rfl ⟨i + 2, u, by omega, by omega, by omega, by omega, q_step hq h1 (q39 hdr (by omega) (by omega) (by omega)) hu, rfl⟩)
            | exact hK' _ (weak_keep [0, 2, 5] rfl ⟨i + 2, u, by omega, by omega, by omega, by omega, q_step hq h1 (q92n hdr (by omega) (by omega) (by omega)) hu, rfl⟩)
            | exact hK' _ (weak_keep [0, 2, 5] rfl ⟨i + 2, u, by omega, by omega, by omega, by omega, q_step hq h1 (q92 hdr (by omega) (by omega) (by omega)) hu, rfl⟩)
            | exact hK' _ (weak_keep [0, 2, 5] rfl ⟨i + k, u, by omega, by omega, by omega, by omega, q_step hq h1 (qtake hdr (by omega) (by omega) (by omega) (by omega) hT) (by rw [hu, slice_take hs' rfl]), rfl⟩)
        · have hnx : nxt s (i + 1) = 0 := nxt_none (by omega)
          cases ok <;>
          repeat' first
            | refine GoH ?_
            | ((with_reducible apply step_byteN (i := i)); rfl; rfl; exact hg)
            | refine ZB (ev_from (i := i) rfl hz rfl rfl (by omega)) ?_
            | ((with_reducible first|apply ZD|apply ZE|apply ZF|apply ZG|apply ZH|apply ZI);rfl;rfl;all_goals (intro hc;first|(exfalso;omega)|skip))|((with_reducible first|apply ZJ|apply ZK);rfl;rfl;all_goals (intro hc;first|contradiction|skip))|((with_reducible first|apply ZL|apply ZM);rfl;rfl;omega;omega)|((with_reducible first|apply ZN|apply ZO);rfl;rfl;omega;omega;intro c hget hc)|((with_reducible apply ZP);rfl;(first|exact .inl rfl|assumption);rfl;rfl;omega;omega;omega;intro s' hs' hl')|((with_reducible apply ZQ);rfl;rfl;rfl;omega;omega;omega;intro s' hs' hl')|((with_reducible apply ZR);rfl)
            | ((with_reducible apply step_lit1); rfl; omega; omega; intro c2 hc2)
            | ((with_reducible apply step_app_b); rfl; rfl; rfl; rfl; exact .inl rfl; (first | omega | (simp only [List.length_cons, List.length_nil]; omega)); (intro l; rfl); (intro u hu hul; (try simp only [List.length_cons, List.length_nil] at hul)))
            | ((with_reducible apply Z1 (f := 82));rfl;rfl;rfl;exact hcall;rfl)
            | refine GoH ?_|refine ZB rfl ?_|refine ZC rfl ?_
            | (rw [fq_err h39 hq h1 (q10 hdr (by omega)) (by decide)]; exact ⟨_, rfl, rfl⟩)
            | (rw [fq_done h39 hq h1 (q39e hdr (by omega) (by omega))]; exact ⟨_, rfl, toDVt_own3 rfl⟩)
            | (rw [fq_err h39 hq h1 (q92e hdr (by omega) (by omega) (by omega) (by omega)) (by decide)]; exact ⟨_, rfl, rfl⟩)
            | (rw [fq_err h39 hq h1 (qlow hdr (by omega) (by omega)) (by decide)]; exact ⟨_, rfl, rfl⟩)
            | (rw [fq_err h39 hq h1 (qbad hdr (by omega) (by omega) (by omega) (by omega) hT) (by decide)]; exact ⟨_, rfl, rfl⟩)
            | exact hK' _ (weak_keep [0, 2, 5] rfl ⟨i + k, u, by omega, by omega, by omega, by omega, q_step hq h1 (qtake hdr (by omega) (by omega) (by omega) (by omega) hT) (by rw [hu, slice_take hs' rfl]), rfl⟩)
theorem pe113 {m : Int} : PureOk Go.Proofs.Tryd.prog (glb m) 84 (onB (FQuote 1)) := onB_ok (fn113 m) (callOk_cons (pe111 m) (callOk_nil _ _)) we113
def FComP (s : List UInt8) : DV := .c (.int .i64 (match comR 0 s with | some k => ((k : Nat) : Int) | none => 0))
def preC (s : List UInt8) : Bool := hasPre s [47, 42]
theorem fcomp_none {s : List UInt8} (h : comR 0 s = none) : FComP s = .c (.int .i64 0) := by unfold FComP; rw [h]
theorem fcomp_some {s : List UInt8} {k : Nat} (h : comR 0 s = some k) : FComP s = .c (.int .i64 (k : Nat)) := by unfold FComP; rw [h]
theorem G92_at {s t : List UInt8} : G92 [.c (.list 1 (encB s)), .c (.list 1 (encB t))] = some (.c (.bool (hasPre s t))) := by simp [G92, bytesV, bytesOf_back]
theorem step_preK {cl : Call} {d : Nat} {r : List AOper} {K : St → Prop} {env : Env} {nx : Nat} {rest : List (Nat × Ob)} {x y : Opd} {sz z : Nat} {s t : List UInt8} {l : List (List D)} {b : Bool} (hf : cl.pure 61 = some G92) (hx : ev env x = .c (.d (.list sz (encB s)))) (hs : sz = 1 ∨ s = []) (hy : ev env y = .c (.own z 2)) (hl : l = encB t) (ht : t.length = 2) (hb : hasPre s t = b)
    (hk : opsWp cl r K ⟨(d, .c (.d (.bool b))) :: env, ⟨nx, (z, .row 1 l) :: rest⟩⟩) : opsWp cl (⟨some d, .pcall 61 [x, y], none⟩ :: r) K ⟨env, ⟨nx, (z, .row 1 l) :: rest⟩⟩ :=
  step_pre hf hx hs hy hl ht (fun h _ => by rw [hb] at h; subst h; exact hk) (fun h => by rw [hb] at h; subst h; exact hk)
def I93e (sz : Nat) (s : List UInt8) (n : Nat) (st : St) : Prop := ∃ (i : Nat) (d : Int) (nx : Nat), i ≤ s.length ∧ 1 ≤ d ∧ d ≤ i ∧ s.length - i < n ∧ comR 0 s = (comR d (s.drop i)).map (i + ·) ∧ st = ⟨[(0, .c (.d (.list sz (encB s)))), (3, .c (.d (.int .i64 d))), (4, .c (.d (.int .i64 (i : Nat))))], ⟨nx, []⟩⟩
set_option maxRecDepth 8000 in
set_option maxHeartbeats 4000000 in
theorem we93 (sz : Nat) (s : List UInt8) (hz : sz = 1 ∨ s = []) (hroom : s.length ≤ room) (hp : preC s = true) : awp (tbl [(61, G92)]) c93 (PureQ [.t 2] (FComP s)) ⟨argE 0 (dvArgs [.c (.list sz (encB s))]), ⟨0, []⟩⟩ := by
  have hl : (encB s).length = s.length := encB_length s
  unfold room at hroom
  have hpl : 2 ≤ s.length := hasPre_le hp
  unfold c93
  repeat' first | refine GoH ?_ | ((with_reducible first|apply ZD|apply ZE|apply ZF|apply ZG|apply ZH|apply ZI);rfl;rfl;all_goals (intro hc;first|(exfalso;omega)|skip))|((with_reducible first|apply ZJ|apply ZK);rfl;rfl;all_goals (intro hc;first|contradiction|skip))|((with_reducible first|apply ZL|apply ZM);rfl;rfl;omega;omega)|((with_reducible first|apply ZN|apply ZO);rfl;rfl;omega;omega;intro c hget hc)|((with_reducible apply ZP);rfl;(first|exact .inl rfl|assumption);rfl;rfl;omega;omega;omega;intro s' hs' hl')|((with_reducible apply ZQ);rfl;rfl;rfl;omega;omega;omega;intro s' hs' hl')|((with_reducible apply ZR);rfl) | refine GoH ?_|refine ZB rfl ?_|refine ZC rfl ?_
  refine awp_jump (I93e sz s) (by rintro st ⟨i, d, nx, h1, h2, h3, h4, _⟩; omega) ?_ ?_
  · intro K hK
    obtain ⟨c, hg, hdr, _⟩ := at_of (show 0 < s.length by omega)
    have hat := comR_at (d := 0) hdr
    have h92 := G92_at (s := s.drop 0) (t := [47, 42])
    rw [List.drop_zero] at hat h92
    rw [show hasPre s [47, 42] = true from hp] at h92
    rw [if_pos (show hasPre s [47, 42] = true from hp)] at hat
    repeat' first
      | refine GoH ?_
      | refine ZB (ev_from (i := 0) rfl hz rfl rfl (by omega)) ?_
      | ((with_reducible first|apply ZD|apply ZE|apply ZF|apply ZG|apply ZH|apply ZI);rfl;rfl;all_goals (intro hc;first|(exfalso;omega)|skip))|((with_reducible first|apply ZJ|apply ZK);rfl;rfl;all_goals (intro hc;first|contradiction|skip))|((with_reducible first|apply ZL|apply ZM);rfl;rfl;omega;omega)|((with_reducible first|apply ZN|apply ZO);rfl;rfl;omega;omega;intro c hget hc)|((with_reducible apply ZP);rfl;(first|exact .inl rfl|assumption);rfl;rfl;omega;omega;omega;intro s' hs' hl')|((with_reducible apply ZQ);rfl;rfl;rfl;omega;omega;omega;intro s' hs' hl')|((with_reducible apply ZR);rfl)
      | (refine step_b2bh rfl rfl rfl (by decide) ?_)
      | ((with_reducible apply step_preK (t := [47, 42])); rfl; rfl; exact .inl rfl; rfl; rfl; rfl; exact hp)
      | refine GoH ?_|refine ZB rfl ?_|refine ZC rfl ?_
      | exact hK (s.length + 1) _ (weak_drop [0, 3, 4] rfl (fun y o h => by cases h) (Nat.le_refl _) ⟨2, 1, _, by omega, by omega, by omega, by omega, hat, rfl⟩)
  · rintro n K hK st ⟨i, d, nx, h1, h2, h3, h4, hq, rfl⟩
    by_cases hend : i = s.length
    · rw [fcomp_none (by rw [hq, com_end (by omega)]; rfl)]
      repeat' first | refine GoH ?_ | ((with_reducible first|apply ZD|apply ZE|apply ZF|apply ZG|apply ZH|apply ZI);rfl;rfl;all_goals (intro hc;first|(exfalso;omega)|skip))|((with_reducible first|apply ZJ|apply ZK);rfl;rfl;all_goals (intro hc;first|contradiction|skip))|((with_reducible first|apply ZL|apply ZM);rfl;rfl;omega;omega)|((with_reducible first|apply ZN|apply ZO);rfl;rfl;omega;omega;intro c hget hc)|((with_reducible apply ZP);rfl;(first|exact .inl rfl|assumption);rfl;rfl;omega;omega;omega;intro s' hs' hl')|((with_reducible apply ZQ);rfl;rfl;rfl;omega;omega;omega;intro s' hs' hl')|((with_reducible apply ZR);rfl) | refine GoH ?_|refine ZB rfl ?_|refine ZC rfl ?_
      exact ⟨_, rfl, rfl⟩
    · obtain ⟨c, hg, hdr, _⟩ := at_of (show i < s.length by omega)
      have hat := comR_at (d := d) hdr
      have h92a := G92_at (s := s.drop i) (t := [47, 42])
      have h92b := G92_at (s := s.drop i) (t := [42, 47])
      have hd2 := @hasPre_drop s i
      have hstep : ∀ (d' : Int) (k : Nat), comR d (s.drop i) = (comR d' (s.drop (i + k))).map (k + ·) → comR 0 s = (comR d' (s.drop (i + k))).map (i + k + ·) := fun d' k e => by
        rw [hq, e, Option.map_map]
        congr 1
        funext j
        simp only [Function.comp]
        omega
      cases hA : hasPre (s.drop i) [47, 42] with
      | true =>
        have := hd2 (.inl hA)
        rw [hA] at h92a
        rw [if_pos hA] at hat
        repeat' first
          | refine GoH ?_
          | refine ZB (ev_from (i := i) rfl hz rfl rfl (by omega)) ?_
          | ((with_reducible first|apply ZD|apply ZE|apply ZF|apply ZG|apply ZH|apply ZI);rfl;rfl;all_goals (intro hc;first|(exfalso;omega)|skip))|((with_reducible first|apply ZJ|apply ZK);rfl;rfl;all_goals (intro hc;first|contradiction|skip))|((with_reducible first|apply ZL|apply ZM);rfl;rfl;omega;omega)|((with_reducible first|apply ZN|apply ZO);rfl;rfl;omega;omega;intro c hget hc)|((with_reducible apply ZP);rfl;(first|exact .inl rfl|assumption);rfl;rfl;omega;omega;omega;intro s' hs' hl')|((with_reducible apply ZQ);rfl;rfl;rfl;omega;omega;omega;intro s' hs' hl')|((with_reducible apply ZR);rfl)
          | (refine step_b2bh rfl rfl rfl (by decide) ?_)
          | ((with_reducible apply step_preK (t := [47, 42])); rfl; rfl; exact .inl rfl; rfl; rfl; rfl; exact hA)
          | refine GoH ?_|refine ZB rfl ?_|refine ZC rfl ?_
          | exact hK _ (weak_drop [0, 3, 4] rfl (fun y o h => by cases h) (Nat.le_refl _) ⟨i + 2, d + 1, _, by omega, by omega, by omega, by omega, hstep _ _ hat, rfl⟩)
      | false =>
        rw [hA] at h92a
        rw [if_neg (by rw [hA]; simp)] at hat
        cases hB : hasPre (s.drop i) [42, 47] with
        | true =>
          have := hd2 (.inr hB)
          rw [hB] at h92b
          rw [if_pos hB] at hat
          by_cases hd1 : d = 1
          · subst hd1
            rw [if_pos (by decide)] at hat
            rw [fcomp_some (k := i + 2) (by rw [hq, hat]; rfl)]
            repeat' first
              | refine GoH ?_
              | refine ZB (ev_from (i := i) rfl hz rfl rfl (by omega)) ?_
              | ((with_reducible first|apply ZD|apply ZE|apply ZF|apply ZG|apply ZH|apply ZI);rfl;rfl;all_goals (intro hc;first|(exfalso;omega)|skip))|((with_reducible first|apply ZJ|apply ZK);rfl;rfl;all_goals (intro hc;first|contradiction|skip))|((with_reducible first|apply ZL|apply ZM);rfl;rfl;omega;omega)|((with_reducible first|apply ZN|apply ZO);rfl;rfl;omega;omega;intro c hget hc)|((with_reducible apply ZP);rfl;(first|exact .inl rfl|assumption);rfl;rfl;omega;omega;omega;intro s' hs' hl')|((with_reducible apply ZQ);rfl;rfl;rfl;omega;omega;omega;intro s' hs' hl')|((with_reducible apply ZR);rfl)
              | (refine step_b2bh rfl rfl rfl (by decide) ?_)
              | ((with_reducible apply step_preK (t := [47, 42])); rfl; rfl; exact .inl rfl; rfl; rfl; rfl; exact hA)
              | ((with_reducible apply step_preK (t := [42, 47])); rfl; rfl; exact .inl rfl; rfl; rfl; rfl; exact hB)
              | refine GoH ?_|refine ZB rfl ?_|refine ZC rfl ?_
            exact ⟨_, rfl, rfl⟩
          · rw [if_neg (by omega)] at hat
            repeat' first
              | refine GoH ?_
              | refine ZB (ev_from (i := i) rfl hz rfl rfl (by omega)) ?_
              | ((with_reducible first|apply ZD|apply ZE|apply ZF|apply ZG|apply ZH|apply ZI);rfl;rfl;all_goals (intro hc;first|(exfalso;omega)|skip))|((with_reducible first|apply ZJ|apply ZK);rfl;rfl;all_goals (intro hc;first|contradiction|skip))|((with_reducible first|apply ZL|apply ZM);rfl;rfl;omega;omega)|((with_reducible first|apply ZN|apply ZO);rfl;rfl;omega;omega;intro c hget hc)|((with_reducible apply ZP);rfl;(first|exact .inl rfl|assumption);rfl;rfl;omega;omega;omega;intro s' hs' hl')|((with_reducible apply ZQ);rfl;rfl;rfl;omega;omega;omega;intro s' hs' hl')|((with_reducible apply ZR);rfl)
              | (refine step_b2bh rfl rfl rfl (by decide) ?_)
              | ((with_reducible apply step_preK (t := [47, 42])); rfl; rfl; exact .inl rfl; rfl; rfl; rfl; exact hA)
              | ((with_reducible apply step_preK (t := [42, 47])); rfl; rfl; exact .inl rfl; rfl; rfl; rfl; exact hB)
              | refine GoH ?_|refine ZB rfl ?_|refine ZC rfl ?_
              | exact hK _ (weak_drop [0, 3, 4] rfl (fun y o h => by cases h) (Nat.le_refl _) ⟨i + 2, d - 1, _, by omega, by omega, by omega, by omega, hstep _ _ hat, rfl⟩)
        | false =>
          rw [hB] at h92b
          rw [if_neg (by rw [hB]; simp)] at hat
          repeat' first
            | refine GoH ?_
            | refine ZB (ev_from (i := i) rfl hz rfl rfl (by omega)) ?_
            | ((with_reducible first|apply ZD|apply ZE|apply ZF|apply ZG|apply ZH|apply ZI);rfl;rfl;all_goals (intro hc;first|(exfalso;omega)|skip))|((with_reducible first|apply ZJ|apply ZK);rfl;rfl;all_goals (intro hc;first|contradiction|skip))|((with_reducible first|apply ZL|apply ZM);rfl;rfl;omega;omega)|((with_reducible first|apply ZN|apply ZO);rfl;rfl;omega;omega;intro c hget hc)|((with_reducible apply ZP);rfl;(first|exact .inl rfl|assumption);rfl;rfl;omega;omega;omega;intro s' hs' hl')|((with_reducible apply ZQ);rfl;rfl;rfl;omega;omega;omega;intro s' hs' hl')|((with_reducible apply ZR);rfl)
            | (refine step_b2bh rfl rfl rfl (by decide) ?_)
            | ((with_reducible apply step_preK (t := [47, 42])); rfl; rfl; exact .inl rfl; rfl; rfl; rfl; exact hA)
            | ((with_reducible apply step_preK (t := [42, 47])); rfl; rfl; exact .inl rfl; rfl; rfl; rfl; exact hB)
            | refine GoH ?_|refine ZB rfl ?_|refine ZC rfl ?_
            | exact hK _ (weak_drop [0, 3, 4] rfl (fun y o h => by cases h) (Nat.le_refl _) ⟨i + 1, d, _, by omega, by omega, by omega, by omega, hstep _ _ hat, rfl⟩)
theorem pe93 (m : Int) : PureOk Go.Proofs.Tryd.prog (glb m) 62 (onBp preC FComP) := onBp_ok (fn93 m) (callOk_cons (pok92 m) (callOk_nil _ _)) we93
theorem class8 : ∀ c : UInt8, classOf c = 8 ↔ c.toNat = 37 := by
  have h : ∀ n : Nat, n < 256 → (classOf (UInt8.ofNat n) = 8 ↔ n = 37) := by decide +kernel
  intro c
  have := h c.toNat (UInt8.toNat_lt c)
  rw [UInt8.ofNat_toNat] at this
  exact this
theorem lineOf_ln : ∀ s : List UInt8, lineOf s = lnOf s
  | [] => rfl
  | b :: r => by
    have ih := lineOf_ln r
    have hge := Lib.indexByte_ge r 10
    unfold lineOf at ih ⊢
    simp only [Lib.indexByte, lnOf]
    by_cases hb : b.toNat = 10
    · have : b = 10 := UInt8.toNat_inj.1 hb
      subst this
      simp
    · have hne : (b == 10) = false := by
        rw [beq_eq_false_iff_ne]
        intro e
        subst e
        exact hb rfl
      rw [if_neg hb, ← ih]
      simp only [hne, Bool.false_eq_true, if_false, List.length_cons]
      by_cases h1 : Lib.indexByte r 10 = -1
      · simp [h1]; omega
      · have h2 : (Lib.indexByte r 10 == -1) = false := by simpa using h1
        simp only [h2, Bool.false_eq_true, if_false]
        rw [if_pos (by omega), if_pos (by omega)]
        omega
set_option maxRecDepth 8000 in
set_option maxHeartbeats 4000000 in
theorem we78 (sz : Nat) (s : List UInt8) (hz : sz = 1 ∨ s = []) (hroom : s.length ≤ room) : awp (tbl [(43, G80), (59, G90), (60, G91), (61, G92), (62, onBp preC FComP)]) c78 (PureQ [.t 2, .t 3] (FSkip s)) ⟨argE 0 (dvArgs [.c (.list sz (encB s))]), ⟨0, []⟩⟩ := by
  have hl : (encB s).length = s.length := encB_length s
  have hroom' := hroom
  unfold room at hroom
  unfold c78
  repeat' first | refine GoH ?_ | ((with_reducible first|apply ZD|apply ZE|apply ZF|apply ZG|apply ZH|apply ZI);rfl;rfl;all_goals (intro hc;first|(exfalso;omega)|skip))|((with_reducible first|apply ZJ|apply ZK);rfl;rfl;all_goals (intro hc;first|contradiction|skip))|((with_reducible first|apply ZL|apply ZM);rfl;rfl;omega;omega)|((with_reducible first|apply ZN|apply ZO);rfl;rfl;omega;omega;intro c hget hc)|((with_reducible apply ZP);rfl;(first|exact .inl rfl|assumption);rfl;rfl;omega;omega;omega;intro s' hs' hl')|((with_reducible apply ZQ);rfl;rfl;rfl;omega;omega;omega;intro s' hs' hl')|((with_reducible apply ZR);rfl) | refine GoH ?_|refine ZB rfl ?_|refine ZC rfl ?_
  refine awp_loop (fun m st => ∃ (i nx : Nat), i ≤ s.length ∧ s.length - i < m ∧ skipR s = addS i (skipR (s.drop i)) ∧
    st = ⟨[(0, .c (.d (.list sz (encB s)))), (4, .c (.d (.int .i64 (i : Nat))))], ⟨nx, []⟩⟩)
    (s.length + 1) ?_ (by rintro st ⟨i, nx, h1, h2, _⟩; omega) ?_
  · exact weak_keep [0, 4] rfl ⟨0, 0, by omega, by omega, by simp [addS], rfl⟩
  · rintro m K hK st ⟨i, nx, h1, h2, hq, rfl⟩
    have hdl : (encB (s.drop i)).length = s.length - i := by rw [encB_length, List.length_drop]
    have hrd : (s.drop i).length ≤ room := by rw [List.length_drop]; unfold room; omega
    have h90 := k90 1 (s.drop i) 1 (.inl rfl) hrd
    have hrun := skipR_run (s.drop i)
    have hrle := runOf_le 1 (s.drop i)
    rw [List.length_drop] at hrle
    rw [List.drop_drop] at hrun
    generalize hn : runOf 1 (s.drop i) = n at h90 hrun hrle
    by_cases hn0 : 0 < n
    · repeat' first
        | refine GoH ?_
        | refine ZB (ev_from (i := i) rfl hz rfl rfl (by omega)) ?_
        | ((with_reducible first|apply ZD|apply ZE|apply ZF|apply ZG|apply ZH|apply ZI);rfl;rfl;all_goals (intro hc;first|(exfalso;omega)|skip))|((with_reducible first|apply ZJ|apply ZK);rfl;rfl;all_goals (intro hc;first|contradiction|skip))|((with_reducible first|apply ZL|apply ZM);rfl;rfl;omega;omega)|((with_reducible first|apply ZN|apply ZO);rfl;rfl;omega;omega;intro c hget hc)|((with_reducible apply ZP);rfl;(first|exact .inl rfl|assumption);rfl;rfl;omega;omega;omega;intro s' hs' hl')|((with_reducible apply ZQ);rfl;rfl;rfl;omega;omega;omega;intro s' hs' hl')|((with_reducible apply ZR);rfl)
        | ((with_reducible apply Z1 (f := 59));rfl;rfl;rfl;exact h90;rfl)
        | refine GoH ?_|refine ZB rfl ?_|refine ZC rfl ?_
        | exact hK _ (weak_drop [0, 4] rfl (fun y o h => by cases h) (Nat.le_refl _) ⟨i + n, _, by omega, by omega, by rw [hq, hrun, addS_addS], rfl⟩)
    · obtain rfl : n = 0 := by omega
      by_cases hend : i = s.length
      · have hpre : hasPre (s.drop i) [47, 42] = false := by rw [List.drop_eq_nil_of_le (by omega)]; rfl
        have h92 := G92_at (s := s.drop i) (t := [47, 42])
        rw [hpre] at h92
        rw [fskip hq (skip_end (by omega))]
        repeat' first
          | refine GoH ?_
          | refine ZB (ev_from (i := i) rfl hz rfl rfl (by omega)) ?_
          | ((with_reducible first|apply ZD|apply ZE|apply ZF|apply ZG|apply ZH|apply ZI);rfl;rfl;all_goals (intro hc;first|(exfalso;omega)|skip))|((with_reducible first|apply ZJ|apply ZK);rfl;rfl;all_goals (intro hc;first|contradiction|skip))|((with_reducible first|apply ZL|apply ZM);rfl;rfl;omega;omega)|((with_reducible first|apply ZN|apply ZO);rfl;rfl;omega;omega;intro c hget hc)|((with_reducible apply ZP);rfl;(first|exact .inl rfl|assumption);rfl;rfl;omega;omega;omega;intro s' hs' hl')|((with_reducible apply ZQ);rfl;rfl;rfl;omega;omega;omega;intro s' hs' hl')|((with_reducible apply ZR);rfl)
          | (refine step_b2bh rfl rfl rfl (by decide) ?_)
          | ((with_reducible apply Z1 (f := 59));rfl;rfl;rfl;exact h90;rfl)
          | ((with_reducible apply step_preK (t := [47, 42])); rfl; rfl; exact .inl rfl; rfl; rfl; rfl; exact hpre)
          | refine GoH ?_|refine ZB rfl ?_|refine ZC rfl ?_
        exact ⟨_, rfl, rfl⟩
      · obtain ⟨c, hg, hdr, hg0⟩ := at_of (show i < s.length by omega)
        have hat := skipR_at hdr
        have hc1 : classOf c ≠ 1 := by
          intro e
          rw [hdr] at hn
          simp only [runOf] at hn
          rw [if_pos (by omega)] at hn
          omega
        rw [if_neg hc1] at hat
        have h8 := class8 c
        by_cases hc8 : classOf c = 8
        · have h37 := h8.1 hc8
          rw [if_pos h37] at hat
          have hln := ln_at hdr
          rw [if_neg (by omega)] at hln
          have h91 := k91 1 (s.drop i) (.inl rfl)
          have hle := lnOf_le (s.drop i)
          rw [List.length_drop] at hle
          rw [lineOf_ln] at h91
          rw [← hln] at hat
          generalize lnOf (s.drop i) = k at h91 hat hle hln
          repeat' first
            | refine GoH ?_
            | refine ZB (ev_from (i := i) rfl hz rfl rfl (by omega)) ?_
            | ((with_reducible apply step_byteN (i := 0)); rfl; rfl; exact hg0)
            | ((with_reducible first|apply ZD|apply ZE|apply ZF|apply ZG|apply ZH|apply ZI);rfl;rfl;all_goals (intro hc;first|(exfalso;omega)|skip))|((with_reducible first|apply ZJ|apply ZK);rfl;rfl;all_goals (intro hc;first|contradiction|skip))|((with_reducible first|apply ZL|apply ZM);rfl;rfl;omega;omega)|((with_reducible first|apply ZN|apply ZO);rfl;rfl;omega;omega;intro c hget hc)|((with_reducible apply ZP);rfl;(first|exact .inl rfl|assumption);rfl;rfl;omega;omega;omega;intro s' hs' hl')|((with_reducible apply ZQ);rfl;rfl;rfl;omega;omega;omega;intro s' hs' hl')|((with_reducible apply ZR);rfl)
            | ((with_reducible apply Z1 (f := 43));rfl;rfl;rfl;exact (G80_eq _);rfl)
            | ((with_reducible apply Z1 (f := 59));rfl;rfl;rfl;exact h90;rfl)
            | ((with_reducible apply Z1 (f := 60));rfl;rfl;rfl;exact h91;rfl)
            | refine GoH ?_|refine ZB rfl ?_|refine ZC rfl ?_
            | exact hK _ (weak_drop [0, 4] rfl (fun y o h => by cases h) (Nat.le_refl _) ⟨i + k, _, by omega, by omega, by rw [hq, hat, addS_addS], rfl⟩)
        · rw [if_neg (fun e => hc8 (h8.2 e))] at hat
          have h92 := G92_at (s := s.drop i) (t := [47, 42])
          cases hP : hasPre (s.drop i) [47, 42] with
          | false =>
            rw [hP] at h92
            rw [if_neg (by rw [hP]; simp)] at hat
            rw [fskip hq hat]
            repeat' first
              | refine GoH ?_
              | refine ZB (ev_from (i := i) rfl hz rfl rfl (by omega)) ?_
              | ((with_reducible apply step_byteN (i := 0)); rfl; rfl; exact hg0)
              | ((with_reducible first|apply ZD|apply ZE|apply ZF|apply ZG|apply ZH|apply ZI);rfl;rfl;all_goals (intro hc;first|(exfalso;omega)|skip))|((with_reducible first|apply ZJ|apply ZK);rfl;rfl;all_goals (intro hc;first|contradiction|skip))|((with_reducible first|apply ZL|apply ZM);rfl;rfl;omega;omega)|((with_reducible first|apply ZN|apply ZO);rfl;rfl;omega;omega;intro c hget hc)|((with_reducible apply ZP);rfl;(first|exact .inl rfl|assumption);rfl;rfl;omega;omega;omega;intro s' hs' hl')|((with_reducible apply ZQ);rfl;rfl;rfl;omega;omega;omega;intro s' hs' hl')|((with_reducible apply ZR);rfl)
              | (refine step_b2bh rfl rfl rfl (by decide) ?_)
              | ((with_reducible apply Z1 (f := 43));rfl;rfl;rfl;exact (G80_eq _);rfl)
              | ((with_reducible apply Z1 (f := 59));rfl;rfl;rfl;exact h90;rfl)
              | ((with_reducible apply step_preK (t := [47, 42])); rfl; rfl; exact .inl rfl; rfl; rfl; rfl; exact hP)
              | refine GoH ?_|refine ZB rfl ?_|refine ZC rfl ?_
            exact ⟨_, rfl, rfl⟩
          | true =>
            have h93 : onBp preC FComP [.c (.list 1 (encB (s.drop i)))] = some (FComP (s.drop i)) := onBp_eq (.inl rfl) hrd hP
            rw [hP] at h92
            rw [if_pos hP] at hat
            cases hC : comR 0 (s.drop i) with
            | none =>
              rw [hC] at hat
              rw [fcomp_none hC] at h93
              simp only at hat
              rw [fskip hq hat]
              repeat' first
                | refine GoH ?_
                | refine ZB (ev_from (i := i) rfl hz rfl rfl (by omega)) ?_
                | ((with_reducible apply step_byteN (i := 0)); rfl; rfl; exact hg0)
                | ((with_reducible first|apply ZD|apply ZE|apply ZF|apply ZG|apply ZH|apply ZI);rfl;rfl;all_goals (intro hc;first|(exfalso;omega)|skip))|((with_reducible first|apply ZJ|apply ZK);rfl;rfl;all_goals (intro hc;first|contradiction|skip))|((with_reducible first|apply ZL|apply ZM);rfl;rfl;omega;omega)|((with_reducible first|apply ZN|apply ZO);rfl;rfl;omega;omega;intro c hget hc)|((with_reducible apply ZP);rfl;(first|exact .inl rfl|assumption);rfl;rfl;omega;omega;omega;intro s' hs' hl')|((with_reducible apply ZQ);rfl;rfl;rfl;omega;omega;omega;intro s' hs' hl')|((with_reducible apply ZR);rfl)
                | (refine step_b2bh rfl rfl rfl (by decide) ?_)
                | ((with_reducible apply Z1 (f := 43));rfl;rfl;rfl;exact (G80_eq _);rfl)
                | ((with_reducible apply Z1 (f := 59));rfl;rfl;rfl;exact h90;rfl)
                | ((with_reducible apply step_preK (t := [47, 42])); rfl; rfl; exact .inl rfl; rfl; rfl; rfl; exact hP)
                | ((with_reducible apply Z1 (f := 62));rfl;rfl;rfl;exact h93;rfl)
                | refine GoH ?_|refine ZB rfl ?_|refine ZC rfl ?_
              exact ⟨_, rfl, rfl⟩
            | some k =>
              have hbd := comR_bd hC
              rw [List.length_drop] at hbd
              rw [hC] at hat
              rw [fcomp_some hC] at h93
              simp only at hat
              repeat' first
                | refine GoH ?_
                | refine ZB (ev_from (i := i) rfl hz rfl rfl (by omega)) ?_
                | ((with_reducible apply step_byteN (i := 0)); rfl; rfl; exact hg0)
                | ((with_reducible first|apply ZD|apply ZE|apply ZF|apply ZG|apply ZH|apply ZI);rfl;rfl;all_goals (intro hc;first|(exfalso;omega)|skip))|((with_reducible first|apply ZJ|apply ZK);rfl;rfl;all_goals (intro hc;first|contradiction|skip))|((with_reducible first|apply ZL|apply ZM);rfl;rfl;omega;omega)|((with_reducible first|apply ZN|apply ZO);rfl;rfl;omega;omega;intro c hget hc)|((with_reducible apply ZP);rfl;(first|exact .inl rfl|assumption);rfl;rfl;omega;omega;omega;intro s' hs' hl')|((with_reducible apply ZQ);rfl;rfl;rfl;omega;omega;omega;intro s' hs' hl')|((with_reducible apply ZR);rfl)
                | (refine step_b2bh rfl rfl rfl (by decide) ?_)
                | ((with_reducible apply Z1 (f := 43));rfl;rfl;rfl;exact (G80_eq _);rfl)
                | ((with_reducible apply Z1 (f := 59));rfl;rfl;rfl;exact h90;rfl)
                | ((with_reducible apply step_preK (t := [47, 42])); rfl; rfl; exact .inl rfl; rfl; rfl; rfl; exact hP)
                | ((with_reducible apply Z1 (f := 62));rfl;rfl;rfl;exact h93;rfl)
                | refine GoH ?_|refine ZB rfl ?_|refine ZC rfl ?_
                | exact hK _ (weak_drop [0, 4] rfl (fun y o h => by cases h) (Nat.le_refl _) ⟨i + k, _, by omega, by omega, by rw [hq, hat, addS_addS], rfl⟩)
theorem pe78 (m : Int) : PureOk Go.Proofs.Tryd.prog (glb m) 41 (onB FSkip) := onB_ok (fn78 m) (callOk_cons (pok80 m) (callOk_cons (pok90 m) (callOk_cons (pok91 m) (callOk_cons (pok92 m) (callOk_cons (pe93 m) (callOk_nil _ _)))))) we78
end Go.Am
