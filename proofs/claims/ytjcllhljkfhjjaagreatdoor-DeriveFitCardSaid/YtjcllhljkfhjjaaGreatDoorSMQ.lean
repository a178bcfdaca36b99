/-
  The reference's classes of bytes.
-/
import Derived.Test.YtjcllhljkfhjjaaGreatDoorSME
import Derived.Test.YtjcllhljkfhjjaaGreatDoorSCR
import Derived.Test.YtjcllhljkfhjjaaGreatDoorSML
import Derived.Test.YtjcllhljkfhjjaaGreatDoorSMF
namespace Go.Am
open Go
def G135 : List DV → Option DV
  | [.c (.int .u8 n), .c (.str s)] => if s.length ≤ room then some (.c (.bool (s.any fun b => (b.toNat : Int) == n))) else none
  | _ => none
set_option maxRecDepth 8000 in
set_option maxHeartbeats 2000000 in
theorem w135 (ds : List DV) (r : DV) (h : G135 ds = some r) : awp (tbl []) c135 (PureQ [.t 4] r) ⟨argE 0 (dvArgs ds), ⟨0, []⟩⟩ := by
  unfold G135 at h
  split at h
  · rename_i v s
    split at h
    · rename_i hroom
      unfold room at hroom
      cases h
      unfold c135
      repeat' first | refine GoH ?_|refine ZB rfl ?_|refine ZC rfl ?_
      refine awp_loop (fun n st => ∃ i : Nat, i ≤ s.length ∧ n = s.length - i + 1 ∧ (s.any fun b => (b.toNat : Int) == v) = ((s.drop i).any fun b => (b.toNat : Int) == v) ∧
        st = ⟨[(0, .c (.d (.int .u8 v))), (1, .c (.d (.str s))), (5, .c (.d (.int .i64 (i : Nat))))], ⟨0, []⟩⟩) (s.length + 1) ?_ (by rintro st ⟨i, h1, h2, _⟩; omega) ?_
      · exact weak_keep [0, 1, 5] rfl ⟨0, by omega, by omega, by simp, rfl⟩
      · rintro n K hK st ⟨i, hi, hn, hany, rfl⟩
        by_cases hend : i = s.length
        · have e : (s.any fun b => (b.toNat : Int) == v) = false := by rw [hany, hend, List.drop_length]; rfl
          rw [e]
          repeat' first | ((with_reducible first|apply ZD|apply ZE|apply ZF|apply ZG|apply ZH|apply ZI);rfl;rfl;all_goals (intro hc;first|(exfalso;omega)|skip))|((with_reducible first|apply ZJ|apply ZK);rfl;rfl;all_goals (intro hc;first|contradiction|skip))|((with_reducible first|apply ZL|apply ZM);rfl;rfl;omega;omega)|((with_reducible first|apply ZN|apply ZO);rfl;rfl;omega;omega;intro c hget hc)|((with_reducible apply ZP);rfl;(first|exact .inl rfl|assumption);rfl;rfl;omega;omega;omega;intro s' hs' hl')|((with_reducible apply ZQ);rfl;rfl;rfl;omega;omega;omega;intro s' hs' hl')|((with_reducible apply ZR);rfl) | refine GoH ?_|refine ZB rfl ?_|refine ZC rfl ?_
          exact ⟨_, rfl, rfl⟩
        · have hlt : i < s.length := by omega
          have hdr : s.drop i = s[i] :: s.drop (i + 1) := List.drop_eq_getElem_cons hlt
          have hgt : s[i]? = some s[i] := List.getElem?_eq_getElem hlt
          rw [hdr, List.any_cons] at hany
          repeat' first | ((with_reducible first|apply ZD|apply ZE|apply ZF|apply ZG|apply ZH|apply ZI);rfl;rfl;all_goals (intro hc;first|(exfalso;omega)|skip))|((with_reducible first|apply ZJ|apply ZK);rfl;rfl;all_goals (intro hc;first|contradiction|skip))|((with_reducible first|apply ZL|apply ZM);rfl;rfl;omega;omega)|((with_reducible first|apply ZN|apply ZO);rfl;rfl;omega;omega;intro c hget hc)|((with_reducible apply ZP);rfl;(first|exact .inl rfl|assumption);rfl;rfl;omega;omega;omega;intro s' hs' hl')|((with_reducible apply ZQ);rfl;rfl;rfl;omega;omega;omega;intro s' hs' hl')|((with_reducible apply ZR);rfl) | refine GoH ?_|refine ZB rfl ?_|refine ZC rfl ?_
          · have e0 : c = s[i] := Option.some.inj (hget.symm.trans (by simp))
            have e : (s.any fun b => (b.toNat : Int) == v) = true := by rw [hany, ← e0]; simp [hc]
            rw [e]
            exact ⟨_, rfl, rfl⟩
          · have e0 : c = s[i] := Option.some.inj (hget.symm.trans (by simp))
            refine hK _ (weak_keep [0, 1, 5] rfl ⟨i + 1, by omega, by omega, ?_, rfl⟩)
            rw [hany, ← e0]
            have : ((c.toNat : Int) == v) = false := by simpa using hc
            rw [this]
            rfl
    · cases h
  · cases h
theorem pok135 (m : Int) : PureOk Go.Proofs.Tryz.prog (glb m) 119 G135 := pure_ok (fn135 m) (callOk_nil _ _) w135
def refChain (n : Nat) (p q : Bool) : Int :=
  if n = 9 ∨ n = 10 ∨ n = 13 ∨ n = 32 then 1 else if 97 ≤ n ∧ n ≤ 122 then 2 else if (65 ≤ n ∧ n ≤ 90) ∨ n = 95 then 3 else if 48 ≤ n ∧ n ≤ 57 then 4
    else if p = true then 5 else if q = true then 6 else if n = 39 then 7 else if n = 37 then 8 else if 128 ≤ n then 9 else 0
theorem refClass : ∀ n : Nat, n < 256 → (classOf (UInt8.ofNat n) : Int) = refChain n ([43, 45, 42, 47, 92, 94, 60, 62, 61, 126, 58, 46, 63, 64, 35, 38, 36, 33].any fun b : UInt8 => (b.toNat : Int) == (n : Int)) ([40, 41, 44, 124, 59, 91, 93, 123, 125].any fun b : UInt8 => (b.toNat : Int) == (n : Int)) := by decide +kernel
set_option maxRecDepth 8000 in
set_option maxHeartbeats 2000000 in
theorem w126 (ds : List DV) (r : DV) (h : G80 ds = some r) : awp (tbl [(119, G135)]) c126 (PureQ [.t 2] r) ⟨argE 0 (dvArgs ds), ⟨0, []⟩⟩ := by
  unfold G80 at h
  split at h
  · rename_i n
    split at h
    · rename_i hn
      obtain ⟨k, rfl⟩ : ∃ k : Nat, n = (k : Int) := ⟨n.toNat, by omega⟩
      rw [Int.toNat_natCast, refClass k (by omega)] at h
      have hA : G135 [.c (.int .u8 (k : Int)), .c (.str [43, 45, 42, 47, 92, 94, 60, 62, 61, 126, 58, 46, 63, 64, 35, 38, 36, 33])] = some (.c (.bool ([43, 45, 42, 47, 92, 94, 60, 62, 61, 126, 58, 46, 63, 64, 35, 38, 36, 33].any fun b : UInt8 => (b.toNat : Int) == (k : Int)))) := by
        simp only [G135]
        rw [if_pos (by decide)]
      have hB : G135 [.c (.int .u8 (k : Int)), .c (.str [40, 41, 44, 124, 59, 91, 93, 123, 125])] = some (.c (.bool ([40, 41, 44, 124, 59, 91, 93, 123, 125].any fun b : UInt8 => (b.toNat : Int) == (k : Int)))) := by
        simp only [G135]
        rw [if_pos (by decide)]
      generalize ([43, 45, 42, 47, 92, 94, 60, 62, 61, 126, 58, 46, 63, 64, 35, 38, 36, 33].any fun b : UInt8 => (b.toNat : Int) == (k : Int)) = p at hA h
      generalize ([40, 41, 44, 124, 59, 91, 93, 123, 125].any fun b : UInt8 => (b.toNat : Int) == (k : Int)) = q at hB h
      obtain ⟨z, hz⟩ : ∃ z : Int, refChain k p q = z := ⟨_, rfl⟩
      rw [hz] at h
      obtain rfl := Option.some.inj h
      unfold refChain at hz
      unfold c126
      cases p <;> cases q <;> simp only [Bool.false_eq_true, if_false, if_true] at hz <;>
      (repeat' first
        | ((with_reducible first|apply ZD|apply ZE|apply ZF|apply ZG|apply ZH|apply ZI);rfl;rfl;all_goals (intro hc;first|(exfalso;omega)|skip))|((with_reducible first|apply ZJ|apply ZK);rfl;rfl;all_goals (intro hc;first|contradiction|skip))|((with_reducible first|apply ZL|apply ZM);rfl;rfl;omega;omega)|((with_reducible first|apply ZN|apply ZO);rfl;rfl;omega;omega;intro c hget hc)|((with_reducible apply ZP);rfl;(first|exact .inl rfl|assumption);rfl;rfl;omega;omega;omega;intro s' hs' hl')|((with_reducible apply ZQ);rfl;rfl;rfl;omega;omega;omega;intro s' hs' hl')|((with_reducible apply ZR);rfl)
        | ((with_reducible apply Z1 (f := 119));rfl;rfl;rfl;exact hA;rfl)
        | ((with_reducible apply Z1 (f := 119));rfl;rfl;rfl;exact hB;rfl)
        | refine GoH ?_|refine ZB rfl ?_|refine ZC rfl ?_)
      all_goals first
        | (rw [show z = 1 by omega]; exact ⟨_, rfl, rfl⟩)
        | (rw [show z = 2 by omega]; exact ⟨_, rfl, rfl⟩)
        | (rw [show z = 3 by omega]; exact ⟨_, rfl, rfl⟩)
        | (rw [show z = 4 by omega]; exact ⟨_, rfl, rfl⟩)
        | (rw [show z = 5 by omega]; exact ⟨_, rfl, rfl⟩)
        | (rw [show z = 6 by omega]; exact ⟨_, rfl, rfl⟩)
        | (rw [show z = 7 by omega]; exact ⟨_, rfl, rfl⟩)
        | (rw [show z = 8 by omega]; exact ⟨_, rfl, rfl⟩)
        | (rw [show z = 9 by omega]; exact ⟨_, rfl, rfl⟩)
        | (rw [show z = 0 by omega]; exact ⟨_, rfl, rfl⟩)
    · cases h
  · cases h
theorem pok126 (m : Int) : PureOk Go.Proofs.Tryz.prog (glb m) 110 G80 := pure_ok (fn126 m) (callOk_cons (pok135 m) (callOk_nil _ _)) w126
set_option maxRecDepth 8000 in
theorem w138 (ds : List DV) (r : DV) (h : G122 ds = some r) : awp (tbl [(110, G80)]) c138 (PureQ [.t 2] r) ⟨argE 0 (dvArgs ds), ⟨0, []⟩⟩ := by
  unfold G122 at h
  split at h
  · rename_i n
    split at h
    · rename_i hn
      have e0 : ((UInt8.ofNat n.toNat).toNat : Int) = n := by rw [UInt8.toNat_ofNat']; omega
      generalize UInt8.ofNat n.toNat = c at h e0
      subst e0
      cases h
      unfold c138
      repeat' first | ((with_reducible first|apply ZD|apply ZE|apply ZF|apply ZG|apply ZH|apply ZI);rfl;rfl;all_goals (intro hc;first|(exfalso;omega)|skip))|((with_reducible first|apply ZJ|apply ZK);rfl;rfl;all_goals (intro hc;first|contradiction|skip))|((with_reducible first|apply ZL|apply ZM);rfl;rfl;omega;omega)|((with_reducible first|apply ZN|apply ZO);rfl;rfl;omega;omega;intro c hget hc)|((with_reducible apply ZP);rfl;(first|exact .inl rfl|assumption);rfl;rfl;omega;omega;omega;intro s' hs' hl')|((with_reducible apply ZQ);rfl;rfl;rfl;omega;omega;omega;intro s' hs' hl')|((with_reducible apply ZR);rfl) | ((with_reducible apply Z1 (f := 110));rfl;rfl;rfl;exact (G80_eq _);rfl) | refine GoH ?_|refine ZB rfl ?_|refine ZC rfl ?_
      all_goals refine ⟨_, rfl, ?_⟩
      all_goals first
        | (rw [show nameC c = true by unfold nameC; simp; omega]; rfl)
        | (rw [show nameC c = false by unfold nameC; simp; omega]; rfl)
    · cases h
  · cases h
theorem pok138 (m : Int) : PureOk Go.Proofs.Tryz.prog (glb m) 122 G122 := pure_ok (fn138 m) (callOk_cons (pok126 m) (callOk_nil _ _)) w138
set_option maxRecDepth 8000 in
theorem w131 (ds : List DV) (r : DV) (h : G90 ds = some r) : awp (tbl [(110, G80)]) c131 (PureQ [.t 4] r) ⟨argE 0 (dvArgs ds), ⟨0, []⟩⟩ := by
  unfold G90 at h
  split at h
  · rename_i d k
    split at h
    · rename_i s hs
      obtain ⟨sz, rfl, hz⟩ := bytesV_eq hs
      split at h
      · rename_i hroom
        cases h
        have hl : (encB s).length = s.length := encB_length s
        unfold room at hroom
        unfold c131
        repeat' first | refine GoH ?_|refine ZB rfl ?_|refine ZC rfl ?_
        refine awp_loop (fun m st => ∃ i : Nat, i ≤ s.length ∧ m = s.length - i + 1 ∧ runOf k s = i + runOf k (s.drop i) ∧
          st = ⟨[(0, .c (.d (.list sz (encB s)))), (1, .c (.d (.int .i64 k))), (5, .c (.d (.int .i64 (i : Nat))))], ⟨0, []⟩⟩) (s.length + 1) ?_ (by rintro st ⟨i, h1, h2, _⟩; omega) ?_
        · exact weak_keep [0, 1, 5] rfl ⟨0, by omega, by omega, by simp, rfl⟩
        · rintro m K hK st ⟨i, hi, hm, hrun, rfl⟩
          by_cases hend : i = s.length
          · have e : runOf k s = i := by rw [hrun, hend, List.drop_length]; rfl
            rw [e]
            repeat' first | ((with_reducible first|apply ZD|apply ZE|apply ZF|apply ZG|apply ZH|apply ZI);rfl;rfl;all_goals (intro hc;first|(exfalso;omega)|skip))|((with_reducible first|apply ZJ|apply ZK);rfl;rfl;all_goals (intro hc;first|contradiction|skip))|((with_reducible first|apply ZL|apply ZM);rfl;rfl;omega;omega)|((with_reducible first|apply ZN|apply ZO);rfl;rfl;omega;omega;intro c hget hc)|((with_reducible apply ZP);rfl;(first|exact .inl rfl|assumption);rfl;rfl;omega;omega;omega;intro s' hs' hl')|((with_reducible apply ZQ);rfl;rfl;rfl;omega;omega;omega;intro s' hs' hl')|((with_reducible apply ZR);rfl) | refine GoH ?_|refine ZB rfl ?_|refine ZC rfl ?_
            exact ⟨_, rfl, rfl⟩
          · have hlt : i < s.length := by omega
            have hgt : s[i]? = some s[i] := List.getElem?_eq_getElem hlt
            have hdr : s.drop i = s[i] :: s.drop (i + 1) := List.drop_eq_getElem_cons hlt
            rw [hdr] at hrun
            repeat' first | ((with_reducible first|apply ZD|apply ZE|apply ZF|apply ZG|apply ZH|apply ZI);rfl;rfl;all_goals (intro hc;first|(exfalso;omega)|skip))|((with_reducible first|apply ZJ|apply ZK);rfl;rfl;all_goals (intro hc;first|contradiction|skip))|((with_reducible first|apply ZL|apply ZM);rfl;rfl;omega;omega)|((with_reducible first|apply ZN|apply ZO);rfl;rfl;omega;omega;intro c hget hc)|((with_reducible apply ZP);rfl;(first|exact .inl rfl|assumption);rfl;rfl;omega;omega;omega;intro s' hs' hl')|((with_reducible apply ZQ);rfl;rfl;rfl;omega;omega;omega;intro s' hs' hl')|((with_reducible apply ZR);rfl) | ((with_reducible apply Z1 (f := 110));rfl;rfl;rfl;exact (G80_eq _);rfl) | refine GoH ?_|refine ZB rfl ?_|refine ZC rfl ?_
            · have e0 : c = s[i] := Option.some.inj (hget.symm.trans (by simp))
              rw [e0] at hc
              refine hK _ (weak_keep [0, 1, 5] rfl ⟨i + 1, by omega, by omega, ?_, rfl⟩)
              rw [hrun]
              simp only [runOf, if_pos hc]
              omega
            · have e0 : c = s[i] := Option.some.inj (hget.symm.trans (by simp))
              rw [e0] at hc
              have e : runOf k s = i := by rw [hrun]; simp only [runOf, if_neg hc]; omega
              rw [e]
              exact ⟨_, rfl, rfl⟩
      · cases h
    · cases h
  · cases h
theorem pok131 (m : Int) : PureOk Go.Proofs.Tryz.prog (glb m) 115 G90 := pure_ok (fn131 m) (callOk_cons (pok126 m) (callOk_nil _ _)) w131
section
variable {cl : Call} {d : Nat} {r : List AOper} {K : St → Prop} {env : Env} {hp : Hp} {x y : Opd} {k : IntKind} {a b : Int} {past : List (Nat × Ent)} {j bb : Nat} {bs : List Nat}
theorem dstep_c {op : BinOp} {v : Bool} (hx : ev env x = .c (.d (.int k a))) (hy : ev env y = .c (.d (.int k b))) (hr : binInt op k a b = some (.bool v)) (hs : isShift op = false)
    (h1 : v = true → dopsWp cl past (j + 1) bs r K ⟨(d, .c (.d (.bool true))) :: env, hp⟩) (h2 : v = false → dopsWp cl past (j + 1) bs r K ⟨(d, .c (.d (.bool false))) :: env, hp⟩) : dopsWp cl past j (bb :: bs) (⟨some d, .bin op x y, none⟩ :: r) K ⟨env, hp⟩ := by
  cases v
  · exact ZX rfl (ev_cmp hx hy hr hs) (h2 rfl)
  · exact ZX rfl (ev_cmp hx hy hr hs) (h1 rfl)
end
def G136 : List DV → Option DV
  | [.c (.int .u8 n)] => if 0 ≤ n ∧ n < 256 then some (.c (.int .i64 (longOf (UInt8.ofNat n.toNat)))) else none
  | _ => none
theorem G136_eq (b : UInt8) : G136 [.c (.int .u8 b.toNat)] = some (.c (.int .i64 (longOf b))) := by
  have := b.toNat_lt
  have hb : (0 : Int) ≤ (b.toNat : Int) ∧ (b.toNat : Int) < 256 := by omega
  simp [G136, hb]
set_option maxRecDepth 8000 in
theorem w136 (ds : List DV) (r : DV) (h : G136 ds = some r) : awp (tbl []) c136 (PureQ [.t 2] r) ⟨argE 0 (dvArgs ds), ⟨0, []⟩⟩ := by
  unfold G136 at h
  split at h
  · rename_i n
    split at h
    · rename_i hn
      have e0 : ((UInt8.ofNat n.toNat).toNat : Int) = n := by rw [UInt8.toNat_ofNat']; omega
      generalize UInt8.ofNat n.toNat = c at h e0
      subst e0
      cases h
      unfold c136
      repeat' first | ((with_reducible first|apply ZD|apply ZE|apply ZF|apply ZG|apply ZH|apply ZI);rfl;rfl;all_goals (intro hc;first|(exfalso;omega)|skip))|((with_reducible first|apply ZJ|apply ZK);rfl;rfl;all_goals (intro hc;first|contradiction|skip))|((with_reducible first|apply ZL|apply ZM);rfl;rfl;omega;omega)|((with_reducible first|apply ZN|apply ZO);rfl;rfl;omega;omega;intro c hget hc)|((with_reducible apply ZP);rfl;(first|exact .inl rfl|assumption);rfl;rfl;omega;omega;omega;intro s' hs' hl')|((with_reducible apply ZQ);rfl;rfl;rfl;omega;omega;omega;intro s' hs' hl')|((with_reducible apply ZR);rfl) | refine GoH ?_|refine ZB rfl ?_|refine ZC rfl ?_
      all_goals
        refine ⟨_, rfl, ?_⟩
        unfold longOf
      · rw [if_pos (by omega)]; rfl
      · rw [if_neg (by omega), if_pos (by omega)]; rfl
      · rw [if_neg (by omega), if_pos (by omega)]; rfl
      · rw [if_neg (by omega), if_neg (by omega), if_pos (by omega)]; rfl
      · rw [if_neg (by omega), if_neg (by omega), if_neg (by omega), if_pos (by omega)]; rfl
      · rw [if_neg (by omega), if_neg (by omega), if_neg (by omega), if_neg (by omega)]; rfl
    · cases h
  · cases h
theorem pok136 (m : Int) : PureOk Go.Proofs.Tryz.prog (glb m) 120 G136 := pure_ok (fn136 m) (callOk_nil _ _) w136
def G137 : List DV → Option DV
  | [.c (.int .u8 n), .c (.int .u8 k)] => if 0 ≤ n ∧ n < 256 ∧ 0 ≤ k ∧ k < 256 then some (.c (.bool (secB (UInt8.ofNat n.toNat) (UInt8.ofNat k.toNat)))) else none
  | _ => none
theorem G137_eq (b d : UInt8) : G137 [.c (.int .u8 b.toNat), .c (.int .u8 d.toNat)] = some (.c (.bool (secB b d))) := by
  have := b.toNat_lt
  have := d.toNat_lt
  have hb : (0 : Int) ≤ (b.toNat : Int) ∧ (b.toNat : Int) < 256 ∧ (0 : Int) ≤ (d.toNat : Int) ∧ (d.toNat : Int) < 256 := by omega
  simp [G137, hb]
set_option maxRecDepth 8000 in
theorem w137 (ds : List DV) (r : DV) (h : G137 ds = some r) : awp (tbl []) c137 (PureQ [.t 4] r) ⟨argE 0 (dvArgs ds), ⟨0, []⟩⟩ := by
  unfold G137 at h
  split at h
  · rename_i n k
    split at h
    · rename_i hn
      have e0 : ((UInt8.ofNat n.toNat).toNat : Int) = n := by rw [UInt8.toNat_ofNat']; omega
      have e1 : ((UInt8.ofNat k.toNat).toNat : Int) = k := by rw [UInt8.toNat_ofNat']; omega
      generalize UInt8.ofNat n.toNat = c at h e0
      generalize UInt8.ofNat k.toNat = d at h e1
      subst e0
      subst e1
      cases h
      unfold c137
      repeat' first | ((with_reducible first|apply ZD|apply ZE|apply ZF|apply ZG|apply ZH|apply ZI);rfl;rfl;all_goals (intro hc;first|(exfalso;omega)|skip))|((with_reducible first|apply ZJ|apply ZK);rfl;rfl;all_goals (intro hc;first|contradiction|skip))|((with_reducible first|apply ZL|apply ZM);rfl;rfl;omega;omega)|((with_reducible first|apply ZN|apply ZO);rfl;rfl;omega;omega;intro c hget hc)|((with_reducible apply ZP);rfl;(first|exact .inl rfl|assumption);rfl;rfl;omega;omega;omega;intro s' hs' hl')|((with_reducible apply ZQ);rfl;rfl;rfl;omega;omega;omega;intro s' hs' hl')|((with_reducible apply ZR);rfl) | refine GoH ?_|refine ZB rfl ?_|refine ZC rfl ?_
      all_goals
        refine ⟨_, rfl, ?_⟩
        first
        | (rw [show secB c d = true by unfold secB lowB topB; simp only [Bool.and_eq_true, decide_eq_true_eq]; constructor <;> (repeat' split) <;> omega]; rfl)
        | (rw [show secB c d = false by unfold secB lowB topB; simp only [Bool.and_eq_false_iff, decide_eq_false_iff_not]; first | (left; (repeat' split) <;> omega) | (right; (repeat' split) <;> omega)]; rfl)
    · cases h
  · cases h
theorem pok137 (m : Int) : PureOk Go.Proofs.Tryz.prog (glb m) 121 G137 := pure_ok (fn137 m) (callOk_nil _ _) w137
set_option maxRecDepth 8000 in
set_option maxHeartbeats 4000000 in
theorem w129 (sz : Nat) (s : List UInt8) (_ : sz = 1 ∨ s = []) (hroom : s.length ≤ room) : awp (tbl [(120, G136), (121, G137)]) c129 (PureQ [.t 2, .t 3] (FTake s)) ⟨argE 0 (dvArgs [.c (.list sz (encB s))]), ⟨0, []⟩⟩ := by
  have hl : (encB s).length = s.length := encB_length s
  unfold room at hroom
  unfold FTake
  by_cases hs0 : s = []
  · subst hs0
    have hl0 : (encB ([] : List UInt8)).length = 0 := rfl
    unfold c129
    repeat' first | ((with_reducible first|apply ZD|apply ZE|apply ZF|apply ZG|apply ZH|apply ZI);rfl;rfl;all_goals (intro hc;first|(exfalso;omega)|skip))|((with_reducible first|apply ZJ|apply ZK);rfl;rfl;all_goals (intro hc;first|contradiction|skip))|((with_reducible first|apply ZL|apply ZM);rfl;rfl;omega;omega)|((with_reducible first|apply ZN|apply ZO);rfl;rfl;omega;omega;intro c hget hc)|((with_reducible apply ZP);rfl;(first|exact .inl rfl|assumption);rfl;rfl;omega;omega;omega;intro s' hs' hl')|((with_reducible apply ZQ);rfl;rfl;rfl;omega;omega;omega;intro s' hs' hl')|((with_reducible apply ZR);rfl) | refine GoH ?_|refine ZB rfl ?_|refine ZC rfl ?_
    exact ⟨_, rfl, rfl⟩
  · have hp0 : 0 < s.length := List.length_pos_iff.2 hs0
    have hget0 : s[0]? = some s[0] := List.getElem?_eq_getElem hp0
    have hc0 := UInt8.toNat_lt s[0]
    generalize s[0] = c at hget0 hc0
    have hlong := longOf_le c
    unfold c129
    repeat' first
      | ((with_reducible apply step_byteN (i := 0)); rfl; rfl; exact hget0)
      | ((with_reducible first|apply ZD|apply ZE|apply ZF|apply ZG|apply ZH|apply ZI);rfl;rfl;all_goals (intro hc;first|(exfalso;omega)|skip))|((with_reducible first|apply ZJ|apply ZK);rfl;rfl;all_goals (intro hc;first|contradiction|skip))|((with_reducible first|apply ZL|apply ZM);rfl;rfl;omega;omega)|((with_reducible first|apply ZN|apply ZO);rfl;rfl;omega;omega;intro c hget hc)|((with_reducible apply ZP);rfl;(first|exact .inl rfl|assumption);rfl;rfl;omega;omega;omega;intro s' hs' hl')|((with_reducible apply ZQ);rfl;rfl;rfl;omega;omega;omega;intro s' hs' hl')|((with_reducible apply ZR);rfl)
      | ((with_reducible apply Z1 (f := 120));rfl;rfl;rfl;exact (G136_eq _);rfl)
      | refine GoH ?_|refine ZB rfl ?_|refine ZC rfl ?_
      | with_reducible apply ZS
      | ((with_reducible apply dstep_c); rfl; rfl; rfl; rfl; all_goals (intro hc; (try simp only [decide_eq_true_eq, decide_eq_false_iff_not, beq_iff_eq, beq_eq_false_iff_ne, ne_eq] at hc); first | (exfalso; omega) | skip))
      | (refine ZY (ev_idx rfl rfl (by omega) (encB_at hget0) rfl) (by (repeat' first|exact True.intro|refine ⟨?_, ?_⟩|exact .inl rfl|exact .inr (.inl rfl)|exact .inr (.inr rfl)|rfl)) ?_)
      | ((with_reducible apply dstep_byte); rfl; rfl; omega; omega; intro c1 hget1 hcb1 hall1)
      | (obtain ⟨v1, hv1⟩ : ∃ v, secB c c1 = v := ⟨_, rfl⟩; have e1 := G137_eq c c1; rw [hv1] at e1; refine ZY (ev_pcall rfl rfl e1 rfl rfl) (by (repeat' first|exact True.intro|refine ⟨?_, ?_⟩|exact .inl rfl|exact .inr (.inl rfl)|exact .inr (.inr rfl)|rfl)) ?_; cases v1)
      | (with_reducible first|apply ZS|apply ZT)|((with_reducible apply ZU);rfl)|((with_reducible apply ZV);rfl;decide)|((with_reducible apply ZW);rfl)|refine ZX rfl rfl ?_|refine ZY rfl (by (repeat' first|exact True.intro|refine ⟨?_, ?_⟩|exact .inl rfl|exact .inr (.inl rfl)|exact .inr (.inr rfl)|rfl)) ?_
      | (rw [take_no hget0 (by first | exact .inl (by omega) | exact .inr (.inl (by omega)) | exact .inr (.inr (.inl ⟨_, hget1, by omega, by assumption⟩)))]; exact ⟨_, rfl, rfl⟩)
    all_goals
      have hsec : ∀ d, s[1]? = some d → 1 < longOf c → secB c d = true := by
        first
        | (intro d hd h; exfalso; omega)
        | (intro d hd h; obtain rfl := Option.some.inj (hget1.symm.trans hd); assumption)
      refine awp_loop (fun m st => ∃ i : Nat, 2 ≤ i ∧ i + m = 5 ∧ (i ≤ 2 ∨ i ≤ longOf c) ∧ (∀ k d, 2 ≤ k → k < i → s[k]? = some d → contB d = true) ∧
        st = ⟨[(0, .c (.d (.list sz (encB s)))), (4, .c (.d (.int .i64 (longOf c : Nat)))), (5, .c (.d (.int .i64 (i : Nat))))], ⟨0, []⟩⟩) 3 ?_ (by rintro st ⟨i, h1, h2, h3, _⟩; omega) ?_
      · exact weak_keep [0, 4, 5] rfl ⟨2, by omega, by omega, by omega, fun k d _ _ => by omega, rfl⟩
      · rintro m K hK st ⟨i, h1, h2, h3, hcont, rfl⟩
        repeat' first
          | ((with_reducible first|apply ZD|apply ZE|apply ZF|apply ZG|apply ZH|apply ZI);rfl;rfl;all_goals (intro hc;first|(exfalso;omega)|skip))|((with_reducible first|apply ZJ|apply ZK);rfl;rfl;all_goals (intro hc;first|contradiction|skip))|((with_reducible first|apply ZL|apply ZM);rfl;rfl;omega;omega)|((with_reducible first|apply ZN|apply ZO);rfl;rfl;omega;omega;intro c hget hc)|((with_reducible apply ZP);rfl;(first|exact .inl rfl|assumption);rfl;rfl;omega;omega;omega;intro s' hs' hl')|((with_reducible apply ZQ);rfl;rfl;rfl;omega;omega;omega;intro s' hs' hl')|((with_reducible apply ZR);rfl)
          | refine GoH ?_|refine ZB rfl ?_|refine ZC rfl ?_
          | (rw [take_yes hget0 (by omega) (by omega) hsec (fun k d a1 a2 => hcont k d a1 (by omega))]; exact ⟨_, rfl, rfl⟩)
          | (rw [take_no hget0 (.inr (.inr (.inr ⟨i, _, h1, by omega, by assumption, by unfold contB; simp only [Bool.and_eq_false_iff, decide_eq_false_iff_not]; omega⟩)))]; exact ⟨_, rfl, rfl⟩)
          | (refine hK _ (weak_keep [0, 4, 5] rfl ⟨i + 1, by omega, by omega, by omega, fun k d a1 a2 hk => ?_, rfl⟩)
             (by_cases hki : k = i
              · subst hki; obtain rfl := Option.some.inj (hget.symm.trans hk); clear hget; rename s[Int.toNat _]? = some _ => hB; obtain rfl := Option.some.inj (hB.symm.trans hk); unfold contB; simp only [Bool.and_eq_true, decide_eq_true_eq]; omega
              · exact hcont k d a1 (by omega) hk))
theorem pok129 (m : Int) : PureOk Go.Proofs.Tryz.prog (glb m) 113 (onB FTake) := onB_ok (fn129 m) (callOk_cons (pok136 m) (callOk_cons (pok137 m) (callOk_nil _ _))) w129
set_option maxRecDepth 8000 in
set_option maxHeartbeats 4000000 in
theorem w130 (sz : Nat) (s : List UInt8) (hz : sz = 1 ∨ s = []) (hroom : s.length ≤ room) : awp (tbl [(113, onB FTake), (122, G122)]) c130 (PureQ [.t 2] (FName s)) ⟨argE 0 (dvArgs [.c (.list sz (encB s))]), ⟨0, []⟩⟩ := by
  have hl : (encB s).length = s.length := encB_length s
  unfold room at hroom
  unfold FName c130
  repeat' first | ((with_reducible first|apply ZD|apply ZE|apply ZF|apply ZG|apply ZH|apply ZI);rfl;rfl;all_goals (intro hc;first|(exfalso;omega)|skip))|((with_reducible first|apply ZJ|apply ZK);rfl;rfl;all_goals (intro hc;first|contradiction|skip))|((with_reducible first|apply ZL|apply ZM);rfl;rfl;omega;omega)|((with_reducible first|apply ZN|apply ZO);rfl;rfl;omega;omega;intro c hget hc)|((with_reducible apply ZP);rfl;(first|exact .inl rfl|assumption);rfl;rfl;omega;omega;omega;intro s' hs' hl')|((with_reducible apply ZQ);rfl;rfl;rfl;omega;omega;omega;intro s' hs' hl')|((with_reducible apply ZR);rfl) | refine GoH ?_|refine ZB rfl ?_|refine ZC rfl ?_
  refine awp_loop (fun m st => ∃ i : Nat, i ≤ s.length ∧ s.length - i < m ∧ nameOf s = i + nameOf (s.drop i) ∧ st = ⟨[(0, .c (.d (.list sz (encB s)))), (3, .c (.d (.int .i64 (i : Nat))))], ⟨0, []⟩⟩) (s.length + 1) ?_ (by rintro st ⟨i, h1, h2, _⟩; omega) ?_
  · exact weak_keep [0, 3] rfl ⟨0, by omega, by omega, by simp, rfl⟩
  · rintro m K hK st ⟨i, hi, hm, hname, rfl⟩
    by_cases hend : i = s.length
    · have e : nameOf s = i := by rw [hname, hend, List.drop_length]; rfl
      rw [e]
      repeat' first | ((with_reducible first|apply ZD|apply ZE|apply ZF|apply ZG|apply ZH|apply ZI);rfl;rfl;all_goals (intro hc;first|(exfalso;omega)|skip))|((with_reducible first|apply ZJ|apply ZK);rfl;rfl;all_goals (intro hc;first|contradiction|skip))|((with_reducible first|apply ZL|apply ZM);rfl;rfl;omega;omega)|((with_reducible first|apply ZN|apply ZO);rfl;rfl;omega;omega;intro c hget hc)|((with_reducible apply ZP);rfl;(first|exact .inl rfl|assumption);rfl;rfl;omega;omega;omega;intro s' hs' hl')|((with_reducible apply ZQ);rfl;rfl;rfl;omega;omega;omega;intro s' hs' hl')|((with_reducible apply ZR);rfl) | refine GoH ?_|refine ZB rfl ?_|refine ZC rfl ?_
      exact ⟨_, rfl, rfl⟩
    · obtain ⟨c, hg, hdr, hg0⟩ := at_of (show i < s.length by omega)
      obtain ⟨k, ok, hT⟩ : ∃ k ok, takeOf (s.drop i) = (k, ok) := ⟨_, _, rfl⟩
      have hk := take_le (s.drop i)
      have hk1 := take_pos (s := s.drop i) (by rw [hdr]; simp)
      rw [hT] at hk hk1
      simp only [List.length_drop] at hk hk1
      cases ok <;>
      repeat' first
        | ((with_reducible apply step_byteN); rfl; rfl; exact hg)
        | ((with_reducible first|apply ZD|apply ZE|apply ZF|apply ZG|apply ZH|apply ZI);rfl;rfl;all_goals (intro hc;first|(exfalso;omega)|skip))|((with_reducible first|apply ZJ|apply ZK);rfl;rfl;all_goals (intro hc;first|contradiction|skip))|((with_reducible first|apply ZL|apply ZM);rfl;rfl;omega;omega)|((with_reducible first|apply ZN|apply ZO);rfl;rfl;omega;omega;intro c hget hc)|((with_reducible apply ZP);rfl;(first|exact .inl rfl|assumption);rfl;rfl;omega;omega;omega;intro s' hs' hl')|((with_reducible apply ZQ);rfl;rfl;rfl;omega;omega;omega;intro s' hs' hl')|((with_reducible apply ZR);rfl)
        | (((with_reducible apply Z1 (f := 122));rfl;rfl;rfl;exact (G122_eq _);rfl); refine step_bool (fun hb => ?_) (fun hb => ?_))
        | ((with_reducible apply Z1 (f := 113)); rfl; rfl; rfl; exact take_call (.inl rfl) (by unfold room; omega) ((congrArg takeOf (by rw [hs']; simp)).trans hT); rfl)
        | refine GoH ?_|refine ZB rfl ?_|refine ZC rfl ?_
        | (refine hK _ (weak_keep [0, 3] rfl ⟨i + 1, by omega, by omega, ?_, rfl⟩)
           (have hT1 := take_low hg0 (nameC_low hb)
            have hgo := nameOf_go hg0 (by rw [hT1]) (.inr hb)
            rw [hT1] at hgo
            simp only [List.drop_drop] at hgo
            omega))
        | (refine hK _ (weak_keep [0, 3] rfl ⟨i + k, by omega, by omega, ?_, rfl⟩)
           (have hgo := nameOf_go hg0 (by rw [hT]) (.inl (by rw [hT]; show k ≠ 1; omega))
            rw [hT] at hgo
            simp only [List.drop_drop] at hgo
            omega))
        | (rw [show nameOf s = i by rw [hname, nameOf_stop hg0 (by rw [hT]; first | exact .inl rfl | exact .inr ⟨by show k = 1; omega, hb⟩)]; rfl]; exact ⟨_, rfl, rfl⟩)
theorem pok130 (m : Int) : PureOk Go.Proofs.Tryz.prog (glb m) 114 (onB FName) := onB_ok (fn130 m) (callOk_cons (pok129 m) (callOk_cons (pok138 m) (callOk_nil _ _))) w130
theorem numF_step {v : Int} {b : UInt8} {r : List UInt8} (h : v * 10 + ((b.toNat : Int) - 48) ≤ 2147483647) : numF v (b :: r) = numF (v * 10 + ((b.toNat : Int) - 48)) r := by
  simp only [numF]
  rw [if_neg (by omega)]
theorem numF_big {v : Int} {b : UInt8} {r : List UInt8} (h : 2147483647 < v * 10 + ((b.toNat : Int) - 48)) : numF v (b :: r) = none := by
  simp only [numF]
  rw [if_pos h]
set_option maxRecDepth 8000 in
set_option maxHeartbeats 4000000 in
theorem w133 (sz : Nat) (s : List UInt8) (hz : sz = 1 ∨ s = []) (hroom : s.length ≤ room) : awp (tbl [(115, G90)]) c133 (PureQ [.t 2, .t 3, .t 4] (FNum s)) ⟨argE 0 (dvArgs [.c (.list sz (encB s))]), ⟨0, []⟩⟩ := by
  have hl : (encB s).length = s.length := encB_length s
  have hrun := runOf_le 4 s
  have hdig := fun (i : Nat) (c : UInt8) (h : i < runOf 4 s) (hc : s[i]? = some c) => digit_byte c (runOf_get h hc)
  have h0 := k90 sz s 4 hz hroom
  have hnum : numOf s = if runOf 4 s = 0 then ((0, 0, 2) : Int × Nat × Int) else match numF 0 (s.take (runOf 4 s)) with | some v => (v, runOf 4 s, 0) | none => (0, runOf 4 s, 4) := rfl
  generalize runOf 4 s = n at hrun hdig h0 hnum
  unfold room at hroom
  unfold FNum c133
  repeat' first
    | ((with_reducible first|apply ZD|apply ZE|apply ZF|apply ZG|apply ZH|apply ZI);rfl;rfl;all_goals (intro hc;first|(exfalso;omega)|skip))|((with_reducible first|apply ZJ|apply ZK);rfl;rfl;all_goals (intro hc;first|contradiction|skip))|((with_reducible first|apply ZL|apply ZM);rfl;rfl;omega;omega)|((with_reducible first|apply ZN|apply ZO);rfl;rfl;omega;omega;intro c hget hc)|((with_reducible apply ZP);rfl;(first|exact .inl rfl|assumption);rfl;rfl;omega;omega;omega;intro s' hs' hl')|((with_reducible apply ZQ);rfl;rfl;rfl;omega;omega;omega;intro s' hs' hl')|((with_reducible apply ZR);rfl)
    | ((with_reducible apply Z1 (f := 115));rfl;rfl;rfl;exact h0;rfl)
    | refine GoH ?_|refine ZB rfl ?_|refine ZC rfl ?_
    | (rw [hnum, if_pos (by omega)]; exact ⟨_, rfl, rfl⟩)
  rw [if_neg (by omega)] at hnum
  have htl : (s.take n).length = n := by simp; omega
  refine awp_loop (fun m st => ∃ (i : Nat) (v : Int), i ≤ n ∧ m = n - i + 1 ∧ 0 ≤ v ∧ v ≤ 2147483647 ∧ numF 0 (s.take n) = numF v ((s.take n).drop i) ∧ st = ⟨[(0, .c (.d (.list sz (encB s)))), (5, .c (.d (.int .i64 (n : Nat)))), (6, .c (.d (.int .i64 v))), (7, .c (.d (.int .i64 (i : Nat))))], ⟨0, []⟩⟩) (n + 1) ?_ (by rintro st ⟨i, v, h1, h2, _⟩; omega) ?_
  · exact weak_keep [0, 5, 6, 7] rfl ⟨0, 0, by omega, by omega, by omega, by omega, by simp, rfl⟩
  · rintro m K hK st ⟨i, v, hi, hm, hv0, hv1, hnf, rfl⟩
    by_cases hend : i = n
    · have e : numOf s = (v, n, 0) := by rw [hnum, hnf, hend, List.drop_eq_nil_of_le (by omega)]; rfl
      rw [e]
      repeat' first | ((with_reducible first|apply ZD|apply ZE|apply ZF|apply ZG|apply ZH|apply ZI);rfl;rfl;all_goals (intro hc;first|(exfalso;omega)|skip))|((with_reducible first|apply ZJ|apply ZK);rfl;rfl;all_goals (intro hc;first|contradiction|skip))|((with_reducible first|apply ZL|apply ZM);rfl;rfl;omega;omega)|((with_reducible first|apply ZN|apply ZO);rfl;rfl;omega;omega;intro c hget hc)|((with_reducible apply ZP);rfl;(first|exact .inl rfl|assumption);rfl;rfl;omega;omega;omega;intro s' hs' hl')|((with_reducible apply ZQ);rfl;rfl;rfl;omega;omega;omega;intro s' hs' hl')|((with_reducible apply ZR);rfl) | refine GoH ?_|refine ZB rfl ?_|refine ZC rfl ?_
      exact ⟨_, rfl, rfl⟩
    · obtain ⟨c, hg, hdr, hg0⟩ := at_of (show i < (s.take n).length by omega)
      have hgs : s[i]? = some c := by
        rw [List.getElem?_take] at hg
        split at hg
        · exact hg
        · cases hg
      have hc := hdig i c (by omega) hgs
      rw [hdr] at hnf
      repeat' first
        | ((with_reducible apply step_byteN); rfl; rfl; exact hgs)
        | ((with_reducible apply step_muli); rfl; rfl; omega; omega)
        | ((with_reducible first|apply ZD|apply ZE|apply ZF|apply ZG|apply ZH|apply ZI);rfl;rfl;all_goals (intro hc;first|(exfalso;omega)|skip))|((with_reducible first|apply ZJ|apply ZK);rfl;rfl;all_goals (intro hc;first|contradiction|skip))|((with_reducible first|apply ZL|apply ZM);rfl;rfl;omega;omega)|((with_reducible first|apply ZN|apply ZO);rfl;rfl;omega;omega;intro c hget hc)|((with_reducible apply ZP);rfl;(first|exact .inl rfl|assumption);rfl;rfl;omega;omega;omega;intro s' hs' hl')|((with_reducible apply ZQ);rfl;rfl;rfl;omega;omega;omega;intro s' hs' hl')|((with_reducible apply ZR);rfl)
        | ((with_reducible apply step_sub8); rfl; rfl; omega; omega)
        | ((with_reducible apply step_toI); rfl; omega; omega)
        | refine GoH ?_|refine ZB rfl ?_|refine ZC rfl ?_
        | (rw [numF_step (by omega)] at hnf; exact hK _ (weak_keep [0, 5, 6, 7] rfl ⟨i + 1, _, by omega, by omega, by omega, by omega, hnf, rfl⟩))
        | (rw [numF_big (by omega)] at hnf; rw [hnum, hnf]; exact ⟨_, rfl, rfl⟩)
theorem pok133 (m : Int) : PureOk Go.Proofs.Tryz.prog (glb m) 117 (onB FNum) := onB_ok (fn133 m) (callOk_cons (pok131 m) (callOk_nil _ _)) w133
def FAt (s : List UInt8) (i : Nat) : DV := .c (.int .u8 (nxt s i))
set_option maxRecDepth 8000 in
theorem w139 (sz : Nat) (s : List UInt8) (i : Nat) (_ : sz = 1 ∨ s = []) (_ : s.length ≤ room) (_ : (fun (_ : List UInt8) (_ : Nat) => true) s i = true) : awp (tbl []) c139 (PureQ [.t 4] (FAt s i)) ⟨argE 0 (dvArgs [.c (.list sz (encB s)), .c (.int .i64 (i : Nat))]), ⟨0, []⟩⟩ := by
  have hl : (encB s).length = s.length := encB_length s
  unfold FAt
  by_cases hlt : i < s.length
  · obtain ⟨c, hg, _, _⟩ := at_of hlt
    rw [nxt_some hg]
    unfold c139
    repeat' first | ((with_reducible apply step_byteN); rfl; rfl; exact hg) | ((with_reducible first|apply ZD|apply ZE|apply ZF|apply ZG|apply ZH|apply ZI);rfl;rfl;all_goals (intro hc;first|(exfalso;omega)|skip))|((with_reducible first|apply ZJ|apply ZK);rfl;rfl;all_goals (intro hc;first|contradiction|skip))|((with_reducible first|apply ZL|apply ZM);rfl;rfl;omega;omega)|((with_reducible first|apply ZN|apply ZO);rfl;rfl;omega;omega;intro c hget hc)|((with_reducible apply ZP);rfl;(first|exact .inl rfl|assumption);rfl;rfl;omega;omega;omega;intro s' hs' hl')|((with_reducible apply ZQ);rfl;rfl;rfl;omega;omega;omega;intro s' hs' hl')|((with_reducible apply ZR);rfl) | refine GoH ?_|refine ZB rfl ?_|refine ZC rfl ?_
    exact ⟨_, rfl, rfl⟩
  · rw [nxt_none (by omega)]
    unfold c139
    repeat' first | ((with_reducible first|apply ZD|apply ZE|apply ZF|apply ZG|apply ZH|apply ZI);rfl;rfl;all_goals (intro hc;first|(exfalso;omega)|skip))|((with_reducible first|apply ZJ|apply ZK);rfl;rfl;all_goals (intro hc;first|contradiction|skip))|((with_reducible first|apply ZL|apply ZM);rfl;rfl;omega;omega)|((with_reducible first|apply ZN|apply ZO);rfl;rfl;omega;omega;intro c hget hc)|((with_reducible apply ZP);rfl;(first|exact .inl rfl|assumption);rfl;rfl;omega;omega;omega;intro s' hs' hl')|((with_reducible apply ZQ);rfl;rfl;rfl;omega;omega;omega;intro s' hs' hl')|((with_reducible apply ZR);rfl) | refine GoH ?_|refine ZB rfl ?_|refine ZC rfl ?_
    exact ⟨_, rfl, rfl⟩
theorem pok139 (m : Int) : PureOk Go.Proofs.Tryz.prog (glb m) 123 (onBI (fun _ _ => true) FAt) := onBI_ok (fn139 m) (callOk_nil _ _) w139
theorem at_call {sz : Nat} {s : List UInt8} {v : Int} (i : Nat) (hz : sz = 1 ∨ s = []) (hr : s.length ≤ room) (h : v = i) : onBI (fun _ _ => true) FAt [.c (.list sz (encB s)), .c (.int .i64 v)] = some (.c (.int .u8 (nxt s i))) := by
  subst h
  exact onBI_eq hz hr rfl
theorem slice_take {s s' : List UInt8} {v : Int} {i k : Nat} (h : s' = (s.take v.toNat).drop (i : Int).toNat) (hv : v = i + k) : s' = (s.drop i).take k := by
  subst hv
  rw [h, show ((i : Int) + (k : Int)).toNat = i + k by omega, show ((i : Int)).toNat = i by omega, List.drop_take]
  congr 1
  omega
set_option maxRecDepth 8000 in
set_option maxHeartbeats 8000000 in
theorem w134 (sz : Nat) (s : List UInt8) (hz : sz = 1 ∨ s = []) (hroom : s.length ≤ room) : awp (tbl [(113, onB FTake), (123, onBI (fun _ _ => true) FAt)]) c134 (PureQ [.t 2, .t 3, .t 4] (FQuote 0 s)) ⟨argE 0 (dvArgs [.c (.list sz (encB s))]), ⟨0, []⟩⟩ := by
  have hl : (encB s).length = s.length := encB_length s
  have hroom' := hroom
  unfold room at hroom
  have hn0 := nxt_lt s 0
  unfold c134
  repeat' first
    | ((with_reducible first|apply ZD|apply ZE|apply ZF|apply ZG|apply ZH|apply ZI);rfl;rfl;all_goals (intro hc;first|(exfalso;omega)|skip))|((with_reducible first|apply ZJ|apply ZK);rfl;rfl;all_goals (intro hc;first|contradiction|skip))|((with_reducible first|apply ZL|apply ZM);rfl;rfl;omega;omega)|((with_reducible first|apply ZN|apply ZO);rfl;rfl;omega;omega;intro c hget hc)|((with_reducible apply ZP);rfl;(first|exact .inl rfl|assumption);rfl;rfl;omega;omega;omega;intro s' hs' hl')|((with_reducible apply ZQ);rfl;rfl;rfl;omega;omega;omega;intro s' hs' hl')|((with_reducible apply ZR);rfl)
    | ((with_reducible apply Z1 (f := 123));rfl;rfl;rfl;exact (at_call 0 hz hroom' rfl);rfl)
    | refine GoH ?_|refine ZB rfl ?_|refine ZC rfl ?_
    | (rw [fq_none (by omega)]; exact ⟨_, rfl, rfl⟩)
  have h39 : nxt s 0 = 39 := by omega
  have h0 : 0 < s.length := nxt_in (by omega)
  refine awp_loop (fun m st => ∃ (i : Nat) (text : List UInt8), 1 ≤ i ∧ i ≤ s.length ∧ text.length ≤ i ∧ s.length - i < m ∧ quoteR (s.drop 1) = addQ text (i - 1) (quoteR (s.drop i)) ∧
    st = ⟨[(0, .c (.d (.list sz (encB s)))), (5, .c (.own 0 (encB text).length)), (6, .c (.d (.int .i64 (i : Nat))))], ⟨1, [(0, .row 1 (encB text))]⟩⟩)
    (s.length + 1) ?_ (by rintro st ⟨i, text, h1, h2, h3, h4, _⟩; omega) ?_
  · exact weak_keep [0, 5, 6] rfl ⟨1, [], by omega, by omega, by simp, by omega, by simp [addQ], rfl⟩
  · rintro m K hK st ⟨i, text, h1, h2, h3, h4, hq, rfl⟩
    by_cases hend : i = s.length
    · rw [fq_err h39 hq h1 (qend (by omega)) (by decide)]
      repeat' first | ((with_reducible first|apply ZD|apply ZE|apply ZF|apply ZG|apply ZH|apply ZI);rfl;rfl;all_goals (intro hc;first|(exfalso;omega)|skip))|((with_reducible first|apply ZJ|apply ZK);rfl;rfl;all_goals (intro hc;first|contradiction|skip))|((with_reducible first|apply ZL|apply ZM);rfl;rfl;omega;omega)|((with_reducible first|apply ZN|apply ZO);rfl;rfl;omega;omega;intro c hget hc)|((with_reducible apply ZP);rfl;(first|exact .inl rfl|assumption);rfl;rfl;omega;omega;omega;intro s' hs' hl')|((with_reducible apply ZQ);rfl;rfl;rfl;omega;omega;omega;intro s' hs' hl')|((with_reducible apply ZR);rfl) | refine GoH ?_|refine ZB rfl ?_|refine ZC rfl ?_
      exact ⟨_, rfl, rfl⟩
    · obtain ⟨c, hg, hdr, hg0⟩ := at_of (show i < s.length by omega)
      have hcb := UInt8.toNat_lt c
      have hnx := nxt_lt s (i + 1)
      have hnin := nxt_in (s := s) (i := i + 1)
      obtain ⟨k, ok, hT⟩ : ∃ k ok, takeOf (s.drop i) = (k, ok) := ⟨_, _, rfl⟩
      have hk := take_le (s.drop i)
      have hk1 := take_pos (s := s.drop i) (by rw [hdr]; simp)
      rw [hT] at hk hk1
      simp only [List.length_drop] at hk hk1
      cases ok <;>
      repeat' first
        | ((with_reducible apply step_byteN); rfl; rfl; exact hg)
        | ((with_reducible first|apply ZD|apply ZE|apply ZF|apply ZG|apply ZH|apply ZI);rfl;rfl;all_goals (intro hc;first|(exfalso;omega)|skip))|((with_reducible first|apply ZJ|apply ZK);rfl;rfl;all_goals (intro hc;first|contradiction|skip))|((with_reducible first|apply ZL|apply ZM);rfl;rfl;omega;omega)|((with_reducible first|apply ZN|apply ZO);rfl;rfl;omega;omega;intro c hget hc)|((with_reducible apply ZP);rfl;(first|exact .inl rfl|assumption);rfl;rfl;omega;omega;omega;intro s' hs' hl')|((with_reducible apply ZQ);rfl;rfl;rfl;omega;omega;omega;intro s' hs' hl')|((with_reducible apply ZR);rfl)
        | ((with_reducible apply step_lit1); rfl; omega; omega; intro c2 hc2)
        | ((with_reducible apply step_app_b); rfl; rfl; rfl; rfl; exact .inl rfl; (first | omega | (simp only [List.length_cons, List.length_nil]; omega)); (intro l; rfl); (intro u hu hul; (try simp only [List.length_cons, List.length_nil] at hul)))
        | ((with_reducible apply Z1 (f := 123));rfl;rfl;rfl;exact (at_call (i + 1) hz hroom' rfl);rfl)
        | ((with_reducible apply Z1 (f := 113)); rfl; rfl; rfl; exact take_call (.inl rfl) (by unfold room; omega) ((congrArg takeOf (by rw [hs']; simp)).trans hT); rfl)
        | refine GoH ?_|refine ZB rfl ?_|refine ZC rfl ?_
        | (rw [fq_err h39 hq h1 (q10 hdr (by omega)) (by decide)]; exact ⟨_, rfl, rfl⟩)
        | (rw [fq_done h39 hq h1 (q39e hdr (by omega) (by omega))]; exact ⟨_, rfl, toDVt_own3 rfl⟩)
        | (rw [fq_err h39 hq h1 (q92e hdr (by omega) (by omega) (by omega) (by omega)) (by decide)]; exact ⟨_, rfl, rfl⟩)
        | (rw [fq_err h39 hq h1 (qlow hdr (by omega) (by omega)) (by decide)]; exact ⟨_, rfl, rfl⟩)
        | (rw [fq_err h39 hq h1 (qbad hdr (by omega) (by omega) (by omega) (by omega) hT) (by decide)]; exact ⟨_, rfl, rfl⟩)
        | exact hK _ (weak_keep [0, 5, 6] rfl ⟨i + 2, u, by omega, by omega, by omega, by omega, q_step hq h1 (q39 hdr (by omega) (by omega) (by omega)) hu, rfl⟩)
        | exact hK _ (weak_keep [0, 5, 6] rfl ⟨i + 2, u, by omega, by omega, by omega, by omega, q_step hq h1 (q92n hdr (by omega) (by omega) (by omega)) hu, rfl⟩)
        | exact hK _ (weak_keep [0, 5, 6] rfl ⟨i + 2, u, by omega, by omega, by omega, by omega, q_step hq h1 (q92 hdr (by omega) (by omega) (by omega)) hu, rfl⟩)
        | exact hK _ (weak_keep [0, 5, 6] rfl ⟨i + k, u, by omega, by omega, by omega, by omega, q_step hq h1 (qtake hdr (by omega) (by omega) (by omega) (by omega) hT) (by rw [hu, slice_take hs' rfl]), rfl⟩)
theorem pok134 (m : Int) : PureOk Go.Proofs.Tryz.prog (glb m) 118 (onB (FQuote 0)) := onB_ok (fn134 m) (callOk_cons (pok129 m) (callOk_cons (pok139 m) (callOk_nil _ _))) w134
def G127 : List DV → Option DV
  | [d, .c (.int .i64 i), .c (.str t)] => match bytesV d with | some s => if s.length ≤ room ∧ 0 ≤ i ∧ i ≤ s.length ∧ t.length = 2 then some (.c (.bool (hasPre (s.drop i.toNat) t))) else none | none => none
  | _ => none
theorem pre_call {sz : Nat} {s t : List UInt8} {i : Nat} (hz : sz = 1 ∨ s = []) (hr : s.length ≤ room) (hi : i ≤ s.length) (ht : t.length = 2) : G127 [.c (.list sz (encB s)), .c (.int .i64 (i : Nat)), .c (.str t)] = some (.c (.bool (hasPre (s.drop i) t))) := by
  simp [G127, bytesV, bytesOf_back, hz, hr, hi, ht]
set_option maxRecDepth 8000 in
set_option maxHeartbeats 4000000 in
theorem w127 (ds : List DV) (r : DV) (h : G127 ds = some r) : awp (tbl []) c127 (PureQ [.t 6] r) ⟨argE 0 (dvArgs ds), ⟨0, []⟩⟩ := by
  unfold G127 at h
  split at h
  · rename_i d i t
    split at h
    · rename_i s hs
      obtain ⟨sz, rfl, hz⟩ := bytesV_eq hs
      split at h
      · rename_i hh
        obtain ⟨hroom, h0, h1, ht⟩ := hh
        obtain ⟨i, rfl⟩ : ∃ k : Nat, i = (k : Int) := ⟨i.toNat, by omega⟩
        cases h
        have hl : (encB s).length = s.length := encB_length s
        have hpre : hasPre (s.drop i) t = (decide (i + 2 ≤ s.length) && (s.drop i).take 2 == t) := by
          unfold hasPre
          rw [ht, List.length_drop]
          congr 1
          simp only [decide_eq_decide]
          omega
        unfold room at hroom
        rw [show ((i : Int)).toNat = i by omega]
        unfold c127
        repeat' first
          | ((with_reducible first|apply ZD|apply ZE|apply ZF|apply ZG|apply ZH|apply ZI);rfl;rfl;all_goals (intro hc;first|(exfalso;omega)|skip))|((with_reducible first|apply ZJ|apply ZK);rfl;rfl;all_goals (intro hc;first|contradiction|skip))|((with_reducible first|apply ZL|apply ZM);rfl;rfl;omega;omega)|((with_reducible first|apply ZN|apply ZO);rfl;rfl;omega;omega;intro c hget hc)|((with_reducible apply ZP);rfl;(first|exact .inl rfl|assumption);rfl;rfl;omega;omega;omega;intro s' hs' hl')|((with_reducible apply ZQ);rfl;rfl;rfl;omega;omega;omega;intro s' hs' hl')|((with_reducible apply ZR);rfl)
          | refine ZB (ev_b2s rfl) ?_
          | refine GoH ?_|refine ZB rfl ?_|refine ZC rfl ?_
        · have e := slice_take hs' rfl
          rw [show hasPre (s.drop i) t = true by rw [hpre, ← e, hc]; simp; omega]
          exact ⟨_, rfl, rfl⟩
        · have e := slice_take hs' rfl
          rw [show hasPre (s.drop i) t = false by rw [hpre, ← e]; simp [hc]]
          exact ⟨_, rfl, rfl⟩
        · rw [show hasPre (s.drop i) t = false by rw [hpre]; simp; omega]
          exact ⟨_, rfl, rfl⟩
      · cases h
    · cases h
  · cases h
theorem pok127 (m : Int) : PureOk Go.Proofs.Tryz.prog (glb m) 111 G127 := pure_ok (fn127 m) (callOk_nil _ _) w127
set_option maxRecDepth 8000 in
set_option maxHeartbeats 4000000 in
theorem w128 (sz : Nat) (s : List UInt8) (i0 : Nat) (hz : sz = 1 ∨ s = []) (hroom : s.length ≤ room) (hp : (fun (s : List UInt8) (i : Nat) => decide (i ≤ s.length)) s i0 = true) : awp (tbl [(111, G127)]) c128 (PureQ [.t 4] (FCom s i0)) ⟨argE 0 (dvArgs [.c (.list sz (encB s)), .c (.int .i64 (i0 : Nat))]), ⟨0, []⟩⟩ := by
  have hl : (encB s).length = s.length := encB_length s
  have hroom' := hroom
  unfold room at hroom
  simp only [decide_eq_true_eq] at hp
  unfold c128
  repeat' first | ((with_reducible first|apply ZD|apply ZE|apply ZF|apply ZG|apply ZH|apply ZI);rfl;rfl;all_goals (intro hc;first|(exfalso;omega)|skip))|((with_reducible first|apply ZJ|apply ZK);rfl;rfl;all_goals (intro hc;first|contradiction|skip))|((with_reducible first|apply ZL|apply ZM);rfl;rfl;omega;omega)|((with_reducible first|apply ZN|apply ZO);rfl;rfl;omega;omega;intro c hget hc)|((with_reducible apply ZP);rfl;(first|exact .inl rfl|assumption);rfl;rfl;omega;omega;omega;intro s' hs' hl')|((with_reducible apply ZQ);rfl;rfl;rfl;omega;omega;omega;intro s' hs' hl')|((with_reducible apply ZR);rfl) | refine GoH ?_|refine ZB rfl ?_|refine ZC rfl ?_
  refine awp_loop (fun m st => ∃ (i : Nat) (d : Int), i0 ≤ i ∧ i ≤ s.length ∧ -i ≤ d ∧ d ≤ i ∧ s.length - i < m ∧ comR 0 (s.drop i0) = (comR d (s.drop i)).map ((i - i0) + ·) ∧
    st = ⟨[(0, .c (.d (.list sz (encB s)))), (1, .c (.d (.int .i64 (i : Nat)))), (5, .c (.d (.int .i64 d)))], ⟨0, []⟩⟩)
    (s.length + 1) ?_ (by rintro st ⟨i, d, h1, h2, h3, h4, h5, _⟩; omega) ?_
  · exact weak_keep [0, 1, 5] rfl ⟨i0, 0, by omega, by omega, by omega, by omega, by omega, by simp, rfl⟩
  · rintro m K hK st ⟨i, d, h1, h2, h3, h4, h5, hq, rfl⟩
    by_cases hend : i = s.length
    · rw [fcom_none hq (com_end (by omega))]
      repeat' first | ((with_reducible first|apply ZD|apply ZE|apply ZF|apply ZG|apply ZH|apply ZI);rfl;rfl;all_goals (intro hc;first|(exfalso;omega)|skip))|((with_reducible first|apply ZJ|apply ZK);rfl;rfl;all_goals (intro hc;first|contradiction|skip))|((with_reducible first|apply ZL|apply ZM);rfl;rfl;omega;omega)|((with_reducible first|apply ZN|apply ZO);rfl;rfl;omega;omega;intro c hget hc)|((with_reducible apply ZP);rfl;(first|exact .inl rfl|assumption);rfl;rfl;omega;omega;omega;intro s' hs' hl')|((with_reducible apply ZQ);rfl;rfl;rfl;omega;omega;omega;intro s' hs' hl')|((with_reducible apply ZR);rfl) | refine GoH ?_|refine ZB rfl ?_|refine ZC rfl ?_
      exact ⟨_, rfl, rfl⟩
    · obtain ⟨c, hg, hdr, hg0⟩ := at_of (show i < s.length by omega)
      have hat := comR_at (d := d) hdr
      repeat' first
        | ((with_reducible first|apply ZD|apply ZE|apply ZF|apply ZG|apply ZH|apply ZI);rfl;rfl;all_goals (intro hc;first|(exfalso;omega)|skip))|((with_reducible first|apply ZJ|apply ZK);rfl;rfl;all_goals (intro hc;first|contradiction|skip))|((with_reducible first|apply ZL|apply ZM);rfl;rfl;omega;omega)|((with_reducible first|apply ZN|apply ZO);rfl;rfl;omega;omega;intro c hget hc)|((with_reducible apply ZP);rfl;(first|exact .inl rfl|assumption);rfl;rfl;omega;omega;omega;intro s' hs' hl')|((with_reducible apply ZQ);rfl;rfl;rfl;omega;omega;omega;intro s' hs' hl')|((with_reducible apply ZR);rfl)
        | (((with_reducible apply Z1 (f := 111));rfl;rfl;rfl;exact (pre_call hz hroom' h2 rfl);rfl); refine step_bool (fun hb => ?_) (fun hb => ?_))
        | refine GoH ?_|refine ZB rfl ?_|refine ZC rfl ?_
        | (rw [if_pos hb] at hat; have := hasPre_drop (.inl hb); exact hK _ (weak_keep [0, 1, 5] rfl ⟨i + 2, d + 1, by omega, by omega, by omega, by omega, by omega, com_step hq h1 hat, rfl⟩))
        | (rename hasPre _ [47, 42] = false => hb1; rw [if_neg (by rw [hb1]; simp), if_pos hb] at hat; have := hasPre_drop (.inr hb); first
           | (rw [if_neg (by omega)] at hat; exact hK _ (weak_keep [0, 1, 5] rfl ⟨i + 2, d - 1, by omega, by omega, by omega, by omega, by omega, com_step hq h1 hat, rfl⟩))
           | (rw [if_pos (by omega)] at hat; rw [fcom_some hq h1 hat]; exact ⟨_, rfl, rfl⟩))
        | (rename hasPre _ [47, 42] = false => hb1; rw [if_neg (by rw [hb1]; simp), if_neg (by rw [hb]; simp)] at hat; exact hK _ (weak_keep [0, 1, 5] rfl ⟨i + 1, d, by omega, by omega, by omega, by omega, by omega, com_step hq h1 hat, rfl⟩))
theorem pok128 (m : Int) : PureOk Go.Proofs.Tryz.prog (glb m) 112 (onBI (fun s i => decide (i ≤ s.length)) FCom) := onBI_ok (fn128 m) (callOk_cons (pok127 m) (callOk_nil _ _)) w128
set_option maxRecDepth 8000 in
set_option maxHeartbeats 4000000 in
theorem w119 (sz : Nat) (s : List UInt8) (hz : sz = 1 ∨ s = []) (hroom : s.length ≤ room) : awp (tbl [(110, G80), (111, G127), (112, onBI (fun s i => decide (i ≤ s.length)) FCom)]) c119 (PureQ [.t 2, .t 3] (FSkip s)) ⟨argE 0 (dvArgs [.c (.list sz (encB s))]), ⟨0, []⟩⟩ := by
  have hl : (encB s).length = s.length := encB_length s
  have hroom' := hroom
  unfold room at hroom
  unfold c119
  repeat' first | ((with_reducible first|apply ZD|apply ZE|apply ZF|apply ZG|apply ZH|apply ZI);rfl;rfl;all_goals (intro hc;first|(exfalso;omega)|skip))|((with_reducible first|apply ZJ|apply ZK);rfl;rfl;all_goals (intro hc;first|contradiction|skip))|((with_reducible first|apply ZL|apply ZM);rfl;rfl;omega;omega)|((with_reducible first|apply ZN|apply ZO);rfl;rfl;omega;omega;intro c hget hc)|((with_reducible apply ZP);rfl;(first|exact .inl rfl|assumption);rfl;rfl;omega;omega;omega;intro s' hs' hl')|((with_reducible apply ZQ);rfl;rfl;rfl;omega;omega;omega;intro s' hs' hl')|((with_reducible apply ZR);rfl) | refine GoH ?_|refine ZB rfl ?_|refine ZC rfl ?_
  refine awp_loop (fun m st => ∃ (i : Nat), i ≤ s.length ∧ s.length - i < m ∧ skipR s = addS i (skipR (s.drop i)) ∧
    st = ⟨[(0, .c (.d (.list sz (encB s)))), (4, .c (.d (.int .i64 (i : Nat))))], ⟨0, []⟩⟩)
    (s.length + 1) ?_ (by rintro st ⟨i, h1, h2, _⟩; omega) ?_
  · exact weak_keep [0, 4] rfl ⟨0, by omega, by omega, by simp [addS], rfl⟩
  · rintro m K hK st ⟨i, h1, h2, hq, rfl⟩
    by_cases hend : i = s.length
    · rw [fskip hq (skip_end (by omega))]
      repeat' first | ((with_reducible first|apply ZD|apply ZE|apply ZF|apply ZG|apply ZH|apply ZI);rfl;rfl;all_goals (intro hc;first|(exfalso;omega)|skip))|((with_reducible first|apply ZJ|apply ZK);rfl;rfl;all_goals (intro hc;first|contradiction|skip))|((with_reducible first|apply ZL|apply ZM);rfl;rfl;omega;omega)|((with_reducible first|apply ZN|apply ZO);rfl;rfl;omega;omega;intro c hget hc)|((with_reducible apply ZP);rfl;(first|exact .inl rfl|assumption);rfl;rfl;omega;omega;omega;intro s' hs' hl')|((with_reducible apply ZQ);rfl;rfl;rfl;omega;omega;omega;intro s' hs' hl')|((with_reducible apply ZR);rfl) | refine GoH ?_|refine ZB rfl ?_|refine ZC rfl ?_
      exact ⟨_, rfl, rfl⟩
    · obtain ⟨c, hg, hdr, hg0⟩ := at_of (show i < s.length by omega)
      have hat := skipR_at hdr
      obtain ⟨o, hC⟩ : ∃ o, comR 0 (s.drop i) = o := ⟨_, rfl⟩
      have hbd := fun k (h : o = some k) => comR_bd (d := 0) (s := s.drop i) (k := k) (by rw [hC, h])
      have hcall : onBI (fun s i => decide (i ≤ s.length)) FCom [.c (.list sz (encB s)), .c (.int .i64 (i : Nat))] = some (FCom s i) := onBI_eq hz hroom' (by simp; omega)
      rw [hC] at hat
      rcases o with _ | k <;> first | rw [com_none hC] at hcall | rw [com_some hC] at hcall
      all_goals
      repeat' first
        | ((with_reducible apply step_byteN); rfl; rfl; exact hg)
        | ((with_reducible first|apply ZD|apply ZE|apply ZF|apply ZG|apply ZH|apply ZI);rfl;rfl;all_goals (intro hc;first|(exfalso;omega)|skip))|((with_reducible first|apply ZJ|apply ZK);rfl;rfl;all_goals (intro hc;first|contradiction|skip))|((with_reducible first|apply ZL|apply ZM);rfl;rfl;omega;omega)|((with_reducible first|apply ZN|apply ZO);rfl;rfl;omega;omega;intro c hget hc)|((with_reducible apply ZP);rfl;(first|exact .inl rfl|assumption);rfl;rfl;omega;omega;omega;intro s' hs' hl')|((with_reducible apply ZQ);rfl;rfl;rfl;omega;omega;omega;intro s' hs' hl')|((with_reducible apply ZR);rfl)
        | ((with_reducible apply Z1 (f := 110));rfl;rfl;rfl;exact (G80_eq _);rfl)
        | (((with_reducible apply Z1 (f := 111));rfl;rfl;rfl;exact (pre_call hz hroom' h1 rfl);rfl); refine step_bool (fun hb => ?_) (fun hb => ?_))
        | ((with_reducible apply Z1 (f := 112));rfl;rfl;rfl;exact hcall;rfl)
        | refine GoH ?_|refine ZB rfl ?_|refine ZC rfl ?_
        | (rw [if_pos (by omega)] at hat; exact hK _ (weak_keep [0, 4] rfl ⟨i + 1, by omega, by omega, by rw [hq, hat, addS_addS], rfl⟩))
        | (rw [if_neg (by omega), if_neg (by omega), if_neg (by rw [hb]; simp)] at hat; rw [fskip hq hat]; exact ⟨_, rfl, rfl⟩)
        | (rw [if_neg (by omega), if_neg (by omega), if_pos hb] at hat; rw [fskip hq hat]; exact ⟨_, rfl, rfl⟩)
        | (rw [if_neg (by omega), if_neg (by omega), if_pos hb] at hat
           have hat2 : skipR (s.drop i) = addS k (skipR (s.drop (i + k))) := hat
           have hb2 := hbd k rfl
           rw [List.length_drop] at hb2
           exact hK _ (weak_keep [0, 4] rfl ⟨i + k, by omega, by omega, by rw [hq, hat2, addS_addS], rfl⟩))
      all_goals
        rw [if_neg (by omega), if_pos (by omega)] at hat
        have hln := ln_at hdr
        rw [if_neg (by omega)] at hln
        rw [← hln] at hat
        rw [hat, addS_addS] at hq
        refine awp_loop (fun m st => ∃ (j : Nat), i ≤ j ∧ j ≤ s.length ∧ s.length - j < m ∧ skipR s = addS (j + lnOf (s.drop j)) (skipR (s.drop (j + lnOf (s.drop j)))) ∧
          st = ⟨[(0, .c (.d (.list sz (encB s)))), (4, .c (.d (.int .i64 (j : Nat))))], ⟨0, []⟩⟩)
          (s.length + 1) ?_ (by rintro st ⟨j, a1, a2, a3, _⟩; omega) ?_
        · exact weak_keep [0, 4] rfl ⟨i, by omega, by omega, by omega, hq, rfl⟩
        · rintro m2 K2 hK2 st ⟨j, a1, a2, a3, hq2, rfl⟩
          by_cases hend2 : j = s.length
          · have h0 : lnOf (s.drop j) = 0 := by rw [List.drop_eq_nil_of_le (by omega)]; rfl
            rw [h0] at hq2
            repeat' first | ((with_reducible first|apply ZD|apply ZE|apply ZF|apply ZG|apply ZH|apply ZI);rfl;rfl;all_goals (intro hc;first|(exfalso;omega)|skip))|((with_reducible first|apply ZJ|apply ZK);rfl;rfl;all_goals (intro hc;first|contradiction|skip))|((with_reducible first|apply ZL|apply ZM);rfl;rfl;omega;omega)|((with_reducible first|apply ZN|apply ZO);rfl;rfl;omega;omega;intro c hget hc)|((with_reducible apply ZP);rfl;(first|exact .inl rfl|assumption);rfl;rfl;omega;omega;omega;intro s' hs' hl')|((with_reducible apply ZQ);rfl;rfl;rfl;omega;omega;omega;intro s' hs' hl')|((with_reducible apply ZR);rfl) | refine GoH ?_|refine ZB rfl ?_|refine ZC rfl ?_
            exact hK _ (weak_keep [0, 4] rfl ⟨j, by omega, by omega, hq2, rfl⟩)
          · obtain ⟨c2, hg2, hdr2, _⟩ := at_of (show j < s.length by omega)
            have hln2 := ln_at hdr2
            have hne : j = i → c2 = c := fun e => Option.some.inj (hg2.symm.trans (by rw [e]; exact hg))
            repeat' first
              | ((with_reducible apply step_byteN); rfl; rfl; exact hg2)
              | ((with_reducible first|apply ZD|apply ZE|apply ZF|apply ZG|apply ZH|apply ZI);rfl;rfl;all_goals (intro hc;first|(exfalso;omega)|skip))|((with_reducible first|apply ZJ|apply ZK);rfl;rfl;all_goals (intro hc;first|contradiction|skip))|((with_reducible first|apply ZL|apply ZM);rfl;rfl;omega;omega)|((with_reducible first|apply ZN|apply ZO);rfl;rfl;omega;omega;intro c hget hc)|((with_reducible apply ZP);rfl;(first|exact .inl rfl|assumption);rfl;rfl;omega;omega;omega;intro s' hs' hl')|((with_reducible apply ZQ);rfl;rfl;rfl;omega;omega;omega;intro s' hs' hl')|((with_reducible apply ZR);rfl)
              | refine GoH ?_|refine ZB rfl ?_|refine ZC rfl ?_
              | (rw [if_neg (by omega)] at hln2
                 refine hK2 _ (weak_keep [0, 4] rfl ⟨j + 1, by omega, by omega, by omega, ?_, rfl⟩)
                 rw [hq2, hln2, Nat.add_assoc])
              | (rw [if_pos (by omega)] at hln2
                 rw [hln2] at hq2
                 refine hK _ (weak_keep [0, 4] rfl ⟨j, by omega, ?_, hq2, rfl⟩)
                 have : j ≠ i := fun e => by have := hne e; subst this; omega
                 omega)
theorem pok119 (m : Int) : PureOk Go.Proofs.Tryz.prog (glb m) 106 (onB FSkip) := onB_ok (fn119 m) (callOk_cons (pok126 m) (callOk_cons (pok127 m) (callOk_cons (pok128 m) (callOk_nil _ _)))) w119
end Go.Am
