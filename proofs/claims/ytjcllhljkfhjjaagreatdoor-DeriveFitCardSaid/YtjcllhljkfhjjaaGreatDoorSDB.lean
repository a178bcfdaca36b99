/-
  Directives: decl.operator, Of; of a text; digits.Put.
-/
import Derived.Test.YtjcllhljkfhjjaaGreatDoorSMS
import Derived.Test.YtjcllhljkfhjjaaGreatDoorSMD
import Derived.Test.YtjcllhljkfhjjaaGreatDoorProg
import Derived.Test.YtjcllhljkfhjjaaGreatDoorSEP
import Derived.Test.YtjcllhljkfhjjaaGreatDoorSQU
import Derived.Test.YtjcllhljkfhjjaaGreatDoorSNF
import Derived.Test.YtjcllhljkfhjjaaGreatDoorSQA
import Derived.Test.YtjcllhljkfhjjaaGreatDoorSCE
namespace Go.Am
open Go
theorem class8_iff : ∀ c : UInt8, classOf c = 8 ↔ c.toNat = 37 := by
  have h : ∀ n : Nat, n < 256 → (classOf (UInt8.ofNat n) = 8 ↔ n = 37) := by decide +kernel
  intro c
  have := h c.toNat (UInt8.toNat_lt c)
  rw [UInt8.ofNat_toNat] at this
  exact this
theorem nameOf_all : ∀ {s : List UInt8}, (∀ b ∈ s, nameC b = true) → nameOf s = s.length
  | [], _ => rfl
  | b :: r, h => by
    have hb := h b (by simp)
    have hg : (b :: r)[0]? = some b := rfl
    have hT := take_low hg (nameC_low hb)
    rw [nameOf_go hg (by rw [hT]) (.inr hb), hT]
    simp only [List.drop_succ_cons, List.drop_zero, List.length_cons]
    rw [nameOf_all (fun x hx => h x (by simp [hx]))]
    omega
theorem single_tok {s : List UInt8} {k : Int} (h : single s k) : skipR s = (0, 0) ∧ tokOf s = ⟨k, s.length, s, 0⟩ ∧ 0 < s.length := by
  have hH := single_H78 h
  obtain ⟨c, hg, h⟩ := h
  have h0 : 0 < s.length := (List.getElem?_eq_some_iff.1 hg).1
  have hs : skipR s = (0, 0) := by
    rcases hH with rfl | ⟨c', hg', h1, h2, h3⟩
    · simp at h0
    · obtain rfl := Option.some.inj (hg.symm.trans hg')
      obtain ⟨_, _, hdr, _⟩ := at_of h0
      obtain ⟨c2, hg2, hdr2, _⟩ := at_of h0
      obtain rfl := Option.some.inj (hg.symm.trans hg2)
      have hat := skipR_at hdr2
      rw [List.drop_zero] at hat
      rw [hat, if_neg h1, if_neg (fun e => h2 ((class8_iff c).2 e)), if_neg (by rw [h3]; simp)]
  refine ⟨hs, ?_, h0⟩
  rcases h with ⟨hc, rfl, hall⟩ | ⟨hc, rfl, hne, hpre, hall⟩ | ⟨hc, rfl, h1⟩
  · rw [tok2 hg hc, nameOf_all hall, List.take_length]
  · have hr : runOf 5 s = s.length := runOf_all hall
    rw [tok5 hg hc, hr, List.take_length, if_neg]
    rintro ⟨e1, e2, _⟩
    match s, e1 with
    | [a], _ =>
      simp at hg
      subst hg
      exact hne (by rw [show a = 46 from UInt8.toNat_inj.1 e2])
  · rw [tok6 hg hc, ← h1, List.take_length]
theorem all_single {s : List UInt8} {k : Int} (h : single s k) : allOf s = [⟨k, 0, s.length, s, 0⟩] := by
  obtain ⟨h1, h2, h3⟩ := single_tok h
  have e1 : nextOf s 0 = some ⟨k, 0, s.length, s, 0⟩ := by
    unfold nextOf
    rw [List.drop_zero, h1]
    simp only [ne_eq, not_true_eq_false, if_false, Nat.zero_add, List.drop_zero]
    rw [if_neg (by omega), h2]
  have e2 : nextOf s s.length = none := by
    unfold nextOf
    rw [skip_end (Nat.le_refl _)]
    simp
  rw [allOf_R, allR_some (Nat.zero_le _) e1, allR_none (Nat.le_refl _) e2]
theorem kbE : KB R37 (onB FAll) := by
  intro sz s hz hr
  refine ⟨_, onB_eq hz hr, (allOf s).map tokC, rfl, fun e he => ?_, fun h0 => ?_, fun k hk => ?_⟩
  · obtain ⟨t, _, rfl⟩ := List.mem_map.1 he
    exact ⟨_, _, _, _, _, rfl⟩
  · subst h0
    rfl
  · rw [all_single hk]
    rfl
end Go.Am
namespace Go.Am
open Go
def simplesD : List D :=
  [.str [120, 102, 120], .bool true, .bool true, .int .i64 0, .str [120, 102, 121], .bool true, .bool true, .int .i64 2, .str [121, 102, 120], .bool true, .bool true, .int .i64 1, .str [102, 120], .bool false, .bool true, .int .i64 0,
   .str [102, 121], .bool false, .bool true, .int .i64 2, .str [120, 102], .bool true, .bool false, .int .i64 0, .str [121, 102], .bool true, .bool false, .int .i64 1]
def glbS (m : Int) : Nat → Option (List D) := fun g => if g = 99 then some simplesD else glb m g
theorem globS {m : Int} {w : World} {A : Nat → Prop} (h : GlobOk (glbS m) w A) : GlobOk (glb m) w A := by
  intro g ds hg
  refine h g ds ?_
  unfold glbS
  by_cases h0 : g = 99
  · subst h0; cases hg
  · rw [if_neg h0]; exact hg
theorem PureFn.more {P : Program} {gl gl' : Nat → Option (List D)} {f : FuncId} {G : List DV → Option DV} (h : PureFn P gl f G) (hg : ∀ w A, GlobOk gl' w A → GlobOk gl w A) : PureFn P gl' f G :=
  ⟨h.enters, fun w A ds vs r h1 h2 h3 h4 => h.run w A ds vs r (hg w A h1) h2 h3 h4⟩
theorem PureOk.more {P : Program} {gl gl' : Nat → Option (List D)} {f : FuncId} {G : List DV → Option DV} (h : PureOk P gl f G) (hg : ∀ w A, GlobOk gl' w A → GlobOk gl w A) : PureOk P gl' f G :=
  h.elim (fun h => .inl (h.more hg)) (fun h => .inr fun w A ds vs r h1 h2 h3 h4 => h w A ds vs r (hg w A h1) h2 h3 h4)
theorem PureOk.s {P : Program} {m : Int} {f : FuncId} {G : List DV → Option DV} (h : PureOk P (glb m) f G) : PureOk P (glbS m) f G := h.more fun _ _ => globS
end Go.Am
namespace Go.Am
open Go K
set_option maxRecDepth 100000
def c42 : ACode :=
 (S (R [q 1 (.box (t 0)), q 2 (.move (i 0))]) (S (R [q 6 (fa 1 0), q 7 (l 6), q 8 (.pcall 17 [(t 7)]), m 5 8, q 9 (ex 5 0), q 10 (ex 5 1), q 3 (.alloc [.nil, z, z]), n (st 3 9 3), m 4 10]) (S (S (R [m 11 4, q 12 (.bin .neq (t 11) (i 0))]) (I (t 12) (S (R [m 13 4, m 2 13]) Z) X)) (S (S (R [q 14 (fa 1 1), q 15 (l 14), q 16 (.bin .lss (t 15) (i 1)), m 17 16, r 18 17 (fa 1 1), r 19 17 (l 18), r 20 17 (.bin .geq (t 19) (i 10)), q 21 (.pick (t 17) T (t 20))]) (I (t 21) (S (R [q 2 (.move (i 21))]) Z) X)) (S (B 0 (S (S (R [q 23 (fa 1 2), q 24 (l 23), q 25 (.bin .eql (t 24) (i 0)), m 22 25]) (I (t 22) X (S (R [q 26 (fa 1 2), q 27 (l 26), q 28 (.bin .eql (t 27) (i 1)), m 29 28, p 30 29 (fa 3 1), p 31 29 (l 30), q 32 (.pick (t 29) (t 31) F), m 22 32]) (I (t 22) X (R [q 33 (fa 1 2), q 34 (l 33), q 35 (.bin .eql (t 34) (i 2)), m 36 35, p 37 36 (fa 3 2), p 38 36 (l 37), q 39 (.pick (t 36) (t 38) F), m 22 39]))))) (I (t 22) (S (R [q 2 (.move (i 0))]) Z) X))) (S (R [q 2 (.move (i 24))]) Z))))))
end Go.Am
namespace Go.Am
open Go
def G42 (part : List UInt8 → Bool) : List DV → Option DV
  | [.agg [.str pat, .int .i64 g, .int .i64 a]] => some (.c (.int .i64 (mayOf part pat g a)))
  | _ => none
set_option maxRecDepth 8000 in
set_option maxHeartbeats 4000000 in
theorem w42 (part : List UInt8 → Bool) (ds : List DV) (r : DV) (h : G42 part ds = some r) : awp (tbl [(17, G19 part)]) c42 (PureQ [.t 2] r) ⟨argE 0 (dvArgs ds), ⟨0, []⟩⟩ := by
  unfold G42 at h
  split at h
  · rename_i pat g a
    cases h
    unfold mayOf
    cases hS : shapeOf part pat with
    | none =>
      have h19 : G19 part [.c (.str pat)] = some (.tup [.agg [.list 0 [], .bool false, .bool false], .c (.int .i64 23)]) := by simp only [G19, hS]; rfl
      unfold c42
      repeat' first | ((with_reducible first|apply ZD|apply ZE|apply ZF|apply ZG|apply ZH|apply ZI);rfl;rfl;all_goals (intro hc;first|(exfalso;omega)|skip))|((with_reducible first|apply ZJ|apply ZK);rfl;rfl;all_goals (intro hc;first|contradiction|skip))|((with_reducible first|apply ZL|apply ZM);rfl;rfl;omega;omega)|((with_reducible first|apply ZN|apply ZO);rfl;rfl;omega;omega;intro c hget hc)|((with_reducible apply ZP);rfl;(first|exact .inl rfl|assumption);rfl;rfl;omega;omega;omega;intro s' hs' hl')|((with_reducible apply ZQ);rfl;rfl;rfl;omega;omega;omega;intro s' hs' hl')|((with_reducible apply ZR);rfl) | ((with_reducible apply Z1 (f := 17));rfl;rfl;rfl;exact h19;rfl) | refine GoH ?_|refine ZB rfl ?_|refine ZC rfl ?_
      exact ⟨_, rfl, rfl⟩
    | some v =>
      obtain ⟨ps, l, rr⟩ := v
      have h19 : G19 part [.c (.str pat)] = some (.tup [.agg [.list 1 (ofStrs ps), .bool l, .bool rr], .c (.int .i64 0)]) := by simp only [G19, hS]; rfl
      unfold c42
      cases l <;> cases rr <;> (try simp only [Bool.false_eq_true, and_false, and_true, or_false, false_or]) <;>
      (repeat' first | ((with_reducible first|apply ZD|apply ZE|apply ZF|apply ZG|apply ZH|apply ZI);rfl;rfl;all_goals (intro hc;first|(exfalso;omega)|skip))|((with_reducible first|apply ZJ|apply ZK);rfl;rfl;all_goals (intro hc;first|contradiction|skip))|((with_reducible first|apply ZL|apply ZM);rfl;rfl;omega;omega)|((with_reducible first|apply ZN|apply ZO);rfl;rfl;omega;omega;intro c hget hc)|((with_reducible apply ZP);rfl;(first|exact .inl rfl|assumption);rfl;rfl;omega;omega;omega;intro s' hs' hl')|((with_reducible apply ZQ);rfl;rfl;rfl;omega;omega;omega;intro s' hs' hl')|((with_reducible apply ZR);rfl) | ((with_reducible apply Z1 (f := 17));rfl;rfl;rfl;exact h19;rfl) | refine GoH ?_|refine ZB rfl ?_|refine ZC rfl ?_)
      all_goals first
        | (rw [if_pos (by omega)]; exact ⟨_, rfl, rfl⟩)
        | (rw [if_neg (by omega), if_pos (by omega)]; exact ⟨_, rfl, rfl⟩)
        | (rw [if_neg (by omega), if_neg (by omega)]; exact ⟨_, rfl, rfl⟩)
  · cases h
end Go.Am
namespace Go.Am
open Go
def kt (t : Tok) : Int × List UInt8 := (t.kind, t.text)
end Go.Am
namespace Go.Am
open Go
def tk5 (t : Tok) : Tk5 := ⟨t.kind, t.a, t.b, t.text, t.code⟩
theorem tokC_tk (l : List Tok) : l.map tokC = (l.map tk5).map tkD := by rw [List.map_map]; rfl
def lexT (s : List UInt8) : List Tk5 := (allOf s).map tk5
theorem FAll_T (s : List UInt8) : FAll s = .c (.list 5 ((lexT s).map tkD)) := by unfold FAll lexT; rw [tokC_tk]
end Go.Am
