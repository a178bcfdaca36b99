/-
  DeriveFit: the law's function.
-/
import Derived.Test.YtjcllhljkfhjjaaGreatDoorSWK
import Derived.Test.YtjcllhljkfhjjaaGreatDoorSMO
import Derived.Test.YtjcllhljkfhjjaaGreatDoorSCF
namespace Go.Am
open Go
noncomputable def cl350 : Call := tbl [(6, G22), (9, onB FAll), (5, G310), (7, T311), (8, T312)]
def ftC (rr ll : Bool) (n : Int) (sz : Nat) (E : List (List D)) : Prop := (rr = false ∧ ll = false ∧ n = 0) ∨ ((rr = true ∨ ll = true) ∧ n = 1 ∧ sz = 5 ∧ E.length = 5 ∧ ∃ (z : Nd5) (E' : List (List D)), E = ndD z :: E' ∧ decide (z.s = [95, 43, 95]) = rr)
def ftO (p : List UInt8) (g a : Nat) : Ob := .cells [.d (.str p), .d (.int .i64 (1 + (g : Int))), .d (.int .i64 (a : Int))]
section
variable {y6 y7 nx g a h b : Nat} {n : Int} {sz : Nat} {E : List (List D)} {ob : List (Nat × Ob)}
set_option maxRecDepth 8000 in
set_option maxHeartbeats 4000000 in
theorem w350f {rr ll : Bool} (hc : ftC rr ll n sz E) : awp cl350 (c350r.tail 11) (PureQ [.t 4] (.c (.bool true))) ⟨[(5, .c (.d (.bool true))), (9, .c (.d (.int .i64 n))), (10, .c (.d (.list sz E))), (12, .c (.d (.bool rr))), (13, .c (.d (.bool ll)))], ⟨nx, ob⟩⟩ := by
  unfold c350r
  dsimp only [ACode.tail]
  rcases hc with ⟨rfl, rfl, rfl⟩ | ⟨hrl, rfl, rfl, hE, ⟨zk, zs, za, zb, zn⟩, E', rfl, hz⟩
  · repeat' first | refine GoH ?_ | refine ZB rfl ?_|refine ZC rfl ?_
    exact ⟨_, rfl, rfl⟩
  · simp only at hz
    have h0 : (ndD ⟨zk, zs, za, zb, zn⟩ :: E')[((0 : Int)).toNat]? = some [.int .i64 zk, .str zs, .int .i64 za, .int .i64 zb, .int .i64 zn] := rfl
    by_cases q : zs = [95, 43, 95]
    · rw [decide_eq_true q] at hz
      subst hz
      repeat' first
        | refine GoH ?_
        | refine ZB (ev_lenT hE rfl) ?_
        | refine ZB (ev_idx rfl rfl (by omega) h0 rfl) ?_
        | refine ZB (ev_eqs_t rfl rfl q) ?_
        | refine ZB rfl ?_|refine ZC rfl ?_
      exact ⟨_, rfl, rfl⟩
    · rw [decide_eq_false q] at hz
      subst hz
      obtain rfl : ll = true := by simpa using hrl
      repeat' first
        | refine GoH ?_
        | refine ZB (ev_lenT hE rfl) ?_
        | refine ZB (ev_idx rfl rfl (by omega) h0 rfl) ?_
        | refine ZB (ev_eqs_f rfl rfl q) ?_
        | refine ZB rfl ?_|refine ZC rfl ?_
      exact ⟨_, rfl, rfl⟩
set_option maxRecDepth 8000 in
set_option maxHeartbeats 8000000 in
theorem w350c (hg : g < 9) (hh : h < 9) (h6 : look ob y6 = some (ftO [95, 43, 95] g a)) (h7 : look ob y7 = some (ftO [95, 42, 95] h b)) (hc : ftC (ftR g a h b) (ftL g a h b) n sz E) : awp cl350 (c350r.tail 10) (PureQ [.t 4] (.c (.bool true))) ⟨[(5, .c (.d (.bool true))), (6, .c (.ptr y6 0)), (7, .c (.ptr y7 0)), (9, .c (.d (.int .i64 n))), (10, .c (.d (.list sz E))), (11, .c (.d (.bool (decide (g < 5) && decide (h < 5))))), (12, .c (.d (.bool (ftR g a h b))))], ⟨nx, ob⟩⟩ := by
  have tl := w350f (nx := nx) (ob := ob) hc
  unfold ftO at h6 h7
  unfold c350r at *
  dsimp only [ACode.tail] at *
  generalize ftR g a h b = rr at *
  by_cases qt : g < 5 ∧ h < 5
  · obtain ⟨qg, qh⟩ := qt
    have et : (decide (g < 5) && decide (h < 5)) = true := by simp [qg, qh]
    rw [et]
    try rw [et] at tl
    by_cases q1 : g < h
    · have e : ftL g a h b = true := by unfold ftL; simp; omega
      rw [e] at tl
      repeat' first
          | ((with_reducible apply weak_keep [5, 9, 10, 12, 13]); rfl; exact tl)
          | refine GoH ?_
          | refine ZB (ev_load rfl h6 rfl) ?_
          | refine ZB (ev_load rfl h7 rfl) ?_
          | refine ZB (ev_leq_t rfl rfl (by omega)) ?_
          | refine ZB (ev_leq_f rfl rfl (by omega)) ?_
          | refine ZB (ev_lss_t rfl rfl (by omega)) ?_
          | refine ZB (ev_lss_f rfl rfl (by omega)) ?_
          | refine ZB (ev_eql_t rfl rfl (by omega)) ?_
          | refine ZB (ev_eql_f rfl rfl (by omega)) ?_
          | refine ZB rfl ?_|refine ZC rfl ?_
    by_cases q2 : g = h
    · by_cases q3 : a = 1
      · by_cases q4 : b = 1
        · have e : ftL g a h b = true := by unfold ftL; simp; omega
          rw [e] at tl
          repeat' first
              | ((with_reducible apply weak_keep [5, 9, 10, 12, 13]); rfl; exact tl)
              | refine GoH ?_
              | refine ZB (ev_load rfl h6 rfl) ?_
              | refine ZB (ev_load rfl h7 rfl) ?_
              | refine ZB (ev_leq_t rfl rfl (by omega)) ?_
              | refine ZB (ev_leq_f rfl rfl (by omega)) ?_
              | refine ZB (ev_lss_t rfl rfl (by omega)) ?_
              | refine ZB (ev_lss_f rfl rfl (by omega)) ?_
              | refine ZB (ev_eql_t rfl rfl (by omega)) ?_
              | refine ZB (ev_eql_f rfl rfl (by omega)) ?_
              | refine ZB rfl ?_|refine ZC rfl ?_
        · have e : ftL g a h b = false := by unfold ftL; simp; omega
          rw [e] at tl
          repeat' first
              | ((with_reducible apply weak_keep [5, 9, 10, 12, 13]); rfl; exact tl)
              | refine GoH ?_
              | refine ZB (ev_load rfl h6 rfl) ?_
              | refine ZB (ev_load rfl h7 rfl) ?_
              | refine ZB (ev_leq_t rfl rfl (by omega)) ?_
              | refine ZB (ev_leq_f rfl rfl (by omega)) ?_
              | refine ZB (ev_lss_t rfl rfl (by omega)) ?_
              | refine ZB (ev_lss_f rfl rfl (by omega)) ?_
              | refine ZB (ev_eql_t rfl rfl (by omega)) ?_
              | refine ZB (ev_eql_f rfl rfl (by omega)) ?_
              | refine ZB rfl ?_|refine ZC rfl ?_
      · have e : ftL g a h b = false := by unfold ftL; simp; omega
        rw [e] at tl
        repeat' first
            | ((with_reducible apply weak_keep [5, 9, 10, 12, 13]); rfl; exact tl)
            | refine GoH ?_
            | refine ZB (ev_load rfl h6 rfl) ?_
            | refine ZB (ev_load rfl h7 rfl) ?_
            | refine ZB (ev_leq_t rfl rfl (by omega)) ?_
            | refine ZB (ev_leq_f rfl rfl (by omega)) ?_
            | refine ZB (ev_lss_t rfl rfl (by omega)) ?_
            | refine ZB (ev_lss_f rfl rfl (by omega)) ?_
            | refine ZB (ev_eql_t rfl rfl (by omega)) ?_
            | refine ZB (ev_eql_f rfl rfl (by omega)) ?_
            | refine ZB rfl ?_|refine ZC rfl ?_
    · have e : ftL g a h b = false := by unfold ftL; simp; omega
      rw [e] at tl
      repeat' first
          | ((with_reducible apply weak_keep [5, 9, 10, 12, 13]); rfl; exact tl)
          | refine GoH ?_
          | refine ZB (ev_load rfl h6 rfl) ?_
          | refine ZB (ev_load rfl h7 rfl) ?_
          | refine ZB (ev_leq_t rfl rfl (by omega)) ?_
          | refine ZB (ev_leq_f rfl rfl (by omega)) ?_
          | refine ZB (ev_lss_t rfl rfl (by omega)) ?_
          | refine ZB (ev_lss_f rfl rfl (by omega)) ?_
          | refine ZB (ev_eql_t rfl rfl (by omega)) ?_
          | refine ZB (ev_eql_f rfl rfl (by omega)) ?_
          | refine ZB rfl ?_|refine ZC rfl ?_
  · have et : (decide (g < 5) && decide (h < 5)) = false := by simp; omega
    rw [et]
    try rw [et] at tl
    by_cases q2 : g = h
    · by_cases q3 : a = 1
      · by_cases q4 : b = 1
        · have e : ftL g a h b = true := by unfold ftL; simp; omega
          rw [e] at tl
          repeat' first
              | ((with_reducible apply weak_keep [5, 9, 10, 12, 13]); rfl; exact tl)
              | refine GoH ?_
              | refine ZB (ev_load rfl h6 rfl) ?_
              | refine ZB (ev_load rfl h7 rfl) ?_
              | refine ZB (ev_leq_t rfl rfl (by omega)) ?_
              | refine ZB (ev_leq_f rfl rfl (by omega)) ?_
              | refine ZB (ev_lss_t rfl rfl (by omega)) ?_
              | refine ZB (ev_lss_f rfl rfl (by omega)) ?_
              | refine ZB (ev_eql_t rfl rfl (by omega)) ?_
              | refine ZB (ev_eql_f rfl rfl (by omega)) ?_
              | refine ZB rfl ?_|refine ZC rfl ?_
        · have e : ftL g a h b = false := by unfold ftL; simp; omega
          rw [e] at tl
          repeat' first
              | ((with_reducible apply weak_keep [5, 9, 10, 12, 13]); rfl; exact tl)
              | refine GoH ?_
              | refine ZB (ev_load rfl h6 rfl) ?_
              | refine ZB (ev_load rfl h7 rfl) ?_
              | refine ZB (ev_leq_t rfl rfl (by omega)) ?_
              | refine ZB (ev_leq_f rfl rfl (by omega)) ?_
              | refine ZB (ev_lss_t rfl rfl (by omega)) ?_
              | refine ZB (ev_lss_f rfl rfl (by omega)) ?_
              | refine ZB (ev_eql_t rfl rfl (by omega)) ?_
              | refine ZB (ev_eql_f rfl rfl (by omega)) ?_
              | refine ZB rfl ?_|refine ZC rfl ?_
      · have e : ftL g a h b = false := by unfold ftL; simp; omega
        rw [e] at tl
        repeat' first
            | ((with_reducible apply weak_keep [5, 9, 10, 12, 13]); rfl; exact tl)
            | refine GoH ?_
            | refine ZB (ev_load rfl h6 rfl) ?_
            | refine ZB (ev_load rfl h7 rfl) ?_
            | refine ZB (ev_leq_t rfl rfl (by omega)) ?_
            | refine ZB (ev_leq_f rfl rfl (by omega)) ?_
            | refine ZB (ev_lss_t rfl rfl (by omega)) ?_
            | refine ZB (ev_lss_f rfl rfl (by omega)) ?_
            | refine ZB (ev_eql_t rfl rfl (by omega)) ?_
            | refine ZB (ev_eql_f rfl rfl (by omega)) ?_
            | refine ZB rfl ?_|refine ZC rfl ?_
    · have e : ftL g a h b = false := by unfold ftL; simp; omega
      rw [e] at tl
      repeat' first
          | ((with_reducible apply weak_keep [5, 9, 10, 12, 13]); rfl; exact tl)
          | refine GoH ?_
          | refine ZB (ev_load rfl h6 rfl) ?_
          | refine ZB (ev_load rfl h7 rfl) ?_
          | refine ZB (ev_leq_t rfl rfl (by omega)) ?_
          | refine ZB (ev_leq_f rfl rfl (by omega)) ?_
          | refine ZB (ev_lss_t rfl rfl (by omega)) ?_
          | refine ZB (ev_lss_f rfl rfl (by omega)) ?_
          | refine ZB (ev_eql_t rfl rfl (by omega)) ?_
          | refine ZB (ev_eql_f rfl rfl (by omega)) ?_
          | refine ZB rfl ?_|refine ZC rfl ?_
set_option maxRecDepth 8000 in
set_option maxHeartbeats 8000000 in
theorem w350b (hg : g < 9) (hh : h < 9) (h6 : look ob y6 = some (ftO [95, 43, 95] g a)) (h7 : look ob y7 = some (ftO [95, 42, 95] h b)) (hc : ftC (ftR g a h b) (ftL g a h b) n sz E) : awp cl350 (c350r.tail 9) (PureQ [.t 4] (.c (.bool true))) ⟨[(5, .c (.d (.bool true))), (6, .c (.ptr y6 0)), (7, .c (.ptr y7 0)), (9, .c (.d (.int .i64 n))), (10, .c (.d (.list sz E))), (11, .c (.d (.bool (decide (g < 5) && decide (h < 5)))))], ⟨nx, ob⟩⟩ := by
  have tl := w350c (nx := nx) hg hh h6 h7 hc
  unfold ftO at h6 h7
  unfold c350r at *
  dsimp only [ACode.tail] at *
  clear hc
  by_cases qt : g < 5 ∧ h < 5
  · obtain ⟨qg, qh⟩ := qt
    have et : (decide (g < 5) && decide (h < 5)) = true := by simp [qg, qh]
    rw [et]
    try rw [et] at tl
    by_cases q1 : h < g
    · have e : ftR g a h b = true := by unfold ftR; simp; omega
      rw [e] at tl
      repeat' first
          | ((with_reducible apply weak_keep [5, 6, 7, 9, 10, 11, 12]); rfl; exact tl)
          | refine GoH ?_
          | refine ZB (ev_load rfl h6 rfl) ?_
          | refine ZB (ev_load rfl h7 rfl) ?_
          | refine ZB (ev_leq_t rfl rfl (by omega)) ?_
          | refine ZB (ev_leq_f rfl rfl (by omega)) ?_
          | refine ZB (ev_lss_t rfl rfl (by omega)) ?_
          | refine ZB (ev_lss_f rfl rfl (by omega)) ?_
          | refine ZB (ev_eql_t rfl rfl (by omega)) ?_
          | refine ZB (ev_eql_f rfl rfl (by omega)) ?_
          | refine ZB rfl ?_|refine ZC rfl ?_
    by_cases q2 : g = h
    · by_cases q3 : a = 2
      · by_cases q4 : b = 2
        · have e : ftR g a h b = true := by unfold ftR; simp; omega
          rw [e] at tl
          repeat' first
              | ((with_reducible apply weak_keep [5, 6, 7, 9, 10, 11, 12]); rfl; exact tl)
              | refine GoH ?_
              | refine ZB (ev_load rfl h6 rfl) ?_
              | refine ZB (ev_load rfl h7 rfl) ?_
              | refine ZB (ev_leq_t rfl rfl (by omega)) ?_
              | refine ZB (ev_leq_f rfl rfl (by omega)) ?_
              | refine ZB (ev_lss_t rfl rfl (by omega)) ?_
              | refine ZB (ev_lss_f rfl rfl (by omega)) ?_
              | refine ZB (ev_eql_t rfl rfl (by omega)) ?_
              | refine ZB (ev_eql_f rfl rfl (by omega)) ?_
              | refine ZB rfl ?_|refine ZC rfl ?_
        · have e : ftR g a h b = false := by unfold ftR; simp; omega
          rw [e] at tl
          repeat' first
              | ((with_reducible apply weak_keep [5, 6, 7, 9, 10, 11, 12]); rfl; exact tl)
              | refine GoH ?_
              | refine ZB (ev_load rfl h6 rfl) ?_
              | refine ZB (ev_load rfl h7 rfl) ?_
              | refine ZB (ev_leq_t rfl rfl (by omega)) ?_
              | refine ZB (ev_leq_f rfl rfl (by omega)) ?_
              | refine ZB (ev_lss_t rfl rfl (by omega)) ?_
              | refine ZB (ev_lss_f rfl rfl (by omega)) ?_
              | refine ZB (ev_eql_t rfl rfl (by omega)) ?_
              | refine ZB (ev_eql_f rfl rfl (by omega)) ?_
              | refine ZB rfl ?_|refine ZC rfl ?_
      · have e : ftR g a h b = false := by unfold ftR; simp; omega
        rw [e] at tl
        repeat' first
            | ((with_reducible apply weak_keep [5, 6, 7, 9, 10, 11, 12]); rfl; exact tl)
            | refine GoH ?_
            | refine ZB (ev_load rfl h6 rfl) ?_
            | refine ZB (ev_load rfl h7 rfl) ?_
            | refine ZB (ev_leq_t rfl rfl (by omega)) ?_
            | refine ZB (ev_leq_f rfl rfl (by omega)) ?_
            | refine ZB (ev_lss_t rfl rfl (by omega)) ?_
            | refine ZB (ev_lss_f rfl rfl (by omega)) ?_
            | refine ZB (ev_eql_t rfl rfl (by omega)) ?_
            | refine ZB (ev_eql_f rfl rfl (by omega)) ?_
            | refine ZB rfl ?_|refine ZC rfl ?_
    · have e : ftR g a h b = false := by unfold ftR; simp; omega
      rw [e] at tl
      repeat' first
          | ((with_reducible apply weak_keep [5, 6, 7, 9, 10, 11, 12]); rfl; exact tl)
          | refine GoH ?_
          | refine ZB (ev_load rfl h6 rfl) ?_
          | refine ZB (ev_load rfl h7 rfl) ?_
          | refine ZB (ev_leq_t rfl rfl (by omega)) ?_
          | refine ZB (ev_leq_f rfl rfl (by omega)) ?_
          | refine ZB (ev_lss_t rfl rfl (by omega)) ?_
          | refine ZB (ev_lss_f rfl rfl (by omega)) ?_
          | refine ZB (ev_eql_t rfl rfl (by omega)) ?_
          | refine ZB (ev_eql_f rfl rfl (by omega)) ?_
          | refine ZB rfl ?_|refine ZC rfl ?_
  · have et : (decide (g < 5) && decide (h < 5)) = false := by simp; omega
    rw [et]
    try rw [et] at tl
    by_cases q2 : g = h
    · by_cases q3 : a = 2
      · by_cases q4 : b = 2
        · have e : ftR g a h b = true := by unfold ftR; simp; omega
          rw [e] at tl
          repeat' first
              | ((with_reducible apply weak_keep [5, 6, 7, 9, 10, 11, 12]); rfl; exact tl)
              | refine GoH ?_
              | refine ZB (ev_load rfl h6 rfl) ?_
              | refine ZB (ev_load rfl h7 rfl) ?_
              | refine ZB (ev_leq_t rfl rfl (by omega)) ?_
              | refine ZB (ev_leq_f rfl rfl (by omega)) ?_
              | refine ZB (ev_lss_t rfl rfl (by omega)) ?_
              | refine ZB (ev_lss_f rfl rfl (by omega)) ?_
              | refine ZB (ev_eql_t rfl rfl (by omega)) ?_
              | refine ZB (ev_eql_f rfl rfl (by omega)) ?_
              | refine ZB rfl ?_|refine ZC rfl ?_
        · have e : ftR g a h b = false := by unfold ftR; simp; omega
          rw [e] at tl
          repeat' first
              | ((with_reducible apply weak_keep [5, 6, 7, 9, 10, 11, 12]); rfl; exact tl)
              | refine GoH ?_
              | refine ZB (ev_load rfl h6 rfl) ?_
              | refine ZB (ev_load rfl h7 rfl) ?_
              | refine ZB (ev_leq_t rfl rfl (by omega)) ?_
              | refine ZB (ev_leq_f rfl rfl (by omega)) ?_
              | refine ZB (ev_lss_t rfl rfl (by omega)) ?_
              | refine ZB (ev_lss_f rfl rfl (by omega)) ?_
              | refine ZB (ev_eql_t rfl rfl (by omega)) ?_
              | refine ZB (ev_eql_f rfl rfl (by omega)) ?_
              | refine ZB rfl ?_|refine ZC rfl ?_
      · have e : ftR g a h b = false := by unfold ftR; simp; omega
        rw [e] at tl
        repeat' first
            | ((with_reducible apply weak_keep [5, 6, 7, 9, 10, 11, 12]); rfl; exact tl)
            | refine GoH ?_
            | refine ZB (ev_load rfl h6 rfl) ?_
            | refine ZB (ev_load rfl h7 rfl) ?_
            | refine ZB (ev_leq_t rfl rfl (by omega)) ?_
            | refine ZB (ev_leq_f rfl rfl (by omega)) ?_
            | refine ZB (ev_lss_t rfl rfl (by omega)) ?_
            | refine ZB (ev_lss_f rfl rfl (by omega)) ?_
            | refine ZB (ev_eql_t rfl rfl (by omega)) ?_
            | refine ZB (ev_eql_f rfl rfl (by omega)) ?_
            | refine ZB rfl ?_|refine ZC rfl ?_
    · have e : ftR g a h b = false := by unfold ftR; simp; omega
      rw [e] at tl
      repeat' first
          | ((with_reducible apply weak_keep [5, 6, 7, 9, 10, 11, 12]); rfl; exact tl)
          | refine GoH ?_
          | refine ZB (ev_load rfl h6 rfl) ?_
          | refine ZB (ev_load rfl h7 rfl) ?_
          | refine ZB (ev_leq_t rfl rfl (by omega)) ?_
          | refine ZB (ev_leq_f rfl rfl (by omega)) ?_
          | refine ZB (ev_lss_t rfl rfl (by omega)) ?_
          | refine ZB (ev_lss_f rfl rfl (by omega)) ?_
          | refine ZB (ev_eql_t rfl rfl (by omega)) ?_
          | refine ZB (ev_eql_f rfl rfl (by omega)) ?_
          | refine ZB rfl ?_|refine ZC rfl ?_
set_option maxRecDepth 8000 in
set_option maxHeartbeats 8000000 in
theorem w350a (hg : g < 9) (hh : h < 9) (h6 : look ob y6 = some (ftO [95, 43, 95] g a)) (h7 : look ob y7 = some (ftO [95, 42, 95] h b)) (hc : ftC (ftR g a h b) (ftL g a h b) n sz E) : awp cl350 (c350r.tail 8) (PureQ [.t 4] (.c (.bool true))) ⟨[(5, .c (.d (.bool true))), (6, .c (.ptr y6 0)), (7, .c (.ptr y7 0)), (9, .c (.d (.int .i64 n))), (10, .c (.d (.list sz E)))], ⟨nx, ob⟩⟩ := by
  have tl := w350b (nx := nx) hg hh h6 h7 hc
  unfold ftO at h6 h7
  unfold c350r at *
  dsimp only [ACode.tail] at *
  clear hc
  by_cases q1 : g < 5
  · by_cases q2 : h < 5
    · have et : (decide (g < 5) && decide (h < 5)) = true := by simp [q1, q2]
      rw [et] at tl
      repeat' first
          | ((with_reducible apply weak_keep [5, 6, 7, 9, 10, 11]); rfl; exact tl)
          | refine GoH ?_
          | refine ZB (ev_load rfl h6 rfl) ?_
          | refine ZB (ev_load rfl h7 rfl) ?_
          | refine ZB (ev_leq_t rfl rfl (by omega)) ?_
          | refine ZB (ev_leq_f rfl rfl (by omega)) ?_
          | refine ZB (ev_lss_t rfl rfl (by omega)) ?_
          | refine ZB (ev_lss_f rfl rfl (by omega)) ?_
          | refine ZB (ev_eql_t rfl rfl (by omega)) ?_
          | refine ZB (ev_eql_f rfl rfl (by omega)) ?_
          | refine ZB rfl ?_|refine ZC rfl ?_
    · have et : (decide (g < 5) && decide (h < 5)) = false := by simp [q2]
      rw [et] at tl
      repeat' first
          | ((with_reducible apply weak_keep [5, 6, 7, 9, 10, 11]); rfl; exact tl)
          | refine GoH ?_
          | refine ZB (ev_load rfl h6 rfl) ?_
          | refine ZB (ev_load rfl h7 rfl) ?_
          | refine ZB (ev_leq_t rfl rfl (by omega)) ?_
          | refine ZB (ev_leq_f rfl rfl (by omega)) ?_
          | refine ZB (ev_lss_t rfl rfl (by omega)) ?_
          | refine ZB (ev_lss_f rfl rfl (by omega)) ?_
          | refine ZB (ev_eql_t rfl rfl (by omega)) ?_
          | refine ZB (ev_eql_f rfl rfl (by omega)) ?_
          | refine ZB rfl ?_|refine ZC rfl ?_
  · have et : (decide (g < 5) && decide (h < 5)) = false := by simp [q1]
    rw [et] at tl
    repeat' first
        | ((with_reducible apply weak_keep [5, 6, 7, 9, 10, 11]); rfl; exact tl)
        | refine GoH ?_
        | refine ZB (ev_load rfl h6 rfl) ?_
        | refine ZB (ev_load rfl h7 rfl) ?_
        | refine ZB (ev_leq_t rfl rfl (by omega)) ?_
        | refine ZB (ev_leq_f rfl rfl (by omega)) ?_
        | refine ZB (ev_lss_t rfl rfl (by omega)) ?_
        | refine ZB (ev_lss_f rfl rfl (by omega)) ?_
        | refine ZB (ev_eql_t rfl rfl (by omega)) ?_
        | refine ZB (ev_eql_f rfl rfl (by omega)) ?_
        | refine ZB rfl ?_|refine ZC rfl ?_
end
theorem fitOf_nat (o : Op3) : ∃ (p : List UInt8) (g a : Nat), fitOf o = ⟨p, 1 + (g : Int), (a : Int)⟩ ∧ g < 9 ∧ a < 3 := by
  have h1 : (o.g % 9).toNat < 9 := by omega
  have h2 : (o.a % 3).toNat < 3 := by omega
  have e1 : (((o.g % 9).toNat : Nat) : Int) = o.g % 9 := by omega
  have e2 : (((o.a % 3).toNat : Nat) : Int) = o.a % 3 := by omega
  unfold fitOf
  split
  · exact ⟨_, (o.g % 9).toNat, (o.a % 3).toNat, by rw [e1, e2], h1, h2⟩
  · exact ⟨_, (o.g % 9).toNat, 0, by rw [e1]; rfl, h1, by omega⟩
theorem ft_with {g a h b : Nat} (hg : g < 9) (ha : a < 3) (hh : h < 9) (hb : b < 3) : withL [⟨[95, 43, 95], 1 + (g : Int), (a : Int)⟩, ⟨[95, 42, 95], 1 + (h : Int), (b : Int)⟩] [] = ftE g a h b := by
  have hA := ftA_all g hg a ha h hh b hb
  unfold ftA at hA
  simp only [Bool.and_eq_true, beq_iff_eq] at hA
  have e1 : addTo ⟨[95, 43, 95], 1 + (g : Int), (a : Int)⟩ [] = [⟨[95, 43, 95], 1 + (g : Int), (a : Int)⟩] := by unfold addTo; rw [if_pos hA.1]; rfl
  have hl : strLess [95, 43, 95] [95, 42, 95] = false := by rfl
  have e2 : addTo ⟨[95, 42, 95], 1 + (h : Int), (b : Int)⟩ [⟨[95, 43, 95], 1 + (g : Int), (a : Int)⟩] = ftE g a h b := by
    unfold addTo addL
    rw [if_pos hA.2]
    simp [hl, ftE]
  show addTo _ (addTo _ []) = _
  rw [e1, e2]
theorem ft_cnt {g a h b : Nat} (hg : g < 9) (ha : a < 3) (hh : h < 9) (hb : b < 3) : ∃ (c : Int) (sz : Nat) (E : List (List D)), (∀ e s, T312 [.agg (envD e (ftE g a h b) (liftF startF)), .c (.list s ((lexT ftT).map tkD))] = some (.tup [.c (.int .i64 c), .c (.list sz E)])) ∧ ftC (ftR g a h b) (ftL g a h b) c sz E := by
  have hB := ft_all g hg a ha h hh b hb
  unfold ftB at hB
  have hl := ft_len
  generalize lexT ftT = k at hB hl ⊢
  have key : ∀ (L : List (List Nd5)), (drvOf (ftE g a h b) (liftF startF) k).allZ 0 5 = L → ∀ e s, T312 [.agg (envD e (ftE g a h b) (liftF startF)), .c (.list s (k.map tkD))] = some (resL L) := by
    intro L hL e s
    rw [T312_eq ⟨by show 2 ≤ 1000; decide, by omega⟩]
    congr 1
    have hn' : (drvOf (ftE g a h b) (liftF startF) k).toks.length = 5 := hl
    exact cnt_res (by rw [hn', ← allZ_eq]; exact hL) (by omega)
  generalize (drvOf (ftE g a h b) (liftF startF) k).allZ 0 5 = L at hB key
  have key := key L rfl
  match L, hB, key with
  | [], hB, key =>
    refine ⟨0, 0, [], key, .inl ?_⟩
    simp at hB
    exact ⟨hB.1, hB.2, rfl⟩
  | [x :: t], hB, key =>
    refine ⟨1, 5, ndD x :: t.map ndD, key, .inr ?_⟩
    simp at hB
    obtain ⟨⟨h1, h2⟩, h3⟩ := hB
    refine ⟨h1, rfl, rfl, by simp [h2], x, _, rfl, ?_⟩
    rw [← h3]
    by_cases q : x.s = [95, 43, 95] <;> simp [q]
noncomputable def T350 : List DV → Option DV := fam (fun x : Op3 × Op3 => [.agg (opD x.1), .agg (opD x.2)]) (fun x => x.1.pat.length ≤ 140737488351232 ∧ x.2.pat.length ≤ 140737488351232) (fun _ => .c (.bool true))
theorem T350_eq {x y : Op3} (h1 : x.pat.length ≤ 140737488351232) (h2 : y.pat.length ≤ 140737488351232) : T350 [.agg (opD x), .agg (opD y)] = some (.c (.bool true)) := by
  refine fam_eq (ι := Op3 × Op3) (x, y) ⟨h1, h2⟩ ?_
  intro _ _ _
  rfl
set_option maxRecDepth 8000 in
set_option maxHeartbeats 8000000 in
theorem w350 (x : Op3 × Op3) (hx : x.1.pat.length ≤ 140737488351232 ∧ x.2.pat.length ≤ 140737488351232) : awp cl350 c350r (PureQ [.t 4] (.c (.bool true))) ⟨argE 0 (dvArgs [.agg (opD x.1), .agg (opD x.2)]), ⟨0, []⟩⟩ := by
  obtain ⟨x, y⟩ := x
  obtain ⟨hx, hy⟩ := hx
  simp only at hx hy ⊢
  have h310 : G310 [] = some (.c (.bool true)) := rfl
  have f1 : G22 [.agg (opD x)] = some (.agg (opD (fitOf x))) := G22_eq hx
  have f2 : G22 [.agg (opD y)] = some (.agg (opD (fitOf y))) := G22_eq hy
  obtain ⟨p1, g, a, e1, hg, ha⟩ := fitOf_nat x
  obtain ⟨p2, h, b, e2, hh, hb⟩ := fitOf_nat y
  rw [e1] at f1
  rw [e2] at f2
  have h311 := T311_eq (sz := 3) (L := [⟨[95, 43, 95], 1 + (g : Int), (a : Int)⟩, ⟨[95, 42, 95], 1 + (h : Int), (b : Int)⟩]) (by show 2 ≤ 500; decide)
  rw [ft_with hg ha hh hb] at h311
  have x1 := onB_eq (F := FAll) (sz := 1) (s := ftT) (.inl rfl) (by unfold room; decide)
  rw [FAll_T] at x1
  have b1 : encB ftT = [[.int .u8 112], [.int .u8 32], [.int .u8 43], [.int .u8 32], [.int .u8 113], [.int .u8 32], [.int .u8 42], [.int .u8 32], [.int .u8 114]] := rfl
  rw [b1] at x1
  obtain ⟨n, sz, E, hcnt, hc⟩ := ft_cnt hg ha hh hb
  have hcnt := hcnt 3 5
  have tl := fun nx ob y6 y7 h6 h7 => w350a (nx := nx) (ob := ob) (y6 := y6) (y7 := y7) hg hh h6 h7 hc
  clear hc
  generalize (lexT ftT).map tkD = t1 at x1 hcnt
  obtain ⟨xp, xg, xa⟩ := x
  obtain ⟨yp, yg, ya⟩ := y
  unfold cl350 at *
  unfold envD zs ftE at *
  simp only at h311
  simp only [opD] at f1 f2 h311
  unfold c350r at *
  dsimp only [ACode.tail] at tl
  repeat' first
    | refine ZZ (evalR_of_eval (ev_pcall rfl rfl x1 rfl rfl)) (by (repeat' first|exact True.intro|refine ⟨?_, ?_⟩|exact .inl rfl|exact .inr (.inl rfl)|exact .inr (.inr rfl)|rfl)) ?_
    | ((with_reducible apply weak_keep [5, 6, 7, 9, 10]); rfl; exact tl _ _ _ _ rfl rfl)
    | refine GoH ?_
    | ((with_reducible apply Z1 (f := 5));rfl;rfl;rfl;exact h310;rfl)
    | ((with_reducible apply Z1 (f := 6));rfl;rfl;rfl;exact f1;rfl)
    | ((with_reducible apply Z1 (f := 6));rfl;rfl;rfl;exact f2;rfl)
    | ((with_reducible apply Z1 (f := 7));rfl;rfl;rfl;exact h311;rfl)
    | (refine step_b2bh rfl rfl rfl (by decide) ?_)
    | (with_reducible first | apply ZS | apply ZT)
    | refine ZY (ev_pcall rfl rfl hcnt rfl rfl) (by (repeat' first|exact True.intro|refine ⟨?_, ?_⟩|exact .inl rfl|exact .inr (.inl rfl)|exact .inr (.inr rfl)|rfl)) ?_
    | (with_reducible first|apply ZS|apply ZT)|((with_reducible apply ZU);rfl)|((with_reducible apply ZV);rfl;decide)|((with_reducible apply ZW);rfl)|refine ZX rfl rfl ?_|refine ZY rfl (by (repeat' first|exact True.intro|refine ⟨?_, ?_⟩|exact .inl rfl|exact .inr (.inl rfl)|exact .inr (.inr rfl)|rfl)) ?_|refine ZZ (Z0 rfl ⟨rfl, rfl⟩) (by (repeat' first|exact True.intro|refine ⟨?_, ?_⟩|exact .inl rfl|exact .inr (.inl rfl)|exact .inr (.inr rfl)|rfl)) ?_
    | refine ZB rfl ?_|refine ZC rfl ?_
theorem deriveFit_ok (m : Int) : PureFn Go.Proofs.Tryz.prog (glb m) 3 T350 := fam_ok (fn350r m) (callOk_cons (pok22 m) (callOk_cons (pe37 m) (callOk_cons (pok310 m) (callOk_cons (pok311 (p42E m)) (callOk_cons (pok312 m) (callOk_nil _ _)))))) w350
end Go.Am
