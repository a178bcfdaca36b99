/-
  shape.Of.
-/
import Derived.Test.YtpidbhbmamjbpaaDoorSMH
namespace Go.Am
open Go
theorem ev_sl_eq {cl : Call} {e : Env} {hp : Hp} {x : Opd} {lo hi : Option Opd} {sz : Nat} {l l' : List (List D)} {a b : Int} (hx : ev e x = .c (.d (.list sz l))) (hl : loOf e lo = some a) (hh : hiOf e l.length hi = some b) (h0 : 0 ≤ a) (h1 : a ≤ b) (h2 : b ≤ l.length) (hr : (l.take b.toNat).drop a.toNat = l') :
    eval cl e hp (.slice sz x lo hi none) = some (.c (.d (.list sz l')), hp) := by
  obtain ⟨nx, ob⟩ := hp
  have hs : sized sz sz l = true := by simp [sized]
  simp only [eval, hx, C.lst, C.toD, hs, bounds_of hl hh h0 h1 h2, hr]
  rfl
structure SV where
  parts : List (List UInt8)
  left : Bool
  right : Bool
def stripL : List (List UInt8) → Bool × List (List UInt8)
  | [] :: r => (true, r)
  | l => (false, l)
def stripR (l : List (List UInt8)) : Bool × List (List UInt8) := match l.reverse with
  | [] :: r => (true, r.reverse)
  | _ => (false, l)
def trim (l : List (List UInt8)) : SV := ⟨(stripR (stripL l).2).2, (stripL l).1, (stripR (stripL l).2).1⟩
def mayS (part : List UInt8 → Bool) (v : SV) : Bool := !(decide (v.parts.length < 1) || decide (4 < v.parts.length) || (decide (v.parts.length = 1) && !v.left && !v.right) || badS part v.parts)
def shapeOf (part : List UInt8 → Bool) (s : List UInt8) : Option SV :=
  if 40 < s.length then none else if mayS part (trim (cutU 95 s)) then some (trim (cutU 95 s)) else none
def svDV : Option SV → DV
  | some v => .tup [.agg [.list 1 (ofStrs v.parts), .bool v.left, .bool v.right], .c (.int .i64 0)]
  | none => .tup [.agg [.list 0 [], .bool false, .bool false], .c (.int .i64 23)]
def G19 (part : List UInt8 → Bool) : List DV → Option DV
  | [.c (.str s)] => some (svDV (shapeOf part s))
  | _ => none
theorem cutU_len (c : UInt8) : ∀ s : List UInt8, (cutU c s).length ≤ s.length + 1 ∧ ∀ p ∈ cutU c s, p.length ≤ s.length
  | [] => ⟨by simp [cutU], by simp [cutU]⟩
  | b :: r => by
    obtain ⟨h1, h2⟩ := cutU_len c r
    unfold cutU
    split
    · refine ⟨by simp; omega, fun p hp => ?_⟩
      rcases List.mem_cons.1 hp with rfl | h
      · simp
      · have := h2 p h; simp; omega
    · split
      · rename_i h t heq
        rw [heq] at h1 h2
        refine ⟨by simp at h1 ⊢; omega, fun p hp => ?_⟩
        rcases List.mem_cons.1 hp with rfl | h'
        · have := h2 h (by simp); simp; omega
        · have := h2 p (by simp [h']); simp; omega
      · exact ⟨by simp, fun p hp => by simp at hp; subst hp; simp⟩
theorem room_sub {s : List UInt8} (hs : s.length ≤ 40) {l : List (List UInt8)} (hlen : l.length ≤ (cutU 95 s).length) (hsub : ∀ p ∈ l, p ∈ cutU 95 s) : roomAll l = true := by
  obtain ⟨h1, h2⟩ := cutU_len 95 s
  simp only [roomAll, Bool.and_eq_true, decide_eq_true_eq, List.all_eq_true]
  refine ⟨by unfold room; omega, fun p hp => ?_⟩
  have := h2 p (hsub p hp)
  unfold room
  omega
theorem stripR_app (q : List (List UInt8)) (p : List UInt8) : stripR (q ++ [p]) = if p = [] then (true, q) else (false, q ++ [p]) := by
  unfold stripR
  rw [List.reverse_append]
  cases p with
  | nil => simp
  | cons a r => simp
theorem stripL_cons (p : List UInt8) (r : List (List UInt8)) : stripL (p :: r) = if p = [] then (true, r) else (false, p :: r) := by
  cases p with
  | nil => rfl
  | cons a q => rfl
def c19r : ACode := match c19 with
  | .seq _ (.seq _ (.seq _ (.seq _ (.seq _ (.seq _ x))))) => x
  | x => x
theorem mayS_f {part : List UInt8 → Bool} {p : List (List UInt8)} {l r : Bool} (h : p.length < 1 ∨ 4 < p.length ∨ (p.length = 1 ∧ l = false ∧ r = false) ∨ badS part p = true) : mayS part ⟨p, l, r⟩ = false := by
  unfold mayS
  simp only [Bool.not_eq_false', Bool.or_eq_true, decide_eq_true_eq, Bool.and_eq_true, Bool.not_eq_true']
  rcases h with h | h | ⟨h1, h2, h3⟩ | h
  · exact .inl (.inl (.inl h))
  · exact .inl (.inl (.inr h))
  · exact .inl (.inr ⟨⟨h1, h2⟩, h3⟩)
  · exact .inr h
theorem mayS_t {part : List UInt8 → Bool} {p : List (List UInt8)} {l r : Bool} (h1 : 1 ≤ p.length) (h2 : p.length ≤ 4) (h3 : p.length = 1 → l = true ∨ r = true) (h4 : badS part p = false) : mayS part ⟨p, l, r⟩ = true := by
  unfold mayS
  have e1 : decide (p.length < 1) = false := decide_eq_false (by omega)
  have e2 : decide (4 < p.length) = false := decide_eq_false (by omega)
  rw [e1, e2, h4]
  by_cases h : p.length = 1
  · rcases h3 h with rfl | rfl <;> simp
  · simp [h]
set_option maxRecDepth 8000 in
set_option maxHeartbeats 4000000 in
theorem w19r (part : List UInt8 → Bool) (p : List (List UInt8)) (l r : Bool) (hr : roomAll p = true) : awp (tbl [(32, G44), (35, G47 part)]) c19r (PureQ [.cell 2 3 true, .t 3] (svDV (if mayS part ⟨p, l, r⟩ then some ⟨p, l, r⟩ else none)))
    ⟨[(2, .c (.ptr 0 0)), (3, .c (.d (.int .i64 0))), (4, .c (.ptr 1 0))], ⟨2, [(1, .cells [.d (.list 1 (ofStrs p)), .d (.bool l), .d (.bool r)]), (0, .cells [.nil, .d (.bool false), .d (.bool false)])]⟩⟩ := by
  have hlen := ofStrs_len p
  have h47 : G47 part [.c (.list 1 (ofStrs p)), .c (.fn 33)] = some (.c (.bool (badS part p))) := by
    simp only [G47, strsOf_back, if_pos hr]
  unfold c19r c19
  dsimp only
  cases l <;> cases r <;>
  (repeat' first
    | ((with_reducible first|apply ZD|apply ZE|apply ZF|apply ZG|apply ZH|apply ZI);rfl;rfl;all_goals (intro hc;first|(exfalso;omega)|skip))|((with_reducible first|apply ZJ|apply ZK);rfl;rfl;all_goals (intro hc;first|contradiction|skip))|((with_reducible first|apply ZL|apply ZM);rfl;rfl;omega;omega)|((with_reducible first|apply ZN|apply ZO);rfl;rfl;omega;omega;intro c hget hc)|((with_reducible apply ZP);rfl;(first|exact .inl rfl|assumption);rfl;rfl;omega;omega;omega;intro s' hs' hl')|((with_reducible apply ZQ);rfl;rfl;rfl;omega;omega;omega;intro s' hs' hl')|((with_reducible apply ZR);rfl)
    | (((with_reducible apply Z1 (f := 35));rfl;rfl;rfl;exact h47;rfl); refine step_bool (fun hb => ?_) (fun hb => ?_))
    | refine GoH ?_|refine ZB rfl ?_|refine ZC rfl ?_)
  all_goals first
    | (rw [mayS_f (.inl (by omega))]; exact ⟨_, rfl, rfl⟩)
    | (rw [mayS_f (.inr (.inl (by omega)))]; exact ⟨_, rfl, rfl⟩)
    | (rw [mayS_f (.inr (.inr (.inl ⟨by omega, rfl, rfl⟩)))]; exact ⟨_, rfl, rfl⟩)
    | (rw [mayS_f (.inr (.inr (.inr (by assumption))))]; exact ⟨_, rfl, rfl⟩)
    | (rw [mayS_t (by omega) (by omega) (fun _ => .inl rfl) (by assumption)]; exact ⟨_, rfl, rfl⟩)
    | (rw [mayS_t (by omega) (by omega) (fun _ => .inr rfl) (by assumption)]; exact ⟨_, rfl, rfl⟩)
    | (rw [mayS_t (by omega) (by omega) (fun h => by exfalso; omega) (by assumption)]; exact ⟨_, rfl, rfl⟩)
set_option maxRecDepth 8000 in
set_option maxHeartbeats 4000000 in
theorem w19 (part : List UInt8 → Bool) (ds : List DV) (r : DV) (h : G19 part ds = some r) : awp (tbl [(32, G44), (35, G47 part)]) c19 (PureQ [.cell 2 3 true, .t 3] r) ⟨argE 0 (dvArgs ds), ⟨0, []⟩⟩ := by
  unfold G19 at h
  split at h
  · rename_i s
    cases h
    by_cases hlong : 40 < s.length
    · have e : shapeOf part s = none := by unfold shapeOf; rw [if_pos hlong]
      rw [e]
      unfold c19
      repeat' first | ((with_reducible first|apply ZD|apply ZE|apply ZF|apply ZG|apply ZH|apply ZI);rfl;rfl;all_goals (intro hc;first|(exfalso;omega)|skip))|((with_reducible first|apply ZJ|apply ZK);rfl;rfl;all_goals (intro hc;first|contradiction|skip))|((with_reducible first|apply ZL|apply ZM);rfl;rfl;omega;omega)|((with_reducible first|apply ZN|apply ZO);rfl;rfl;omega;omega;intro c hget hc)|((with_reducible apply ZP);rfl;(first|exact .inl rfl|assumption);rfl;rfl;omega;omega;omega;intro s' hs' hl')|((with_reducible apply ZQ);rfl;rfl;rfl;omega;omega;omega;intro s' hs' hl')|((with_reducible apply ZR);rfl) | refine GoH ?_|refine ZB rfl ?_|refine ZC rfl ?_
      exact ⟨_, rfl, rfl⟩
    · have e : shapeOf part s = if mayS part (trim (cutU 95 s)) then some (trim (cutU 95 s)) else none := by unfold shapeOf; rw [if_neg hlong]
      rw [e]
      have h44 : G44 [.c (.str s), .c (.str [95])] = some (.c (.list 1 (ofStrs (cutU 95 s)))) := by
        simp only [G44]
        rw [if_pos (by unfold room; omega)]
        rfl
      have hsub : ∀ l : List (List UInt8), l.length ≤ (cutU 95 s).length → (∀ p ∈ l, p ∈ cutU 95 s) → roomAll l = true := fun l h1 h2 => room_sub (by omega) h1 h2
      have hclen := (cutU_len 95 s).1
      unfold c19
      generalize hP : cutU 95 s = P at *
      cases P with
      | nil => exact absurd hP (cutU_ne _ _)
      | cons p0 rest =>
        have key : ∀ (l : Bool) (q : List (List UInt8)), stripL (p0 :: rest) = (l, q) → ∀ (rr : Bool) (q' : List (List UInt8)), stripR q = (rr, q') → trim (p0 :: rest) = ⟨q', l, rr⟩ := by
          intro l q h1 rr q' h2
          unfold trim
          rw [h1, h2]
        have hlenP : (ofStrs (p0 :: rest)).length = rest.length + 1 := ofStrs_len (p0 :: rest)
        have hfin : ∀ (l rr : Bool) (q : List (List UInt8)), trim (p0 :: rest) = ⟨q, l, rr⟩ → q.length ≤ rest.length + 1 → (∀ p ∈ q, p ∈ p0 :: rest) → awp (tbl [(32, G44), (35, G47 part)]) c19r (PureQ [.cell 2 3 true, .t 3] (svDV (if mayS part (trim (p0 :: rest)) then some (trim (p0 :: rest)) else none)))
            ⟨[(2, .c (.ptr 0 0)), (3, .c (.d (.int .i64 0))), (4, .c (.ptr 1 0))], ⟨2, [(1, .cells [.d (.list 1 (ofStrs q)), .d (.bool l), .d (.bool rr)]), (0, .cells [.nil, .d (.bool false), .d (.bool false)])]⟩⟩ := by
          intro l rr q ht h1 h2
          rw [ht]
          exact w19r part q l rr (hsub q (by simpa using h1) h2)
        by_cases hp0 : p0 = []
        · subst hp0
          rcases List.eq_nil_or_concat rest with rfl | ⟨q, last, hql⟩
          · have hk := hfin true false [] (key true [] rfl false [] rfl) (by simp) (by simp)
            have hE : (ofStrs ([] : List (List UInt8))).length = 0 := rfl
            have hstep : ∀ e hp x, ev e x = .c (.d (.list 1 (ofStrs ([[]] : List (List UInt8))))) → eval (tbl [(32, G44), (35, G47 part)]) e hp (.slice 1 x (some (.k (.c (.d (.int .i64 1))))) none none) = some (.c (.d (.list 1 (ofStrs []))), hp) := by
              intro e hp x hx
              exact ev_sl_eq hx rfl rfl (by decide) (by decide) (by decide) (by simp [ofStrs])
            repeat' first
              | exact weak_keep [2, 3, 4] rfl hk
              | ((with_reducible first|apply ZD|apply ZE|apply ZF|apply ZG|apply ZH|apply ZI);rfl;rfl;all_goals (intro hc;first|(exfalso;omega)|skip))|((with_reducible first|apply ZJ|apply ZK);rfl;rfl;all_goals (intro hc;first|contradiction|skip))|((with_reducible first|apply ZL|apply ZM);rfl;rfl;omega;omega)|((with_reducible first|apply ZN|apply ZO);rfl;rfl;omega;omega;intro c hget hc)|((with_reducible apply ZP);rfl;(first|exact .inl rfl|assumption);rfl;rfl;omega;omega;omega;intro s' hs' hl')|((with_reducible apply ZQ);rfl;rfl;rfl;omega;omega;omega;intro s' hs' hl')|((with_reducible apply ZR);rfl)
              | ((with_reducible apply Z1 (f := 32));rfl;rfl;rfl;exact h44;rfl)
              | refine GoH ?_|refine ZB rfl ?_|refine ZC rfl ?_
              | with_reducible apply ZS
              | refine ZY (hstep _ _ _ rfl) (by (repeat' first|exact True.intro|refine ⟨?_, ?_⟩|exact .inl rfl|exact .inr (.inl rfl)|exact .inr (.inr rfl)|rfl)) ?_
              | (with_reducible first|apply ZS|apply ZT)|((with_reducible apply ZU);rfl)|((with_reducible apply ZV);rfl;decide)|((with_reducible apply ZW);rfl)|refine ZX rfl rfl ?_|refine ZY rfl (by (repeat' first|exact True.intro|refine ⟨?_, ?_⟩|exact .inl rfl|exact .inr (.inl rfl)|exact .inr (.inr rfl)|rfl)) ?_
              | refine ZZ (Z0 rfl ⟨rfl, rfl⟩) (by (repeat' first | exact True.intro | refine ⟨?_, ?_⟩ | exact .inl rfl | exact .inr (.inl rfl) | exact .inr (.inr (hstep _ _ _ rfl)) | exact .inr (.inr rfl) | rfl)) ?_
          · rw [List.concat_eq_append] at hql
            subst hql
            have hq : (q ++ [last]).length = q.length + 1 := by simp
            have hclen2 : q.length + 2 ≤ s.length + 1 := by
              have := hclen
              simp only [List.length_cons, List.length_append, List.length_nil] at this
              omega
            have hq2 : (ofStrs (q ++ [last])).length = q.length + 1 := by rw [ofStrs_len]; exact hq
            have hlast : (ofStrs (q ++ [last]))[(((ofStrs (q ++ [last])).length : Int) - 1).toNat]? = some [.str last] := by
              rw [hq2]
              have : (((q.length + 1 : Nat) : Int) - 1).toNat = q.length := by omega
              rw [this]
              simp [ofStrs]
            have hstep : ∀ e hp x, ev e x = .c (.d (.list 1 (ofStrs ([] :: (q ++ [last]))))) → eval (tbl [(32, G44), (35, G47 part)]) e hp (.slice 1 x (some (.k (.c (.d (.int .i64 1))))) none none) = some (.c (.d (.list 1 (ofStrs (q ++ [last])))), hp) := by
              intro e hp x hx
              exact ev_sl_eq hx rfl rfl (by decide) (by omega) (by omega) (by rw [Int.toNat_natCast, List.take_length]; rfl)
            have hstep2 : ∀ e hp x y, ev e x = .c (.d (.list 1 (ofStrs (q ++ [last])))) → ev e y = .c (.d (.int .i64 (((ofStrs (q ++ [last])).length : Int) - 1))) → eval (tbl [(32, G44), (35, G47 part)]) e hp (.slice 1 x none (some y) none) = some (.c (.d (.list 1 (ofStrs q))), hp) := by
              intro e hp x y hx hy
              refine ev_sl_eq hx rfl (show asInt (ev e y) = some _ by rw [hy]; rfl) (by decide) (by omega) (by omega) ?_
              have : (((ofStrs (q ++ [last])).length : Int) - 1).toNat = q.length := by omega
              rw [this]
              simp [ofStrs]
            by_cases hlst : last = []
            · subst hlst
              have hk := hfin true true q (key true _ rfl true q (by rw [stripR_app]; rfl)) (by omega) (fun p hp => by simp [hp])
              repeat' first
                | exact weak_keep [2, 3, 4] rfl hk
                | ((with_reducible first|apply ZD|apply ZE|apply ZF|apply ZG|apply ZH|apply ZI);rfl;rfl;all_goals (intro hc;first|(exfalso;omega)|skip))|((with_reducible first|apply ZJ|apply ZK);rfl;rfl;all_goals (intro hc;first|contradiction|skip))|((with_reducible first|apply ZL|apply ZM);rfl;rfl;omega;omega)|((with_reducible first|apply ZN|apply ZO);rfl;rfl;omega;omega;intro c hget hc)|((with_reducible apply ZP);rfl;(first|exact .inl rfl|assumption);rfl;rfl;omega;omega;omega;intro s' hs' hl')|((with_reducible apply ZQ);rfl;rfl;rfl;omega;omega;omega;intro s' hs' hl')|((with_reducible apply ZR);rfl)
                | ((with_reducible apply Z1 (f := 32));rfl;rfl;rfl;exact h44;rfl)
                | refine ZB (ev_idx rfl rfl (by omega) hlast rfl) ?_
                | refine GoH ?_|refine ZB rfl ?_|refine ZC rfl ?_
                | with_reducible apply ZS
                | refine ZY (hstep _ _ _ rfl) (by (repeat' first|exact True.intro|refine ⟨?_, ?_⟩|exact .inl rfl|exact .inr (.inl rfl)|exact .inr (.inr rfl)|rfl)) ?_
                | refine ZY (hstep2 _ _ _ _ rfl rfl) (by (repeat' first|exact True.intro|refine ⟨?_, ?_⟩|exact .inl rfl|exact .inr (.inl rfl)|exact .inr (.inr rfl)|rfl)) ?_
                | (with_reducible first|apply ZS|apply ZT)|((with_reducible apply ZU);rfl)|((with_reducible apply ZV);rfl;decide)|((with_reducible apply ZW);rfl)|refine ZX rfl rfl ?_|refine ZY rfl (by (repeat' first|exact True.intro|refine ⟨?_, ?_⟩|exact .inl rfl|exact .inr (.inl rfl)|exact .inr (.inr rfl)|rfl)) ?_
                | refine ZZ (Z0 rfl ⟨rfl, rfl⟩) (by (repeat' first | exact True.intro | refine ⟨?_, ?_⟩ | exact .inl rfl | exact .inr (.inl rfl) | exact .inr (.inr (hstep _ _ _ rfl)) | exact .inr (.inr (hstep2 _ _ _ _ rfl rfl)) | exact .inr (.inr rfl) | rfl)) ?_
            · have hk := hfin true false (q ++ [last]) (key true _ rfl false _ (by rw [stripR_app, if_neg hlst])) (by omega) (fun p hp => by simp at hp ⊢; rcases hp with h | h <;> simp [h])
              repeat' first
                | exact weak_keep [2, 3, 4] rfl hk
                | ((with_reducible first|apply ZD|apply ZE|apply ZF|apply ZG|apply ZH|apply ZI);rfl;rfl;all_goals (intro hc;first|(exfalso;omega)|skip))|((with_reducible first|apply ZJ|apply ZK);rfl;rfl;all_goals (intro hc;first|contradiction|skip))|((with_reducible first|apply ZL|apply ZM);rfl;rfl;omega;omega)|((with_reducible first|apply ZN|apply ZO);rfl;rfl;omega;omega;intro c hget hc)|((with_reducible apply ZP);rfl;(first|exact .inl rfl|assumption);rfl;rfl;omega;omega;omega;intro s' hs' hl')|((with_reducible apply ZQ);rfl;rfl;rfl;omega;omega;omega;intro s' hs' hl')|((with_reducible apply ZR);rfl)
                | ((with_reducible apply Z1 (f := 32));rfl;rfl;rfl;exact h44;rfl)
                | refine ZB (ev_idx rfl rfl (by omega) hlast rfl) ?_
                | refine GoH ?_|refine ZB rfl ?_|refine ZC rfl ?_
                | with_reducible apply ZS
                | refine ZY (hstep _ _ _ rfl) (by (repeat' first|exact True.intro|refine ⟨?_, ?_⟩|exact .inl rfl|exact .inr (.inl rfl)|exact .inr (.inr rfl)|rfl)) ?_
                | (with_reducible first|apply ZS|apply ZT)|((with_reducible apply ZU);rfl)|((with_reducible apply ZV);rfl;decide)|((with_reducible apply ZW);rfl)|refine ZX rfl rfl ?_|refine ZY rfl (by (repeat' first|exact True.intro|refine ⟨?_, ?_⟩|exact .inl rfl|exact .inr (.inl rfl)|exact .inr (.inr rfl)|rfl)) ?_
                | refine ZZ (Z0 rfl ⟨rfl, rfl⟩) (by (repeat' first | exact True.intro | refine ⟨?_, ?_⟩ | exact .inl rfl | exact .inr (.inl rfl) | exact .inr (.inr (hstep _ _ _ rfl)) | exact .inr (.inr rfl) | rfl)) ?_
        · have hS : stripL (p0 :: rest) = (false, p0 :: rest) := by rw [stripL_cons, if_neg hp0]
          rcases List.eq_nil_or_concat (p0 :: rest) with h0 | ⟨q, last, h0⟩
          · cases h0
          · rw [List.concat_eq_append] at h0
            have hq : (p0 :: rest).length = q.length + 1 := by rw [h0]; simp
            have hlast : (ofStrs (p0 :: rest))[(((ofStrs (p0 :: rest)).length : Int) - 1).toNat]? = some [.str last] := by
              rw [h0]
              have hq2 : (ofStrs (q ++ [last])).length = q.length + 1 := by rw [ofStrs_len]; simp
              rw [hq2]
              have : (((q.length + 1 : Nat) : Int) - 1).toNat = q.length := by omega
              rw [this]
              simp [ofStrs]
            have hq3 : rest.length = q.length := by simpa using hq
            have hstep2 : ∀ e hp x y, ev e x = .c (.d (.list 1 (ofStrs (p0 :: rest)))) → ev e y = .c (.d (.int .i64 (((ofStrs (p0 :: rest)).length : Int) - 1))) → eval (tbl [(32, G44), (35, G47 part)]) e hp (.slice 1 x none (some y) none) = some (.c (.d (.list 1 (ofStrs q))), hp) := by
              intro e hp x y hx hy
              refine ev_sl_eq hx rfl (show asInt (ev e y) = some _ by rw [hy]; rfl) (by decide) (by omega) (by omega) ?_
              have : (((ofStrs (p0 :: rest)).length : Int) - 1).toNat = q.length := by omega
              rw [this, h0]
              simp [ofStrs]
            by_cases hlst : last = []
            · subst hlst
              have hk := hfin false true q (key false _ hS true q (by rw [h0, stripR_app]; rfl)) (by omega) (fun p hp => by rw [h0]; simp [hp])
              repeat' first
                | exact weak_keep [2, 3, 4] rfl hk
                | ((with_reducible first|apply ZD|apply ZE|apply ZF|apply ZG|apply ZH|apply ZI);rfl;rfl;all_goals (intro hc;first|(exfalso;omega)|skip))|((with_reducible first|apply ZJ|apply ZK);rfl;rfl;all_goals (intro hc;first|contradiction|skip))|((with_reducible first|apply ZL|apply ZM);rfl;rfl;omega;omega)|((with_reducible first|apply ZN|apply ZO);rfl;rfl;omega;omega;intro c hget hc)|((with_reducible apply ZP);rfl;(first|exact .inl rfl|assumption);rfl;rfl;omega;omega;omega;intro s' hs' hl')|((with_reducible apply ZQ);rfl;rfl;rfl;omega;omega;omega;intro s' hs' hl')|((with_reducible apply ZR);rfl)
                | ((with_reducible apply Z1 (f := 32));rfl;rfl;rfl;exact h44;rfl)
                | refine ZB (ev_idx rfl rfl (by omega) hlast rfl) ?_
                | refine GoH ?_|refine ZB rfl ?_|refine ZC rfl ?_
                | with_reducible apply ZS
                | refine ZY (hstep2 _ _ _ _ rfl rfl) (by (repeat' first|exact True.intro|refine ⟨?_, ?_⟩|exact .inl rfl|exact .inr (.inl rfl)|exact .inr (.inr rfl)|rfl)) ?_
                | (with_reducible first|apply ZS|apply ZT)|((with_reducible apply ZU);rfl)|((with_reducible apply ZV);rfl;decide)|((with_reducible apply ZW);rfl)|refine ZX rfl rfl ?_|refine ZY rfl (by (repeat' first|exact True.intro|refine ⟨?_, ?_⟩|exact .inl rfl|exact .inr (.inl rfl)|exact .inr (.inr rfl)|rfl)) ?_
                | refine ZZ (Z0 rfl ⟨rfl, rfl⟩) (by (repeat' first | exact True.intro | refine ⟨?_, ?_⟩ | exact .inl rfl | exact .inr (.inl rfl) | exact .inr (.inr (hstep2 _ _ _ _ rfl rfl)) | exact .inr (.inr rfl) | rfl)) ?_
            · have hk := hfin false false (p0 :: rest) (key false _ hS false _ (by rw [h0, stripR_app, if_neg hlst])) (by simp) (fun p hp => hp)
              repeat' first
                | exact weak_keep [2, 3, 4] rfl hk
                | ((with_reducible first|apply ZD|apply ZE|apply ZF|apply ZG|apply ZH|apply ZI);rfl;rfl;all_goals (intro hc;first|(exfalso;omega)|skip))|((with_reducible first|apply ZJ|apply ZK);rfl;rfl;all_goals (intro hc;first|contradiction|skip))|((with_reducible first|apply ZL|apply ZM);rfl;rfl;omega;omega)|((with_reducible first|apply ZN|apply ZO);rfl;rfl;omega;omega;intro c hget hc)|((with_reducible apply ZP);rfl;(first|exact .inl rfl|assumption);rfl;rfl;omega;omega;omega;intro s' hs' hl')|((with_reducible apply ZQ);rfl;rfl;rfl;omega;omega;omega;intro s' hs' hl')|((with_reducible apply ZR);rfl)
                | ((with_reducible apply Z1 (f := 32));rfl;rfl;rfl;exact h44;rfl)
                | refine ZB (ev_idx rfl rfl (by omega) hlast rfl) ?_
                | refine GoH ?_|refine ZB rfl ?_|refine ZC rfl ?_
                | with_reducible apply ZS
                | (with_reducible first|apply ZS|apply ZT)|((with_reducible apply ZU);rfl)|((with_reducible apply ZV);rfl;decide)|((with_reducible apply ZW);rfl)|refine ZX rfl rfl ?_|refine ZY rfl (by (repeat' first|exact True.intro|refine ⟨?_, ?_⟩|exact .inl rfl|exact .inr (.inl rfl)|exact .inr (.inr rfl)|rfl)) ?_|refine ZZ (Z0 rfl ⟨rfl, rfl⟩) (by (repeat' first|exact True.intro|refine ⟨?_, ?_⟩|exact .inl rfl|exact .inr (.inl rfl)|exact .inr (.inr rfl)|rfl)) ?_
  · cases h
theorem pok19 {m : Int} {part : List UInt8 → Bool} (h : PureOk Go.Proofs.Tryd.prog (glb m) 35 (G47 part)) : PureOk Go.Proofs.Tryd.prog (glb m) 14 (G19 part) := pure_ok (fn19 m) (callOk_cons (pok44 m) (callOk_cons h (callOk_nil _ _))) (w19 part)
theorem mayS_inv {part : List UInt8 → Bool} {p : List (List UInt8)} {l r : Bool} (h : mayS part ⟨p, l, r⟩ = true) : 1 ≤ p.length ∧ p.length ≤ 4 ∧ (p.length = 1 → l = true ∨ r = true) ∧ badS part p = false := by
  refine Decidable.byContradiction fun hn => ?_
  have : mayS part ⟨p, l, r⟩ = false := by
    refine mayS_f ?_
    by_cases h1 : p.length < 1
    · exact .inl h1
    by_cases h2 : 4 < p.length
    · exact .inr (.inl h2)
    by_cases h4 : badS part p = true
    · exact .inr (.inr (.inr h4))
    refine .inr (.inr (.inl ?_))
    by_cases h3 : p.length = 1
    · cases l
      · cases r
        · exact ⟨h3, rfl, rfl⟩
        · exact absurd ⟨by omega, by omega, fun _ => .inr rfl, by simpa using h4⟩ hn
      · exact absurd ⟨by omega, by omega, fun _ => .inl rfl, by simpa using h4⟩ hn
    · exact absurd ⟨by omega, by omega, fun h => (h3 h).elim, by simpa using h4⟩ hn
  rw [this] at h
  cases h
theorem shapeOf_some {part : List UInt8 → Bool} {s : List UInt8} {v : SV} (h : shapeOf part s = some v) : s.length ≤ 40 ∧ trim (cutU 95 s) = v ∧ mayS part v = true := by
  unfold shapeOf at h
  split at h
  · cases h
  · split at h
    · rename_i hl hm
      have e := Option.some.inj h
      rw [e] at hm
      exact ⟨by omega, e, hm⟩
    · cases h
end Go.Am
