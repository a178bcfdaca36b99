/-
  FitsAll: the law's function comes to true, whatever it is given.
-/
import Derived.Test.YtnhalnblbfgbkaaDoorAQC
import Derived.Test.YtnhalnblbfgbkaaDoorAF10
import Derived.Test.YtnhalnblbfgbkaaDoorAF5
import Derived.Test.YtnhalnblbfgbkaaDoorANF
import Derived.Test.YtnhalnblbfgbkaaDoorANI
namespace Go.Am
open Go
theorem ev_beq_t {cl : Call} {e : Env} {h : Hp} {x y : Opd} {b : Bool} (hx : ev e x = .c (.d (.bool b))) (hy : ev e y = .c (.d (.bool b))) : eval cl e h (.beq false x y) = some (.c (.d (.bool true)), h) := by
  simp [eval, hx, hy]
noncomputable def T8 : List DV → Option DV := fam (fun x : (Nat × List Op3 × (Nat → Int)) × (Op3 × Op3 × Bool) × Tk5 => [.agg (envD x.1.1 x.1.2.1 x.1.2.2), .agg (opD x.2.1.1 ++ opD x.2.1.2.1 ++ [.bool x.2.1.2.2]), .agg (tkD x.2.2)]) (fun _ => True) (fun _ => .c (.bool true))
theorem T8_eq {sz : Nat} {l : List Op3} {f : Nat → Int} {o k : Op3} {b : Bool} {t : Tk5} : T8 [.agg (envD sz l f), .agg (opD o ++ opD k ++ [.bool b]), .agg (tkD t)] = some (.c (.bool true)) :=
  fam_eq (ι := (Nat × List Op3 × (Nat → Int)) × (Op3 × Op3 × Bool) × Tk5) ((sz, l, f), (o, k, b), t) True.intro (fun _ _ _ => rfl)
set_option maxRecDepth 8000 in
set_option maxHeartbeats 8000000 in
theorem w8 (x : (Nat × List Op3 × (Nat → Int)) × (Op3 × Op3 × Bool) × Tk5) (_ : True) : awp (tbl [(9, G20), (12, T23 partE), (10, T24), (11, T25), (13, T26), (14, T27), (15, T27), (16, T29 partE), (17, T30)]) c8 (PureQ [.t 6] (.c (.bool true))) ⟨argE 0 (dvArgs [.agg (envD x.1.1 x.1.2.1 x.1.2.2), .agg (opD x.2.1.1 ++ opD x.2.1.2.1 ++ [.bool x.2.1.2.2]), .agg (tkD x.2.2)]), ⟨0, []⟩⟩ := by
  obtain ⟨⟨sz, l, f⟩, ⟨⟨p, g, a⟩, ⟨p', g', a'⟩, right⟩, ⟨tk, ta, tb, ts, te⟩⟩ := x
  simp only
  have h20 : G20 [] = some (.c (.bool true)) := rfl
  have h24 := T24_eq sz l f
  have hok := cut20_ok l
  generalize cut20 l = el at h24 hok
  generalize z3 el = ez at h24
  have h25a : T25 [.agg [.str p, .int .i64 g, .int .i64 a]] = some (.agg [.str (p.take 60), .int .i64 g, .int .i64 a]) := T25_eq ⟨p, g, a⟩
  have h25b : T25 [.agg [.str p', .int .i64 g', .int .i64 a']] = some (.agg [.str (p'.take 60), .int .i64 g', .int .i64 a']) := T25_eq ⟨p', g', a'⟩
  have hl1 : (p.take 60).length ≤ 60 := by rw [List.length_take]; omega
  have hl2 : (p'.take 60).length ≤ 60 := by rw [List.length_take]; omega
  have htk : ∀ cl e h x y, ev e x = .c (.d (.str ts)) → ev e y = .c (.d (.int .i64 (if (60 : Int) < ts.length then (60 : Int) else ts.length))) → eval cl e h (.substr x none (some y)) = some (.c (.d (.str (ts.take 60))), h) := fun cl e h x y h1 h2 => ev_take60 h1 h2
  generalize p.take 60 = q at h25a hl1
  generalize p'.take 60 = q' at h25b hl2
  generalize ts.take 60 = s at htk
  have h23 : T23 partE [.agg (rowsD f), .agg [.str q, .int .i64 g, .int .i64 a], .agg [.str q', .int .i64 g', .int .i64 a'], .c (.bool right)] = some (.c (.bool (fitsOf partE f ⟨q, g, a⟩ ⟨q', g', a'⟩ right))) := T23_eq partE f ⟨q, g, a⟩ ⟨q', g', a'⟩ right
  have h26 : T26 [.agg (rowsD f), .agg [.str q, .int .i64 g, .int .i64 a], .agg [.str q', .int .i64 g', .int .i64 a'], .c (.bool right)] = some (.c (.bool (fitsOf partE f ⟨q, g, a⟩ ⟨q', g', a'⟩ right))) := T26_eq f (o := ⟨q, g, a⟩) (k := ⟨q', g', a'⟩) right hl1 hl2
  have h27 : ∀ n, T27 [.agg [.int .i64 tk, .int .i64 ta, .int .i64 tb, .str s, .int .i64 te], .c (.str n)] = some (.c (.bool (partK ⟨tk, ta, tb, s, te⟩ n))) := fun n => T27_eq (t := ⟨tk, ta, tb, s, te⟩) (n := n)
  have h29 : T29 partE [.agg (envD ez el f), .agg [.int .i64 tk, .int .i64 ta, .int .i64 tb, .str s, .int .i64 te]] = some (.c (.bool (leafB tk (entsOf partE f s el).isEmpty))) := T29_eq (part := partE) (sz := ez) (f := f) hok.1 ⟨tk, ta, tb, s, te⟩
  have h30 : T30 [.agg (envD ez el f), .agg [.int .i64 tk, .int .i64 ta, .int .i64 tb, .str s, .int .i64 te]] = some (.c (.bool (leafB tk (entsOf partE f s el).isEmpty))) := T30_eq (sz := ez) (f := f) hok ⟨tk, ta, tb, s, te⟩
  generalize fitsOf partE f ⟨q, g, a⟩ ⟨q', g', a'⟩ right = v1 at h23 h26
  generalize leafB tk (entsOf partE f s el).isEmpty = v2 at h29 h30
  have h27a := h27 q'
  have h27b := h27 s
  generalize partK ⟨tk, ta, tb, s, te⟩ q' = v3 at h27a
  generalize partK ⟨tk, ta, tb, s, te⟩ s = v4 at h27b
  clear h27
  unfold c8
  repeat' first
    | refine GoH ?_
    | ((with_reducible apply Z1 (f := 9));rfl;rfl;rfl;exact h20;rfl)
    | ((with_reducible apply Z1 (f := 10));rfl;rfl;rfl;exact h24;rfl)
    | ((with_reducible apply Z1 (f := 11));rfl;rfl;rfl;exact h25a;rfl)
    | ((with_reducible apply Z1 (f := 11));rfl;rfl;rfl;exact h25b;rfl)
    | refine ZB (ev_min rfl rfl) ?_
    | refine ZB (htk _ _ _ _ _ rfl rfl) ?_
    | with_reducible apply ZS
    | refine ZY (ev_pcall (f := 12) rfl rfl h23 rfl rfl) (by (repeat' first|exact True.intro|refine ⟨?_, ?_⟩|exact .inl rfl|exact .inr (.inl rfl)|exact .inr (.inr rfl)|rfl)) ?_
    | refine ZY (ev_pcall (f := 13) rfl rfl h26 rfl rfl) (by (repeat' first|exact True.intro|refine ⟨?_, ?_⟩|exact .inl rfl|exact .inr (.inl rfl)|exact .inr (.inr rfl)|rfl)) ?_
    | refine ZY (ev_pcall (f := 14) rfl rfl h27a rfl rfl) (by (repeat' first|exact True.intro|refine ⟨?_, ?_⟩|exact .inl rfl|exact .inr (.inl rfl)|exact .inr (.inr rfl)|rfl)) ?_
    | refine ZY (ev_pcall (f := 15) rfl rfl h27a rfl rfl) (by (repeat' first|exact True.intro|refine ⟨?_, ?_⟩|exact .inl rfl|exact .inr (.inl rfl)|exact .inr (.inr rfl)|rfl)) ?_
    | refine ZY (ev_pcall (f := 14) rfl rfl h27b rfl rfl) (by (repeat' first|exact True.intro|refine ⟨?_, ?_⟩|exact .inl rfl|exact .inr (.inl rfl)|exact .inr (.inr rfl)|rfl)) ?_
    | refine ZY (ev_pcall (f := 15) rfl rfl h27b rfl rfl) (by (repeat' first|exact True.intro|refine ⟨?_, ?_⟩|exact .inl rfl|exact .inr (.inl rfl)|exact .inr (.inr rfl)|rfl)) ?_
    | refine ZY (ev_pcall (f := 16) rfl rfl h29 rfl rfl) (by (repeat' first|exact True.intro|refine ⟨?_, ?_⟩|exact .inl rfl|exact .inr (.inl rfl)|exact .inr (.inr rfl)|rfl)) ?_
    | refine ZY (ev_pcall (f := 17) rfl rfl h30 rfl rfl) (by (repeat' first|exact True.intro|refine ⟨?_, ?_⟩|exact .inl rfl|exact .inr (.inl rfl)|exact .inr (.inr rfl)|rfl)) ?_
    | refine ZX rfl (ev_beq_t rfl rfl) ?_
    | (with_reducible first|apply ZS|apply ZT)|((with_reducible apply ZU);rfl)|((with_reducible apply ZV);rfl;decide)|((with_reducible apply ZW);rfl)|refine ZX rfl rfl ?_|refine ZY rfl (by (repeat' first|exact True.intro|refine ⟨?_, ?_⟩|exact .inl rfl|exact .inr (.inl rfl)|exact .inr (.inr rfl)|rfl)) ?_
    | refine ZB rfl ?_|refine ZC rfl ?_
  exact ⟨_, rfl, rfl⟩
theorem fitsAll_ok (m : Int) : PureFn Go.Proofs.Tryd.prog (glb m) 3 T8 := by
  have p46 := pok46 (pe37 m) kbE
  have p19 : PureOk Go.Proofs.Tryd.prog (glb m) 30 (G19 partE) := pok19 (pok47 (pok63 (pok45 p46)))
  exact fam_ok (fn8 m) (callOk_cons (pok20 kbE p19) (callOk_cons (pok23 p19) (callOk_cons (pok24 m) (callOk_cons (pok25 m) (callOk_cons (pok26 m) (callOk_cons (pok27 m) (callOk_cons (pok28 m) (callOk_cons (pok29 p19) (callOk_cons (pok30 m) (callOk_nil _ _)))))))))) w8
end Go.Am
