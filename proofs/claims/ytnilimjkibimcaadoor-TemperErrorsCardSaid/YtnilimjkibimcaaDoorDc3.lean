/- For all its arguments the law TemperErrors of package schismalaw07 returns true and leaves its arguments as they were. -/
import Derived.Test.YtnilimjkibimcaaDoorDXb
import Derived.Test.YtnilimjkibimcaaDoorDt
import Derived.Test.YtnilimjkibimcaaDoorDp
import Derived.Test.YtnilimjkibimcaaDoorCards
import Derived.Test.YtnilimjkibimcaaDoorTie
import Derived.OpenShut
import Derived.Deep.DeepHandedRow
set_option linter.unusedVariables false

namespace Go.Proofs.YtnilimjkibimcaaDoor
open Go.Zz
theorem kinds3 : Tryd.f3.params.toList.mapM (paramK Tryd.prog) = some [(true, [.slice [.int .i64, .int .i64, .int .i64, .int .i64, .int .i64, .int .i64]]), (false, [.slice [.int .i64, .int .i64, .int .i64, .int .i64, .int .i64, .int .i64]]), (true, [.flat (.int .i64), .flat (.int .i64), .flat (.int .i64), .flat (.int .i64), .flat (.int .i64), .flat (.int .i64)]), (true, [.flat (.int .i64), .flat (.int .i64), .flat (.int .i64), .flat (.int .i64), .flat (.int .i64), .flat (.int .i64)]), (false, [.flat (.int .i64)]), (false, [.flat (.int .i64)])] := by kernel_rfl
theorem bounds3 : Tryd.f3.params.toList.mapM (ckB Tryd.prog 20) = some [[48], [48], [0, 0, 0, 0, 0, 0], [0, 0, 0, 0, 0, 0], [0], [0]] := by kernel_rfl
theorem law3 (avs : List AV) (h : All2 PA [(true, [.slice [.int .i64, .int .i64, .int .i64, .int .i64, .int .i64, .int .i64]]), (false, [.slice [.int .i64, .int .i64, .int .i64, .int .i64, .int .i64, .int .i64]]), (true, [.flat (.int .i64), .flat (.int .i64), .flat (.int .i64), .flat (.int .i64), .flat (.int .i64), .flat (.int .i64)]), (true, [.flat (.int .i64), .flat (.int .i64), .flat (.int .i64), .flat (.int .i64), .flat (.int .i64), .flat (.int .i64)]), (false, [.flat (.int .i64)]), (false, [.flat (.int .i64)])] avs) (hb : All2 PB [[48], [48], [0, 0, 0, 0, 0, 0], [0, 0, 0, 0, 0, 0], [0], [0]] avs) : ∃ n m', evF W5 n (.func 3 [] []) avs ⟨[], []⟩ = some (.bool true, m') := by
  obtain ⟨a1, r1, rfl, p1, h1⟩ := all2_cons h
  obtain ⟨a2, r2, rfl, p2, h2⟩ := all2_cons h1
  obtain ⟨a3, r3, rfl, p3, h3⟩ := all2_cons h2
  obtain ⟨a4, r4, rfl, p4, h4⟩ := all2_cons h3
  obtain ⟨a5, r5, rfl, p5, h5⟩ := all2_cons h4
  obtain ⟨a6, r6, rfl, p6, h6⟩ := all2_cons h5
  obtain rfl := all2_nil h6
  obtain ⟨q1, q2, q3, q4, q5, q6, _⟩ := hb
  obtain ⟨l, rs, rfl, rs1, rs3⟩ := pa_map p1 q1
  obtain ⟨gs, gs1, gs2⟩ := pa_rws p2
  have gsw := pb_sl gs1 q2
  have gs3 : gs.length * 48 ≤ 140737488351232 := by simpa [reachBytes] using gsw
  obtain ⟨v, rfl, v6⟩ := pa_vec p3
  obtain ⟨w, rfl, w6⟩ := pa_vec p4
  obtain ⟨x, rfl, _⟩ := pa_int p5
  obtain ⟨y, rfl, _⟩ := pa_int p6
  obtain ⟨n, v, m', g, rfl⟩ := (run3 (x := x) (y := y) rs1 (by omega) gs1 (by omega) v6 w6).ex
  exact ⟨n, m', g⟩
theorem laid_met3 (os : Os) : laidMet Tryd.prog Rows.temperErrorsRow.laid ((laidWorld os).forCall (fun _ _ => 0) ⟨#[], #[.agg #[.slice none 0 0], .slice none 0 0, .agg #[.int .i64 0, .int .i64 0, .int .i64 0, .int .i64 0, .int .i64 0, .int .i64 0], .agg #[.int .i64 0, .int .i64 0, .int .i64 0, .int .i64 0, .int .i64 0, .int .i64 0], .int .i64 0, .int .i64 0], []⟩).memory :=
  laidMet_of_run' 8 (by kernel_rfl) (by kernel_rfl)
theorem reads3 (os : Os) {H : Type} (enc : TypeId × Value → H) : ∃ places, DataW.whole enc Tryd.prog ((laidWorld os).forCall (fun _ _ => 0) ⟨#[], #[.agg #[.slice none 0 0], .slice none 0 0, .agg #[.int .i64 0, .int .i64 0, .int .i64 0, .int .i64 0, .int .i64 0, .int .i64 0], .agg #[.int .i64 0, .int .i64 0, .int .i64 0, .int .i64 0, .int .i64 0, .int .i64 0], .int .i64 0, .int .i64 0], []⟩).memory Tryd.f3.params.toList Rows.temperErrorsSpec.vars false (#[.agg #[.slice none 0 0], .slice none 0 0, .agg #[.int .i64 0, .int .i64 0, .int .i64 0, .int .i64 0, .int .i64 0, .int .i64 0], .agg #[.int .i64 0, .int .i64 0, .int .i64 0, .int .i64 0, .int .i64 0, .int .i64 0], .int .i64 0, .int .i64 0] : Array Value).toList 8 = some ([.agg [.nil], .nil, .agg [.lit (.int .i64 0), .lit (.int .i64 0), .lit (.int .i64 0), .lit (.int .i64 0), .lit (.int .i64 0), .lit (.int .i64 0)], .agg [.lit (.int .i64 0), .lit (.int .i64 0), .lit (.int .i64 0), .lit (.int .i64 0), .lit (.int .i64 0), .lit (.int .i64 0)], .lit (.int .i64 0), .lit (.int .i64 0)], [], places) :=
  ⟨[], by kernel_rfl⟩
set_option maxHeartbeats 1600000 in
set_option maxRecDepth 100000 in
theorem lifted3 (os : Os) (started : os.Started) (H : Type) (enc : TypeId × Value → H) (F : Stop.Interp) :
    ReturnsInHanded {} Tryd.checked os 3 .any ((OpenSpec.ofChange Rows.temperErrorsSpec).preRow enc Tryd.prog Tryd.f3 Rows.temperErrorsRow.domain false Rows.temperErrorsRow.laid) (((OpenSpec.ofChange Rows.temperErrorsSpec).at F).post enc Tryd.prog Tryd.f3 false true false false) := by
  obtain ⟨places, hx⟩ := reads3 os enc
  refine returnsInHanded_of_row (C := Tryd.checked) (s := OpenSpec.ofChange Rows.temperErrorsSpec) own started (by kernel_rfl) Tryd.func3
    (witness_row_at (enc := enc) (C := Tryd.checked) false (laidWorld os) #[.agg #[.slice none 0 0], .slice none 0 0, .agg #[.int .i64 0, .int .i64 0, .int .i64 0, .int .i64 0, .int .i64 0, .int .i64 0], .agg #[.int .i64 0, .int .i64 0, .int .i64 0, .int .i64 0, .int .i64 0, .int .i64 0], .int .i64 0, .int .i64 0] rfl (by kernel_rfl) (by kernel_rfl) (by kernel_rfl)
      (OpenSpec.preRow_of_cond 8 hx (by kernel_rfl) (fun k hk => by cases hk) (by kernel_rfl) (laid_met3 os))) ?_
  intro W base args ds gs before hval hW _ _ hwt hL _ _
  exact law_contract2 W5_ok kinds3 bounds3 laidOut (by kernel_rfl) rfl (fun H ds hd => by
    match ds, hd with
    | [d1, d2, d3, d4, d5, d6], _ => rfl) rfl Tryd.underlying4 hval hW (globW hL) hwt law3
theorem temperErrors_said : Rows.TemperErrorsSaid :=
  OpenClaim.holds_of_cond 3 Tryd.f3 rfl rfl rfl rfl rfl rfl rfl ⟨rfl, rfl, rfl, rfl, rfl⟩ rfl rfl rfl rfl rfl (by kernel_rfl) Tryd.func3 (by kernel_rfl)
    (of_decide_eq_true (by kernel_rfl)) (by unfold Func.isWrapper; first | (rw [if_pos (by decide +kernel)]; kernel_rfl) | (rw [if_neg (by decide +kernel)]; exact ⟨rfl, rfl⟩))
    (fun os started H enc _ F => by rw [OpenClaim.pre_eq_preRow]; exact lifted3 os started H enc F)
theorem noStand3 : (Tryd.f3.params.toList.all fun t => !Tryd.prog.wantsStandIn t) = true := by kernel_rfl
theorem plain3 (f : FuncId) (fn : Func) (hf : Tryd.pinned.checked.prog.funcNamed "schisma/schismalaw07.TemperErrors" = some f) (hfn : Tryd.pinned.checked.prog.funcs[f]? = some fn) :
    false = Tryd.pinned.checked.prog.looks [] ∧ ∀ (j : Nat) t, fn.params[j]? = some t → Tryd.pinned.checked.prog.wantsStandIn t = false := by
  obtain rfl : f = 3 := Option.some.inj ((show Tryd.prog.funcNamed "schisma/schismalaw07.TemperErrors" = some 3 by kernel_rfl).symm.trans hf) |>.symm
  obtain rfl : fn = Tryd.f3 := (Option.some.inj (Tryd.func3.symm.trans hfn)).symm
  refine ⟨by kernel_rfl, fun j t ht => ?_⟩
  have h1 := List.all_eq_true.1 noStand3 t (by simpa using Array.mem_of_getElem? ht)
  have h2 : Tryd.prog.wantsStandIn t = false := by simpa using h1
  exact h2
theorem temperErrors_card : Rows.TemperErrorsCardSaid :=
  Claim7.holds_tied_plain_at .later [] _ _ _ _ temperErrors_said (fun _ h => by cases h) (by kernel_rfl) (fun _ h => by cases h) temperErrors_row_tie rfl ⟨rfl, rfl⟩ (by kernel_rfl) rfl plain3 (by kernel_rfl)
#print axioms temperErrors_card
end Go.Proofs.YtnilimjkibimcaaDoor

