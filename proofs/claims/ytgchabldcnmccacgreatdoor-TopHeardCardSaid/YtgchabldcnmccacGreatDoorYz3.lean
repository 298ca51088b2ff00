/- TopHeard (top, the theorem of the votes that are heard): for all its arguments the law returns true and leaves its arguments as they were. -/
import Derived.Test.YtgchabldcnmccacGreatDoorWl
import Derived.Test.YtgchabldcnmccacGreatDoorYT
import Derived.Test.YtgchabldcnmccacGreatDoorCards
import Derived.Test.YtgchabldcnmccacGreatDoorTie
import Derived.OpenShut
import Derived.Deep.DeepHandedRow
import Derived.LaidHandle

set_option linter.unusedVariables false

namespace Go.Proofs.YtgchabldcnmccacGreatDoor
open Go.Zz
theorem kinds3 : Tryz.f3.params.toList.mapM (paramK Tryz.prog) = some [(false, [.flat (.int .i64)]), (false, [.slice [.int .i64, .int .i64, .int .i64, .int .i64, .int .i64, .int .i64, .int .i64]]), (false, [.slice [.int .i64]])] := by kernel_rfl
theorem bounds3 : Tryz.f3.params.toList.mapM (ckB Tryz.prog 20) = some [[0], [56], [8]] := by kernel_rfl
theorem law3 (avs : List AV) (h : All2 PA [(false, [.flat (.int .i64)]), (false, [.slice [.int .i64, .int .i64, .int .i64, .int .i64, .int .i64, .int .i64, .int .i64]]), (false, [.slice [.int .i64]])] avs) (hb : All2 PB [[0], [56], [8]] avs) : ∃ n m', evF W0 n (.func 3 [] []) avs ⟨[], []⟩ = some (.bool true, m') := by
 obtain ⟨a1, r1, rfl, p1, h1⟩ := all2_cons h
 obtain ⟨a2, r2, rfl, p2, h2⟩ := all2_cons h1
 obtain ⟨a3, r3, rfl, p3, h3⟩ := all2_cons h2
 obtain rfl := all2_nil h3
 obtain ⟨q1, q2, q3, _⟩ := hb
 obtain ⟨n, rfl, _⟩ := pa_int p1
 obtain ⟨ms, hms⟩ := pa_mvs p2
 obtain ⟨ys, ys1, ys2, ys3⟩ := pa_ints p3
 obtain ⟨n, v, m', g, rfl⟩ := (run3 (n := n) hms ys1 ys3).ex
 exact ⟨n, m', g⟩
theorem laid_met3 (os : Os) : laidMetH Tryz.prog Rows.topHeardRow.laid ((laidWorld os).forCall (fun _ _ => 0) ⟨#[], #[.int .i64 0, .slice none 0 0, .slice none 0 0], []⟩).memory :=
 laidMetH_of_parts (laidMet_of_run' 8 (by kernel_rfl) (by kernel_rfl)) (by kernel_rfl)
theorem reads3 (os : Os) {H : Type} (enc : TypeId × Value → H) : ∃ places, DataW.whole enc Tryz.prog ((laidWorld os).forCall (fun _ _ => 0) ⟨#[], #[.int .i64 0, .slice none 0 0, .slice none 0 0], []⟩).memory Tryz.f3.params.toList Rows.topHeardSpec.vars false (#[.int .i64 0, .slice none 0 0, .slice none 0 0] : Array Value).toList 8 = some ([.lit (.int .i64 0), .nil, .nil], [], places) :=
 ⟨[], by kernel_rfl⟩
set_option maxHeartbeats 1600000 in
set_option maxRecDepth 100000 in
theorem lifted3 (os : Os) (started : os.Started) (H : Type) (enc : TypeId × Value → H) (F : Stop.Interp) :
  ReturnsInHanded {} Tryz.checked os 3 .any ((OpenSpec.ofChange Rows.topHeardSpec).preRow enc Tryz.prog Tryz.f3 Rows.topHeardRow.domain false Rows.topHeardRow.laid) (((OpenSpec.ofChange Rows.topHeardSpec).at F).post enc Tryz.prog Tryz.f3 false true false false) := by
 obtain ⟨places, hx⟩ := reads3 os enc
 refine returnsInHanded_of_row (C := Tryz.checked) (s := OpenSpec.ofChange Rows.topHeardSpec) own started (by kernel_rfl) Tryz.func3
  (witness_row_at (enc := enc) (C := Tryz.checked) false (laidWorld os) #[.int .i64 0, .slice none 0 0, .slice none 0 0] rfl (by kernel_rfl) (by kernel_rfl) (by kernel_rfl)
   (OpenSpec.preRow_of_cond 8 hx (by kernel_rfl) (fun k hk => by cases hk) (by kernel_rfl) (laid_met3 os))) ?_
 intro W base args ds gs before hval hW _ _ hwt hL _ _
 exact law_contract2 W0_ok kinds3 bounds3 laidOut (by kernel_rfl) rfl (fun H ds hd => by
  match ds, hd with
  | [d1, d2, d3], _ => rfl) rfl Tryz.underlying4 hval hW (globW hL) hwt law3
theorem topHeard_said : Rows.TopHeardSaid :=
 OpenClaim.holds_of_cond 3 Tryz.f3 rfl rfl rfl rfl rfl rfl rfl ⟨rfl, rfl, rfl, rfl, rfl⟩ rfl rfl rfl rfl rfl (by kernel_rfl) Tryz.func3 (by kernel_rfl)
  (of_decide_eq_true (by kernel_rfl)) (by unfold Func.isWrapper; first | (rw [if_pos (by decide +kernel)]; kernel_rfl) | (rw [if_neg (by decide +kernel)]; exact ⟨rfl, rfl⟩))
  (fun os started H enc _ F => by rw [OpenClaim.pre_eq_preRow]; exact lifted3 os started H enc F)
theorem noStand3 : (Tryz.f3.params.toList.all fun t => !Tryz.prog.wantsStandIn t) = true := by kernel_rfl
theorem plain3 (f : FuncId) (fn : Func) (hf : Tryz.pinned.checked.prog.funcNamed "schisma/schismatop.TopHeard" = some f) (hfn : Tryz.pinned.checked.prog.funcs[f]? = some fn) :
  true = Tryz.pinned.checked.prog.looks [] ∧ ∀ (j : Nat) t, fn.params[j]? = some t → Tryz.pinned.checked.prog.wantsStandIn t = false := by
 obtain rfl : f = 3 := Option.some.inj ((show Tryz.prog.funcNamed "schisma/schismatop.TopHeard" = some 3 by kernel_rfl).symm.trans hf) |>.symm
 obtain rfl : fn = Tryz.f3 := (Option.some.inj (Tryz.func3.symm.trans hfn)).symm
 refine ⟨by kernel_rfl, fun j t ht => ?_⟩
 have h1 := List.all_eq_true.1 noStand3 t (by simpa using Array.mem_of_getElem? ht)
 have h2 : Tryz.prog.wantsStandIn t = false := by simpa using h1
 exact h2
theorem topHeard_card : Rows.TopHeardCardSaid :=
 Claim7.holds_tied_plain_at .later [] _ _ _ _ topHeard_said (fun _ h => by cases h) (by kernel_rfl) (fun _ h => by cases h) topHeard_row_tie rfl ⟨rfl, rfl⟩ (by kernel_rfl) rfl plain3 (by kernel_rfl)
#print axioms topHeard_card
end Go.Proofs.YtgchabldcnmccacGreatDoor

