/- For all its arguments the law TopAcceptors of package schismatop returns true and leaves its arguments as they were. -/
import Derived.Test.YtgchabldcnmccaaDoorKs
import Derived.Test.YtgchabldcnmccaaDoorTt
import Derived.Test.YtgchabldcnmccaaDoorTp
import Derived.Test.YtgchabldcnmccaaDoorCards
import Derived.Test.YtgchabldcnmccaaDoorTie
import Derived.OpenShut
import Derived.Deep.DeepHandedRow
set_option linter.unusedVariables false

namespace Go.Proofs.YtgchabldcnmccaaDoor
open Go.Zz
theorem kinds3 : Tryd.f3.params.toList.mapM (paramK Tryd.prog) = some [(false, [.flat (.int .i64)]), (false, [.slice [.int .i64, .int .i64, .int .i64, .int .i64, .int .i64, .int .i64, .int .i64]]), (false, [.flat (.int .u8)]), (false, [.flat (.int .i64)])] := by kernel_rfl
theorem bounds3 : Tryd.f3.params.toList.mapM (ckB Tryd.prog 20) = some [[0], [56], [0], [0]] := by kernel_rfl
theorem law3 (avs : List AV) (h : All2 PA [(false, [.flat (.int .i64)]), (false, [.slice [.int .i64, .int .i64, .int .i64, .int .i64, .int .i64, .int .i64, .int .i64]]), (false, [.flat (.int .u8)]), (false, [.flat (.int .i64)])] avs) (hb : All2 PB [[0], [56], [0], [0]] avs) : ∃ n m', evF E32 n (.func 3 [] []) avs ⟨[], []⟩ = some (.bool true, m') := by
  obtain ⟨a1, r1, rfl, p1, h1⟩ := all2_cons h
  obtain ⟨a2, r2, rfl, p2, h2⟩ := all2_cons h1
  obtain ⟨a3, r3, rfl, p3, h3⟩ := all2_cons h2
  obtain ⟨a4, r4, rfl, p4, h4⟩ := all2_cons h3
  obtain rfl := all2_nil h4
  obtain ⟨q1, q2, q3, q4, _⟩ := hb
  obtain ⟨n, rfl, _⟩ := pa_int p1
  obtain ⟨ms, hms⟩ := pa_mvs p2
  obtain ⟨dk, rfl, hdk⟩ := pa_u8 p3
  obtain ⟨keep, rfl, _⟩ := pa_int p4
  obtain ⟨n, v, m', g, rfl⟩ := (run3 (n := n) (keep := keep) hms hdk).ex
  exact ⟨n, m', g⟩
theorem laid_met3 (os : Os) : laidMet Tryd.prog Rows.topAcceptorsRow.laid ((laidWorld os).forCall (fun _ _ => 0) ⟨#[], #[.int .i64 0, .slice none 0 0, .int .u8 0, .int .i64 0], []⟩).memory :=
  laidMet_of_run' 8 (by kernel_rfl) (by kernel_rfl)
theorem reads3 (os : Os) {H : Type} (enc : TypeId × Value → H) : ∃ places, DataW.whole enc Tryd.prog ((laidWorld os).forCall (fun _ _ => 0) ⟨#[], #[.int .i64 0, .slice none 0 0, .int .u8 0, .int .i64 0], []⟩).memory Tryd.f3.params.toList Rows.topAcceptorsSpec.vars false (#[.int .i64 0, .slice none 0 0, .int .u8 0, .int .i64 0] : Array Value).toList 8 = some ([.lit (.int .i64 0), .nil, .lit (.int .u8 0), .lit (.int .i64 0)], [], places) :=
  ⟨[], by kernel_rfl⟩
set_option maxHeartbeats 1600000 in
set_option maxRecDepth 100000 in
theorem lifted3 (os : Os) (started : os.Started) (H : Type) (enc : TypeId × Value → H) (F : Stop.Interp) :
    ReturnsInHanded {} Tryd.checked os 3 .any ((OpenSpec.ofChange Rows.topAcceptorsSpec).preRow enc Tryd.prog Tryd.f3 Rows.topAcceptorsRow.domain false Rows.topAcceptorsRow.laid) (((OpenSpec.ofChange Rows.topAcceptorsSpec).at F).post enc Tryd.prog Tryd.f3 false true false false) := by
  obtain ⟨places, hx⟩ := reads3 os enc
  refine returnsInHanded_of_row (C := Tryd.checked) (s := OpenSpec.ofChange Rows.topAcceptorsSpec) own started (by kernel_rfl) Tryd.func3
    (witness_row_at (enc := enc) (C := Tryd.checked) false (laidWorld os) #[.int .i64 0, .slice none 0 0, .int .u8 0, .int .i64 0] rfl (by kernel_rfl) (by kernel_rfl) (by kernel_rfl)
      (OpenSpec.preRow_of_cond 8 hx (by kernel_rfl) (fun k hk => by cases hk) (by kernel_rfl) (laid_met3 os))) ?_
  intro W base args ds gs before hval hW _ _ hwt hL _ _
  exact law_contract2 E32_ok kinds3 bounds3 laidOut (by kernel_rfl) rfl (fun H ds hd => by
    match ds, hd with
    | [d1, d2, d3, d4], _ => rfl) rfl Tryd.underlying4 hval hW (globW hL) hwt law3
theorem topAcceptors_said : Rows.TopAcceptorsSaid :=
  OpenClaim.holds_of_cond 3 Tryd.f3 rfl rfl rfl rfl rfl rfl rfl ⟨rfl, rfl, rfl, rfl, rfl⟩ rfl rfl rfl rfl rfl (by kernel_rfl) Tryd.func3 (by kernel_rfl)
    (of_decide_eq_true (by kernel_rfl)) (by unfold Func.isWrapper; first | (rw [if_pos (by decide +kernel)]; kernel_rfl) | (rw [if_neg (by decide +kernel)]; exact ⟨rfl, rfl⟩))
    (fun os started H enc _ F => by rw [OpenClaim.pre_eq_preRow]; exact lifted3 os started H enc F)
theorem noStand3 : (Tryd.f3.params.toList.all fun t => !Tryd.prog.wantsStandIn t) = true := by kernel_rfl
theorem plain3 (f : FuncId) (fn : Func) (hf : Tryd.pinned.checked.prog.funcNamed "schisma/schismatop.TopAcceptors" = some f) (hfn : Tryd.pinned.checked.prog.funcs[f]? = some fn) :
    false = Tryd.pinned.checked.prog.looks [] ∧ ∀ (j : Nat) t, fn.params[j]? = some t → Tryd.pinned.checked.prog.wantsStandIn t = false := by
  obtain rfl : f = 3 := Option.some.inj ((show Tryd.prog.funcNamed "schisma/schismatop.TopAcceptors" = some 3 by kernel_rfl).symm.trans hf) |>.symm
  obtain rfl : fn = Tryd.f3 := (Option.some.inj (Tryd.func3.symm.trans hfn)).symm
  refine ⟨by kernel_rfl, fun j t ht => ?_⟩
  have h1 := List.all_eq_true.1 noStand3 t (by simpa using Array.mem_of_getElem? ht)
  have h2 : Tryd.prog.wantsStandIn t = false := by simpa using h1
  exact h2
theorem topAcceptors_card : Rows.TopAcceptorsCardSaid :=
  Claim7.holds_tied_plain_at .later [] _ _ _ _ topAcceptors_said (fun _ h => by cases h) (by kernel_rfl) (fun _ h => by cases h) topAcceptors_row_tie rfl ⟨rfl, rfl⟩ (by kernel_rfl) rfl plain3 (by kernel_rfl)
#print axioms topAcceptors_card
end Go.Proofs.YtgchabldcnmccaaDoor

