/- For all its arguments the law OrganSupply of package schismalaw11 returns true and leaves its arguments as they were. -/
import Derived.Test.YtjbdefmhjmkifaaDoorL11x7
import Derived.Test.YtjbdefmhjmkifaaDoorL11t
import Derived.Test.YtjbdefmhjmkifaaDoorL11pa
import Derived.Test.YtjbdefmhjmkifaaDoorCards
import Derived.Test.YtjbdefmhjmkifaaDoorTie
import Derived.OpenShut
import Derived.Deep.DeepHandedRow

set_option linter.unusedVariables false
namespace Go.Proofs.YtjbdefmhjmkifaaDoor
open Go.Zz

theorem kinds7 : Tryd.f7.params.toList.mapM (paramK Tryd.prog) = some [(true, [.slice [.int .i64, .int .i64, .int .i64, .int .i64, .int .i64, .int .i64, .int .i64, .int .i64, .int .i64, .int .i64], .flat (.int .i64), .flat (.int .i64)]), (false, [.flat (.int .u16)]), (false, [.flat (.int .i64)]), (false, [.flat (.int .u16)])] := by kernel_rfl
theorem bounds7 : Tryd.f7.params.toList.mapM (ckB Tryd.prog 20) = some [[80, 0, 0], [0], [0], [0]] := by kernel_rfl

theorem law7 (avs : List AV) (h : All2 PA [(true, [.slice [.int .i64, .int .i64, .int .i64, .int .i64, .int .i64, .int .i64, .int .i64, .int .i64, .int .i64, .int .i64], .flat (.int .i64), .flat (.int .i64)]), (false, [.flat (.int .u16)]), (false, [.flat (.int .i64)]), (false, [.flat (.int .u16)])] avs) (hb : All2 PB [[80, 0, 0], [0], [0], [0]] avs) : ∃ n m', evF E40 n (.func 7 [] []) avs ⟨[], []⟩ = some (.bool true, m') := by
  obtain ⟨a1, r1, rfl, p1, h1⟩ := all2_cons h
  obtain ⟨a2, r2, rfl, p2, h2⟩ := all2_cons h1
  obtain ⟨a3, r3, rfl, p3, h3⟩ := all2_cons h2
  obtain ⟨a4, r4, rfl, p4, h4⟩ := all2_cons h3
  obtain rfl := all2_nil h4
  obtain ⟨q1, q2, q3, q4, _⟩ := hb
  obtain ⟨pv, ps, sup, tol, rfl, hq, hm⟩ := pa_org p1 q1
  obtain ⟨k, rfl, k1⟩ := pa_u16 p2
  obtain ⟨w, rfl, _⟩ := pa_int p3
  obtain ⟨y, rfl, y1⟩ := pa_u16 p4
  obtain ⟨n, v, m', g, rfl⟩ := (run7 (sup := sup) (tol := tol) (w := w) (k := k) hq (by omega) y1).ex
  exact ⟨n, m', g⟩

theorem laid_met7 (os : Os) : laidMet Tryd.prog Rows.organSupplyRow.laid ((laidWorld os).forCall (fun _ _ => 0) ⟨#[], #[.agg #[.slice none 0 0, .int .i64 0, .int .i64 0], .int .u16 0, .int .i64 0, .int .u16 0], []⟩).memory :=
  laidMet_of_run' 8 (by kernel_rfl) (by kernel_rfl)
theorem reads7 (os : Os) {H : Type} (enc : TypeId × Value → H) : ∃ places, DataW.whole enc Tryd.prog ((laidWorld os).forCall (fun _ _ => 0) ⟨#[], #[.agg #[.slice none 0 0, .int .i64 0, .int .i64 0], .int .u16 0, .int .i64 0, .int .u16 0], []⟩).memory Tryd.f7.params.toList Rows.organSupplySpec.vars false (#[.agg #[.slice none 0 0, .int .i64 0, .int .i64 0], .int .u16 0, .int .i64 0, .int .u16 0] : Array Value).toList 8 = some ([.agg [.nil, .lit (.int .i64 0), .lit (.int .i64 0)], .lit (.int .u16 0), .lit (.int .i64 0), .lit (.int .u16 0)], [], places) :=
  ⟨[], by kernel_rfl⟩

set_option maxHeartbeats 1600000 in
set_option maxRecDepth 100000 in
theorem lifted7 (os : Os) (started : os.Started) (H : Type) (enc : TypeId × Value → H) (F : Stop.Interp) :
    ReturnsInHanded {} Tryd.checked os 7 .any ((OpenSpec.ofChange Rows.organSupplySpec).preRow enc Tryd.prog Tryd.f7 Rows.organSupplyRow.domain false Rows.organSupplyRow.laid) (((OpenSpec.ofChange Rows.organSupplySpec).at F).post enc Tryd.prog Tryd.f7 false true false false) := by
  obtain ⟨places, hx⟩ := reads7 os enc
  refine returnsInHanded_of_row (C := Tryd.checked) (s := OpenSpec.ofChange Rows.organSupplySpec) own started (by kernel_rfl) Tryd.func7
    (witness_row_at (enc := enc) (C := Tryd.checked) false (laidWorld os) #[.agg #[.slice none 0 0, .int .i64 0, .int .i64 0], .int .u16 0, .int .i64 0, .int .u16 0] rfl (by kernel_rfl) (by kernel_rfl) (by kernel_rfl)
      (OpenSpec.preRow_of_cond 8 hx (by kernel_rfl) (fun k hk => by cases hk) (by kernel_rfl) (laid_met7 os))) ?_
  intro W base args ds gs before hval hW _ _ hwt hL _ _
  exact law_contract2 E40_ok kinds7 bounds7 laidOut (by kernel_rfl) rfl (fun H ds hd => by
    match ds, hd with
    | [d1, d2, d3, d4], _ => rfl) rfl Tryd.underlying4 hval hW (globW hL) hwt law7

theorem organSupply_said : Rows.OrganSupplySaid :=
  OpenClaim.holds_of_cond 7 Tryd.f7 rfl rfl rfl rfl rfl rfl rfl ⟨rfl, rfl, rfl, rfl, rfl⟩ rfl rfl rfl rfl rfl (by kernel_rfl) Tryd.func7 (by kernel_rfl)
    (of_decide_eq_true (by kernel_rfl)) (by unfold Func.isWrapper; first | (rw [if_pos (by decide +kernel)]; kernel_rfl) | (rw [if_neg (by decide +kernel)]; exact ⟨rfl, rfl⟩))
    (fun os started H enc _ F => by rw [OpenClaim.pre_eq_preRow]; exact lifted7 os started H enc F)

theorem noStand7 : (Tryd.f7.params.toList.all fun t => !Tryd.prog.wantsStandIn t) = true := by kernel_rfl
theorem plain7 (f : FuncId) (fn : Func) (hf : Tryd.pinned.checked.prog.funcNamed "schisma/schismalaw11.OrganSupply" = some f) (hfn : Tryd.pinned.checked.prog.funcs[f]? = some fn) :
    false = Tryd.pinned.checked.prog.looks [] ∧ ∀ (j : Nat) t, fn.params[j]? = some t → Tryd.pinned.checked.prog.wantsStandIn t = false := by
  obtain rfl : f = 7 := Option.some.inj ((show Tryd.prog.funcNamed "schisma/schismalaw11.OrganSupply" = some 7 by kernel_rfl).symm.trans hf) |>.symm
  obtain rfl : fn = Tryd.f7 := (Option.some.inj (Tryd.func7.symm.trans hfn)).symm
  refine ⟨by kernel_rfl, fun j t ht => ?_⟩
  have h1 := List.all_eq_true.1 noStand7 t (by simpa using Array.mem_of_getElem? ht)
  have h2 : Tryd.prog.wantsStandIn t = false := by simpa using h1
  exact h2

theorem organSupply_card : Rows.OrganSupplyCardSaid :=
  Claim7.holds_tied_plain_at .later [] _ _ _ _ organSupply_said (fun _ h => by cases h) (by kernel_rfl) (fun _ h => by cases h) organSupply_row_tie rfl ⟨rfl, rfl⟩ (by kernel_rfl) rfl plain7 (by kernel_rfl)

#print axioms organSupply_card
end Go.Proofs.YtjbdefmhjmkifaaDoor

