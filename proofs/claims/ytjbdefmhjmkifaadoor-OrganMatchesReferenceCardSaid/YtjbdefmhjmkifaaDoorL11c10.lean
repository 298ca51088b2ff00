/- For all its arguments the law OrganMatchesReference of package schismalaw11 returns true and leaves its arguments as they were. -/
import Derived.Test.YtjbdefmhjmkifaaDoorL11xa
import Derived.Test.YtjbdefmhjmkifaaDoorL11pc
import Derived.Test.YtjbdefmhjmkifaaDoorL11t
import Derived.Test.YtjbdefmhjmkifaaDoorL11pa
import Derived.Test.YtjbdefmhjmkifaaDoorCards
import Derived.Test.YtjbdefmhjmkifaaDoorTie
import Derived.OpenShut
import Derived.Deep.DeepHandedRow

set_option linter.unusedVariables false
namespace Go.Proofs.YtjbdefmhjmkifaaDoor
open Go.Zz

theorem kinds10 : Tryd.f10.params.toList.mapM (paramK Tryd.prog) = some [(true, [.slice [.int .i64, .int .i64, .int .i64, .int .i64, .int .i64, .int .i64, .int .i64, .int .i64, .int .i64, .int .i64], .flat (.int .i64), .flat (.int .i64)]), (false, [.slice [.int .i64]]), (false, [.flat (.int .i64)]), (false, [.flat (.int .i64)]), (false, [.flat (.int .i64)]), (false, [.slice [.int .i64, .int .i64, .int .i64, .int .i64, .int .i64, .int .i64]])] := by kernel_rfl
theorem bounds10 : Tryd.f10.params.toList.mapM (ckB Tryd.prog 20) = some [[80, 0, 0], [8], [0], [0], [0], [48]] := by kernel_rfl

theorem law10 (avs : List AV) (h : All2 PA [(true, [.slice [.int .i64, .int .i64, .int .i64, .int .i64, .int .i64, .int .i64, .int .i64, .int .i64, .int .i64, .int .i64], .flat (.int .i64), .flat (.int .i64)]), (false, [.slice [.int .i64]]), (false, [.flat (.int .i64)]), (false, [.flat (.int .i64)]), (false, [.flat (.int .i64)]), (false, [.slice [.int .i64, .int .i64, .int .i64, .int .i64, .int .i64, .int .i64]])] avs) (hb : All2 PB [[80, 0, 0], [8], [0], [0], [0], [48]] avs) : ∃ n m', evF D16 n (.func 10 [] []) avs ⟨[], []⟩ = some (.bool true, m') := by
  obtain ⟨a1, r1, rfl, p1, h1⟩ := all2_cons h
  obtain ⟨a2, r2, rfl, p2, h2⟩ := all2_cons h1
  obtain ⟨a3, r3, rfl, p3, h3⟩ := all2_cons h2
  obtain ⟨a4, r4, rfl, p4, h4⟩ := all2_cons h3
  obtain ⟨a5, r5, rfl, p5, h5⟩ := all2_cons h4
  obtain ⟨a6, r6, rfl, p6, h6⟩ := all2_cons h5
  obtain rfl := all2_nil h6
  obtain ⟨q1, q2, q3, q4, q5, q6, _⟩ := hb
  obtain ⟨pv, ps, sup, tol, rfl, hq, hm⟩ := pa_org p1 q1
  obtain ⟨ids, hid, _, _⟩ := pa_ints p2
  have him := pb_ints hid q2
  obtain ⟨id, rfl, _⟩ := pa_int p3
  obtain ⟨w, rfl, _⟩ := pa_int p4
  obtain ⟨hot, rfl, _⟩ := pa_int p5
  obtain ⟨vs, hvv, hvm⟩ := pa_vecs p6 q6
  obtain ⟨n, v, m', g, rfl⟩ := (run10 (sup := sup) (tol := tol) (id := id) (w := w) (hot := hot) hq (by omega) hvv (by omega) hid (by omega)).ex
  exact ⟨n, m', g⟩

theorem laid_met10 (os : Os) : laidMet Tryd.prog Rows.organMatchesReferenceRow.laid ((laidWorld os).forCall (fun _ _ => 0) ⟨#[], #[.agg #[.slice none 0 0, .int .i64 0, .int .i64 0], .slice none 0 0, .int .i64 0, .int .i64 0, .int .i64 0, .slice none 0 0], []⟩).memory :=
  laidMet_of_run' 8 (by kernel_rfl) (by kernel_rfl)
theorem reads10 (os : Os) {H : Type} (enc : TypeId × Value → H) : ∃ places, DataW.whole enc Tryd.prog ((laidWorld os).forCall (fun _ _ => 0) ⟨#[], #[.agg #[.slice none 0 0, .int .i64 0, .int .i64 0], .slice none 0 0, .int .i64 0, .int .i64 0, .int .i64 0, .slice none 0 0], []⟩).memory Tryd.f10.params.toList Rows.organMatchesReferenceSpec.vars false (#[.agg #[.slice none 0 0, .int .i64 0, .int .i64 0], .slice none 0 0, .int .i64 0, .int .i64 0, .int .i64 0, .slice none 0 0] : Array Value).toList 8 = some ([.agg [.nil, .lit (.int .i64 0), .lit (.int .i64 0)], .nil, .lit (.int .i64 0), .lit (.int .i64 0), .lit (.int .i64 0), .nil], [], places) :=
  ⟨[], by kernel_rfl⟩

set_option maxHeartbeats 1600000 in
set_option maxRecDepth 100000 in
theorem lifted10 (os : Os) (started : os.Started) (H : Type) (enc : TypeId × Value → H) (F : Stop.Interp) :
    ReturnsInHanded {} Tryd.checked os 10 .any ((OpenSpec.ofChange Rows.organMatchesReferenceSpec).preRow enc Tryd.prog Tryd.f10 Rows.organMatchesReferenceRow.domain false Rows.organMatchesReferenceRow.laid) (((OpenSpec.ofChange Rows.organMatchesReferenceSpec).at F).post enc Tryd.prog Tryd.f10 false true false false) := by
  obtain ⟨places, hx⟩ := reads10 os enc
  refine returnsInHanded_of_row (C := Tryd.checked) (s := OpenSpec.ofChange Rows.organMatchesReferenceSpec) own started (by kernel_rfl) Tryd.func10
    (witness_row_at (enc := enc) (C := Tryd.checked) false (laidWorld os) #[.agg #[.slice none 0 0, .int .i64 0, .int .i64 0], .slice none 0 0, .int .i64 0, .int .i64 0, .int .i64 0, .slice none 0 0] rfl (by kernel_rfl) (by kernel_rfl) (by kernel_rfl)
      (OpenSpec.preRow_of_cond 8 hx (by kernel_rfl) (fun k hk => by cases hk) (by kernel_rfl) (laid_met10 os))) ?_
  intro W base args ds gs before hval hW _ _ hwt hL _ _
  exact law_contract2 D16_ok kinds10 bounds10 laidOut (by kernel_rfl) rfl (fun H ds hd => by
    match ds, hd with
    | [d1, d2, d3, d4, d5, d6], _ => rfl) rfl Tryd.underlying4 hval hW (globW hL) hwt law10

theorem organMatchesReference_said : Rows.OrganMatchesReferenceSaid :=
  OpenClaim.holds_of_cond 10 Tryd.f10 rfl rfl rfl rfl rfl rfl rfl ⟨rfl, rfl, rfl, rfl, rfl⟩ rfl rfl rfl rfl rfl (by kernel_rfl) Tryd.func10 (by kernel_rfl)
    (of_decide_eq_true (by kernel_rfl)) (by unfold Func.isWrapper; first | (rw [if_pos (by decide +kernel)]; kernel_rfl) | (rw [if_neg (by decide +kernel)]; exact ⟨rfl, rfl⟩))
    (fun os started H enc _ F => by rw [OpenClaim.pre_eq_preRow]; exact lifted10 os started H enc F)

theorem noStand10 : (Tryd.f10.params.toList.all fun t => !Tryd.prog.wantsStandIn t) = true := by kernel_rfl
theorem plain10 (f : FuncId) (fn : Func) (hf : Tryd.pinned.checked.prog.funcNamed "schisma/schismalaw11.OrganMatchesReference" = some f) (hfn : Tryd.pinned.checked.prog.funcs[f]? = some fn) :
    false = Tryd.pinned.checked.prog.looks [] ∧ ∀ (j : Nat) t, fn.params[j]? = some t → Tryd.pinned.checked.prog.wantsStandIn t = false := by
  obtain rfl : f = 10 := Option.some.inj ((show Tryd.prog.funcNamed "schisma/schismalaw11.OrganMatchesReference" = some 10 by kernel_rfl).symm.trans hf) |>.symm
  obtain rfl : fn = Tryd.f10 := (Option.some.inj (Tryd.func10.symm.trans hfn)).symm
  refine ⟨by kernel_rfl, fun j t ht => ?_⟩
  have h1 := List.all_eq_true.1 noStand10 t (by simpa using Array.mem_of_getElem? ht)
  have h2 : Tryd.prog.wantsStandIn t = false := by simpa using h1
  exact h2

theorem organMatchesReference_card : Rows.OrganMatchesReferenceCardSaid :=
  Claim7.holds_tied_plain_at .later [] _ _ _ _ organMatchesReference_said (fun _ h => by cases h) (by kernel_rfl) (fun _ h => by cases h) organMatchesReference_row_tie rfl ⟨rfl, rfl⟩ (by kernel_rfl) rfl plain10 (by kernel_rfl)

#print axioms organMatchesReference_card
end Go.Proofs.YtjbdefmhjmkifaaDoor

