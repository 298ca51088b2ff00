/- TopAccounted (top, the theorem of the accounted commas): for all its arguments the law returns true and leaves its arguments as they were. -/
import Derived.Test.YtgchabldcnmccabDoorCs
import Derived.Test.YtgchabldcnmccabDoorNoG
import Derived.Test.YtgchabldcnmccabDoorCv
import Derived.Test.YtgchabldcnmccabDoorCards
import Derived.Test.YtgchabldcnmccabDoorTie
import Derived.OpenShut
import Derived.Lib.LaidTab
import Derived.Deep.DeepHandedRow

set_option linter.unusedVariables false

namespace Go.Proofs.YtgchabldcnmccabDoor
open Go.Zz Go.ChangeShapes
theorem own : ownKnob Tryd.prog.godebug = none := by kernel_rfl
theorem laidOut : laidOutB Tryd.prog = true := by kernel_rfl
def firstCells : Array Value := (Go.Pinned.utf8FirstZ.map fun (n : Nat) => Value.int .u8 n).toArray
def zoQ : Array Value := ([128, 191, 160, 191, 128, 159, 144, 191, 128, 143, 0, 0, 0, 0, 0, 0, 0, 0, 0, 0, 0, 0, 0, 0, 0, 0, 0, 0, 0, 0, 0, 0].map fun (n : Nat) => Value.int .u8 n).toArray
noncomputable def lw0 (os : Os) : World :=
 { World.holding Tryd.prog os ⟨#[], #[], []⟩ with heap := (World.holding Tryd.prog os ⟨#[], #[], []⟩).heap.modify 0 fun
   | .cells _ t frozen => .cells firstCells t frozen
   | o => o }
noncomputable def zgX (os : Os) : World :=
 { lw0 os with heap := (lw0 os).heap.modify 1 fun
   | .cells _ t frozen => .cells zoQ t frozen
   | o => o }
theorem ztC : Tryd.f3.params.toList.mapM (zjv Tryd.prog) = some [(false, [.slice [.str, .int .i64, .int .i64, .int .i64, .int .i64, .int .i64, .int .i64]]), (true, [.flat (.int .i64), .flat (.int .i64), .flat (.int .i64), .flat (.int .i64), .flat (.int .i64), .flat (.int .i64)]), (false, [.slice [.int .i64, .int .i64, .int .i64, .int .i64, .int .i64, .int .i64]]), (false, [.slice [.int .i64]])] := by kernel_rfl
theorem zq7 : Tryd.f3.params.toList.mapM (ckB Tryd.prog 20) = some [[64], [0, 0, 0, 0, 0, 0], [48], [8]] := by kernel_rfl
theorem law3 (avs : List AV) (h : All2 PA [(false, [.slice [.str, .int .i64, .int .i64, .int .i64, .int .i64, .int .i64, .int .i64]]), (true, [.flat (.int .i64), .flat (.int .i64), .flat (.int .i64), .flat (.int .i64), .flat (.int .i64), .flat (.int .i64)]), (false, [.slice [.int .i64, .int .i64, .int .i64, .int .i64, .int .i64, .int .i64]]), (false, [.slice [.int .i64]])] avs) (hb : All2 PB [[64], [0, 0, 0, 0, 0, 0], [48], [8]] avs) : ∃ n m', evF D15 n (.func 3 [] []) avs ⟨[], []⟩ = some (.bool true, m') := by
 obtain ⟨a1, r1, rfl, p1, h1⟩ := zaO h;obtain ⟨a2, r2, rfl, p2, h2⟩ := zaO h1;obtain ⟨a3, r3, rfl, p3, h3⟩ := zaO h2;obtain ⟨a4, r4, rfl, p4, h4⟩ := zaO h3;obtain rfl := ze4 h4;obtain ⟨q1, q2, q3, q4, _⟩ := hb;obtain ⟨cs, hcs⟩ := ztf p1;obtain ⟨v, rfl, v6⟩ := ztT p2;obtain ⟨gs, gs1, gs2⟩ := ztP p3;have gsw := pb_sl gs1 q3
 have gs3 : gs.length * 48 <= 140737488351232 := by simpa [reachBytes] using gsw
 obtain ⟨ys, ys1, ys2, _⟩ := zqZ p4;obtain ⟨n, v, m', g, rfl⟩ := (g3 hcs v6 gs1 (by omega) ys1 ys2).ex;exact ⟨n, m', g⟩
theorem znd (os : Os) : laidMet Tryd.prog Rows.topAccountedRow.laid ((zgX os).forCall (fun _ _ => 0) ⟨#[], #[.slice none 0 0, .agg #[.int .i64 0, .int .i64 0, .int .i64 0, .int .i64 0, .int .i64 0, .int .i64 0], .slice none 0 0, .slice none 0 0], []⟩).memory :=
 laidMet_of_run' 8 (by kernel_rfl) (by kernel_rfl)
theorem zs3 (os : Os) {H : Type} (enc : TypeId × Value -> H) : ∃ places, DataW.whole enc Tryd.prog ((zgX os).forCall (fun _ _ => 0) ⟨#[], #[.slice none 0 0, .agg #[.int .i64 0, .int .i64 0, .int .i64 0, .int .i64 0, .int .i64 0, .int .i64 0], .slice none 0 0, .slice none 0 0], []⟩).memory Tryd.f3.params.toList Rows.topAccountedSpec.vars false (#[.slice none 0 0, .agg #[.int .i64 0, .int .i64 0, .int .i64 0, .int .i64 0, .int .i64 0, .int .i64 0], .slice none 0 0, .slice none 0 0] : Array Value).toList 8 = some ([.nil, .agg [.lit (.int .i64 0), .lit (.int .i64 0), .lit (.int .i64 0), .lit (.int .i64 0), .lit (.int .i64 0), .lit (.int .i64 0)], .nil, .nil], [], places) :=
 ⟨[], by kernel_rfl⟩
set_option maxHeartbeats 1600000 in
set_option maxRecDepth 100000 in
theorem zrV (os : Os) (started : os.Started) (H : Type) (enc : TypeId × Value -> H) (F : Stop.Interp) :
  ReturnsInHanded {} Tryd.checked os 3 .any ((OpenSpec.ofChange Rows.topAccountedSpec).preRow enc Tryd.prog Tryd.f3 Rows.topAccountedRow.domain false Rows.topAccountedRow.laid) (((OpenSpec.ofChange Rows.topAccountedSpec).at F).post enc Tryd.prog Tryd.f3 false true false false) := by
 obtain ⟨places, hx⟩ := zs3 os enc
 refine returnsInHanded_of_row (C := Tryd.checked) (s := OpenSpec.ofChange Rows.topAccountedSpec) own started (by kernel_rfl) Tryd.func3
  (witness_row_at (enc := enc) (C := Tryd.checked) false (zgX os) #[.slice none 0 0, .agg #[.int .i64 0, .int .i64 0, .int .i64 0, .int .i64 0, .int .i64 0, .int .i64 0], .slice none 0 0, .slice none 0 0] rfl (by kernel_rfl) (by kernel_rfl) (by kernel_rfl)
   (OpenSpec.preRow_of_cond 8 hx (by kernel_rfl) (fun k hk => by cases hk) (by kernel_rfl) (znd os))) ?_
 intro W base args ds gs before hval hW _ _ hwt hL _ _
 exact zic zsH ztC zq7 laidOut (by kernel_rfl) rfl (fun H ds hd => by
  match ds, hd with
  | [d1, d2, d3, d4], _ => rfl) rfl Tryd.underlying4 hval hW (zrM _) hwt law3
theorem topAccounted_said : Rows.TopAccountedSaid :=
 OpenClaim.holds_of_cond 3 Tryd.f3 rfl rfl rfl rfl rfl rfl rfl ⟨rfl, rfl, rfl, rfl, rfl⟩ rfl rfl rfl rfl rfl (by kernel_rfl) Tryd.func3 (by kernel_rfl)
  (of_decide_eq_true (by kernel_rfl)) (by unfold Func.isWrapper; first | (rw [if_pos (by decide +kernel)]; kernel_rfl) | (rw [if_neg (by decide +kernel)]; exact ⟨rfl, rfl⟩))
  (fun os started H enc _ F => by rw [OpenClaim.pre_eq_preRow]; exact zrV os started H enc F)
theorem zpa : (Tryd.f3.params.toList.all fun t => !Tryd.prog.wantsStandIn t) = true := by kernel_rfl
theorem ztk (f : FuncId) (fn : Func) (hf : Tryd.pinned.checked.prog.funcNamed "schisma/schismatop.TopAccounted" = some f) (hfn : Tryd.pinned.checked.prog.funcs[f]? = some fn) :
  false = Tryd.pinned.checked.prog.looks [] /\ ∀ (j : Nat) t, fn.params[j]? = some t -> Tryd.pinned.checked.prog.wantsStandIn t = false := by
 obtain rfl : f = 3 := Option.some.inj ((show Tryd.prog.funcNamed "schisma/schismatop.TopAccounted" = some 3 by kernel_rfl).symm.trans hf) |>.symm
 obtain rfl : fn = Tryd.f3 := (Option.some.inj (Tryd.func3.symm.trans hfn)).symm;refine ⟨by kernel_rfl, fun j t ht => ?_⟩;have h1 := List.all_eq_true.1 zpa t (by simpa using Array.mem_of_getElem? ht)
 have h2 : Tryd.prog.wantsStandIn t = false := by simpa using h1
 exact h2
theorem topAccounted_card : Rows.TopAccountedCardSaid :=
 Claim7.holds_tied_plain_at .later [] _ _ _ _ topAccounted_said (fun _ h => by cases h) (by kernel_rfl) (fun _ h => by cases h) topAccounted_row_tie rfl ⟨rfl, rfl⟩ (by kernel_rfl) rfl ztk (by kernel_rfl)
#print axioms topAccounted_card
end Go.Proofs.YtgchabldcnmccabDoor

