import Derived.Test.YtgchabldcnmccabDoorCq

set_option linter.unusedSimpArgs false
set_option linter.unusedVariables false

namespace Go.Proofs.YtgchabldcnmccabDoor
open Go.Zz
set_option maxRecDepth 100000
set_option maxHeartbeats 8000000
theorem hh11 : zaL hCs = hR := rfl
theorem hh12 : zhD hR [7, 0, -3, 0, 0, 0] = [2, -1, 0] := zqb hh9 hh10
theorem hh13 : zdB hCs [7, 0, -3, 0, 0, 0] = 0 := by
 unfold zdB;rw [if_pos ⟨of_decide_eq_true hh1, by decide⟩, hh11, if_pos ⟨_, hh10⟩, hh12, if_pos ⟨rfl, by decide, of_decide_eq_true hh1⟩]
theorem hh14 : xCn hCs [7, 0, -3, 0, 0, 0] = .sval true 3 (zaa [2, -1, 0]) := by
 unfold xCn;rw [if_pos hh13, hh11, hh12];rfl
def hZ : AV := .sval true 3 (hCs.map Nm.cells).flatten
theorem hh15 : NmL hZ hCs := by
 have h3 : ∀ {P : Nm -> Prop}, P hCs[0] -> P hCs[1] -> P hCs[2] -> ∀ c ∈ hCs, P c := fun a b d c hc => by
  simp only [hCs, List.mem_cons, List.not_mem_nil, or_false] at hc
  rcases hc with rfl | rfl | rfl
  ·exact a
  ·exact b
  ·exact d
 refine ⟨h3 ⟨by decide, rfl⟩ ⟨by decide, rfl⟩ ⟨by decide, rfl⟩, fun c hc => ?_, .inr ⟨true, rfl⟩⟩;obtain ⟨d, hd, rfl⟩ := List.mem_map.1 hc;exact h3 (P := fun d => d.cells.length = 7) rfl rfl rfl d hd
theorem g4 : WF D14 (.func 4 [] []) [] ⟨[], []⟩ fun y m' => y = .bool true := by
 have L1 := zos (rows := hR) (by decide);have L2 := zos (rows := [[-8, 8, -2, 0, 0, 0]]) (by decide);obtain ⟨xm, hxm, c6⟩ := x55 L1 (by decide)
 have c7 := fun m => x50 (m := m) (l' := xm) (v := [7, 0, -3, 0, 0, 0]) hxm (by decide +kernel) rfl (hxm.byC _)
 have d7 := fun m => x50 (m := m) (l' := xm) (v := [-1, 1, 0, 0, 0, 0]) hxm (by decide +kernel) rfl (hxm.byC _)
 have c10 := fun m z' h => x10 (m := m) (z' := z') (v := [7, 0, -3, 0, 0, 0]) hh15 rfl h
 have c9 := fun m l' h => x76 (m := m) (l' := l') (v := [-4, 4, -1, 0, 0, 0]) L2 (by decide) rfl h
 have c13 := fun m y' h => x34 (m := m) (y' := y') (IntS.mk [2, -1, 0] true) (IntS.mk [2, -1, 0] true) (by decide) (IntS.byVal (IntS.mk [2, -1, 0] true) _) h
 rw [hh2] at c6;rw [hh3, hh5] at c7;rw [hh4, hh6] at d7;rw [hh13, hh14] at c10;rw [hh7, hh8] at c9;simp only [decide_true] at c13;have n2 := hxm.cells;unfold AV.cells at n2;refine zx0 rfl (zaz Tryd.func4 cir4) (by show 0 <= 98; decide) ?_;unfold ir4;simp only [zaw, List.replicate, zAN]
 repeat' (first |refine zE (by intro; simp (disch := omega) only [go_sem, Zz.over, za0, zaZ, Option.bind_eq_bind, Nat.reduceAdd, Nat.reduceLeDiff, Int.reduceNeg, Int.reduceAdd, Option.map_some, zCA, zNA]; rfl) ?_ |refine zy1 ?_ |refine zy2 ?_ |refine zy3 ?_ |(simp only [fl1]) |refine zx4 ?_ |refine zF rfl (by intro; simp (disch := omega) only [go_sem, Zz.look, Zz.over, Zz.cut, za0, zaZ, Option.bind_eq_bind, Nat.reduceAdd, Nat.reduceMul, Nat.reduceLeDiff, Int.reduceNeg, Int.reduceToNat, Option.map_some, zCA, zNA, Nat.add_zero]; rfl) rfl ?_ |refine WT.big rfl rfl (by intro; simp (disch := omega) only [go_sem, Zz.look, Zz.over, Zz.cut, za0, zaZ, Option.bind_eq_bind, Nat.reduceAdd, Nat.reduceMul, Nat.reduceLeDiff, Int.reduceNeg, Int.reduceToNat, Option.map_some, zCA, zNA, Nat.add_zero]; rfl) (by simp (disch := omega) only [go_sem, Nat.reduceAdd, Nat.reduceMul, Int.reduceNeg, Int.reduceToNat, Nat.add_zero, zbh]; rfl) (by first | exact .inl rfl | exact .inr (zan _) | exact .inr trivial | (right; apply zau; simp only [zaR, zNA, zCA, List.getElem?_cons_succ, List.getElem?_cons_zero, Tch.free, and_true, true_and]; first | done | omega)) (by simp only [pt8, pt0, pt2, pt3, pt7]; rfl) ?_)
 refine WT.specG [1] rfl rfl (zmT (by
  intro j hj;simp only [List.mem_cons, List.not_mem_nil, or_false] at hj;subst hj;simp only [zaR, zNA, zCA, List.getElem?_cons_succ, List.getElem?_cons_zero, Tch.free, and_true]
  first | done | decide)) (fun V hVl hVj => c6 ⟨V, _⟩ _ (zfp ((zad (hVj 1 (by simp))).trans rfl) rfl (by decide))) (by simp only [pt8, pt1]; rfl) ?_
 repeat' (first |refine zx1 rfl ?_ |refine zE (by intro; simp (disch := omega) only [go_sem, Zz.look, Zz.over, Zz.cut, za0, zaZ, Option.bind_eq_bind, Nat.reduceAdd, Nat.reduceMul, Nat.reduceLeDiff, Int.reduceNeg, Int.reduceAdd, Int.reduceToNat, Option.map_some, zCA, zNA, Nat.add_zero]; rfl) ?_ |refine zS rfl rfl (c7 _) ?_ |refine zS rfl rfl (d7 _) ?_ |refine zS rfl rfl (c10 _ _ rfl) ?_ |refine zS rfl rfl (c9 _ _ rfl) ?_ |refine zS rfl rfl (c13 _ _ rfl) ?_ |refine zy1 ?_ |refine zy2 ?_ |refine zy3 ?_ |(simp only [fl1]) |refine zx6 ?_ |refine zF rfl (by intro; simp (disch := omega) only [go_sem, Nat.reduceMul, Int.reduceNeg, Int.reduceToNat, Option.map_some, Nat.add_zero]; rfl) rfl ?_ |refine zx3 rfl rfl (by intro; simp (disch := omega) only [go_sem, Zz.look, Zz.over, Option.bind_eq_bind, Nat.reduceMul, Nat.reduceLeDiff, Int.reduceNeg, Int.reduceToNat, Option.map_some, zat, List.set_cons_zero, List.set_cons_succ, zCA, zNA, Nat.add_zero]; rfl) (by simp (disch := omega) only [go_sem, Nat.reduceMul, Int.reduceNeg, Int.reduceToNat, Nat.add_zero, zbh]; rfl) (by first | exact .inl rfl | exact .inr (zan _) | exact .inr trivial | (right; apply zau; simp only [zaR, zNA, zCA, List.getElem?_cons_succ, List.getElem?_cons_zero, Tch.free, and_true, true_and]; first | done | omega)) ?_ |refine zy7 ?_)
 exact ⟨_, rfl, rfl⟩
theorem s4 {m : Mem} : zar D14 4 [] m = some (.bool true, m) := zaB rfl (g4.mono fun y m' h => by rw [h]; rfl)
noncomputable def D15 : Env := D14.put 4 (zar D14 4)
theorem zsH : EnvOk Tryd.prog D15 := Env.put_ok zp0 (zax zp0 (zaq Tryd.func4 (by kernel_rfl)))
end Go.Proofs.YtgchabldcnmccabDoor

