import Derived.Test.YtndaljjljmmlcaaAbsH
import Derived.Test.YtndaljjljmmlcaaL16A
import Derived.Test.YtndaljjljmmlcaaBf
set_option linter.unusedSimpArgs false
set_option linter.unusedVariables false
namespace Go.Proofs.Ytndaljjljmmlcaa
open Go.Zz



def cellsB (f : Nat → Bool) : List AV := (List.range 40).map fun i => .bool (f i)
def cellsI (f : Nat → Int) : List AV := (List.range 40).map fun i => .int .i64 (f i)
/-- A table's cells. -/
def tab (x : Bf.S) : List AV := cellsB x.known ++ (cellsI x.far ++ cellsI x.by_)

theorem tab_k {x : Bf.S} {i : Nat} (h : i < 40) : (tab x)[i]? = some (.bool (decide (x.known i = true))) := by
  unfold tab cellsB
  rw [List.getElem?_append_left (by simpa using h)]
  simp [h]
theorem tab_f {x : Bf.S} {i : Nat} (h : i < 40) : (tab x)[40 + i]? = some (.int .i64 (x.far i)) := by
  unfold tab cellsB cellsI
  rw [List.getElem?_append_right (by simp), List.getElem?_append_left (by simpa using h)]
  simp [h]
theorem tab_b {x : Bf.S} {i : Nat} (h : i < 40) : (tab x)[80 + i]? = some (.int .i64 (x.by_ i)) := by
  unfold tab cellsB cellsI
  rw [List.getElem?_append_right (by simp; omega), List.getElem?_append_right (by simp; omega)]
  simp [h, show 80 + i - 40 - 40 = i by omega]
theorem tab_len {x : Bf.S} : (tab x).length = 120 := by simp [tab, cellsB, cellsI]
theorem set_map {α : Type} {f : Nat → α} {g : α → AV} {i n : Nat} {v : α} : ((List.range n).map fun j => g (f j)).set i (g v) = (List.range n).map fun j => g (Bf.upd f i v j) := by
  apply List.ext_getElem?
  intro j
  by_cases hj : i = j
  · subst hj
    by_cases hi : i < n
    · simp [List.getElem?_set, hi, Bf.upd]
    · simp [List.getElem?_set, hi]
  · rw [List.getElem?_set_ne hj]
    by_cases hi : j < n
    · simp [hi, Bf.upd, Ne.symm hj]
    · simp [hi]
theorem over_k {x : Bf.S} {i : Nat} {v : Bool} (h : i < 40) : Zz.over (tab x) i [.bool v] = some (tab ⟨Bf.upd x.known i v, x.far, x.by_⟩) := by
  rw [over_one (by rw [tab_len]; omega)]
  unfold tab
  rw [List.set_append_left _ _ (by simpa [cellsB] using h)]
  unfold cellsB
  rw [set_map]
theorem over_f {x : Bf.S} {i : Nat} {v : Int} (h : i < 40) : Zz.over (tab x) (40 + i) [.int .i64 v] = some (tab ⟨x.known, Bf.upd x.far i v, x.by_⟩) := by
  rw [over_one (by rw [tab_len]; omega)]
  unfold tab
  rw [List.set_append_right _ _ (by simp [cellsB]), List.set_append_left _ _ (by simpa [cellsB, cellsI] using h)]
  unfold cellsB cellsI
  simp only [List.length_map, List.length_range, show 40 + i - 40 = i by omega]
  rw [set_map]
theorem over_b {x : Bf.S} {i : Nat} {v : Int} (h : i < 40) : Zz.over (tab x) (80 + i) [.int .i64 v] = some (tab ⟨x.known, x.far, Bf.upd x.by_ i v⟩) := by
  rw [over_one (by rw [tab_len]; omega)]
  unfold tab
  rw [List.set_append_right _ _ (by simp [cellsB]; omega), List.set_append_right _ _ (by simp [cellsB, cellsI]; omega)]
  unfold cellsB cellsI
  simp only [List.length_map, List.length_range, show 80 + i - 40 - 40 = i by omega]
  rw [set_map]

/-- A part of the memory with a table in it. -/
structure Tbl (A : Bf.S → Hp) (id N : Nat) : Prop where
  len : ∀ x, (A x).length = N
  lt : id < N
  look : ∀ x l, Zz.look (A x ++ l) id 0 = some (tab x)
  set : ∀ x y l, (A x ++ l).set id (some ⟨0, tab y⟩) = A y ++ l

def stepL (p : Bf.S × Int) (e : Bf.Edge) : Bf.S × Int := if Bf.fires p.1 e then (Bf.lowered p.1 e, (e.b : Int)) else p

def asg36 : IR := (.seq (.region [⟨none, (some 9), (.move (.tmp 16))⟩]) (.region [⟨none, (some 10), (.alloc [(.int .i64 (0 : Int)), (.int .i64 (0 : Int)), (.int .i64 (0 : Int))])⟩, ⟨none, none, (.store 3 (.tmp 10) (.tmp 17))⟩]))
def bod36 : IR := (.block 3 (.seq (.draw [⟨⟨none, (some 18), (.load false 1 (.tmp 3))⟩, []⟩, ⟨⟨none, (some 19), (.fieldAddr 0 (.tmp 10))⟩, []⟩, ⟨⟨none, (some 20), (.load false 1 (.tmp 19))⟩, []⟩, ⟨⟨none, (some 21), (.nilCheck (.tmp 18))⟩, []⟩, ⟨⟨none, (some 22), (.fieldAddr 40 (.tmp 21))⟩, []⟩, ⟨⟨none, (some 23), (.indexAddrArr 40 1 (.tmp 22) (.tmp 20))⟩, []⟩, ⟨⟨none, (some 24), (.load false 1 (.tmp 23))⟩, []⟩, ⟨⟨none, (some 25), (.fieldAddr 2 (.tmp 10))⟩, []⟩, ⟨⟨none, (some 26), (.load false 1 (.tmp 25))⟩, []⟩, ⟨⟨none, (some 27), (.bin .add (.tmp 24) (.tmp 26))⟩, []⟩, ⟨⟨none, (some 11), (.move (.tmp 27))⟩, []⟩]) (.seq (.draw [⟨⟨none, (some 28), (.load false 1 (.tmp 3))⟩, []⟩, ⟨⟨none, (some 29), (.fieldAddr 0 (.tmp 10))⟩, []⟩, ⟨⟨none, (some 30), (.load false 1 (.tmp 29))⟩, []⟩, ⟨⟨none, (some 31), (.nilCheck (.tmp 28))⟩, []⟩, ⟨⟨none, (some 32), (.fieldAddr 0 (.tmp 31))⟩, []⟩, ⟨⟨none, (some 33), (.indexAddrArr 40 1 (.tmp 32) (.tmp 30))⟩, []⟩, ⟨⟨none, (some 34), (.load false 1 (.tmp 33))⟩, []⟩, ⟨⟨none, (some 35), (.move (.tmp 34))⟩, []⟩, ⟨⟨(some (35, true)), (some 36), (.load false 1 (.tmp 3))⟩, []⟩, ⟨⟨(some (35, true)), (some 37), (.fieldAddr 1 (.tmp 10))⟩, []⟩, ⟨⟨(some (35, true)), (some 38), (.load false 1 (.tmp 37))⟩, []⟩, ⟨⟨(some (35, true)), (some 39), (.nilCheck (.tmp 36))⟩, []⟩, ⟨⟨(some (35, true)), (some 40), (.fieldAddr 0 (.tmp 39))⟩, []⟩, ⟨⟨(some (35, true)), (some 41), (.indexAddrArr 40 1 (.tmp 40) (.tmp 38))⟩, []⟩, ⟨⟨(some (35, true)), (some 42), (.load false 1 (.tmp 41))⟩, []⟩, ⟨⟨(some (35, true)), (some 43), (.un .not (.tmp 42))⟩, []⟩, ⟨⟨(some (35, true)), (some 44), (.move (.tmp 43))⟩, []⟩, ⟨⟨(some (44, false)), (some 45), (.move (.tmp 11))⟩, []⟩, ⟨⟨(some (44, false)), (some 46), (.load false 1 (.tmp 3))⟩, []⟩, ⟨⟨(some (44, false)), (some 47), (.fieldAddr 1 (.tmp 10))⟩, []⟩, ⟨⟨(some (44, false)), (some 48), (.load false 1 (.tmp 47))⟩, []⟩, ⟨⟨(some (44, false)), (some 49), (.nilCheck (.tmp 46))⟩, []⟩, ⟨⟨(some (44, false)), (some 50), (.fieldAddr 40 (.tmp 49))⟩, []⟩, ⟨⟨(some (44, false)), (some 51), (.indexAddrArr 40 1 (.tmp 50) (.tmp 48))⟩, []⟩, ⟨⟨(some (44, false)), (some 52), (.load false 1 (.tmp 51))⟩, []⟩, ⟨⟨(some (44, false)), (some 53), (.bin .lss (.tmp 45) (.tmp 52))⟩, []⟩, ⟨⟨(some (35, true)), (some 54), (.pick (.tmp 44) (.con (.bool true)) (.tmp 53))⟩, []⟩, ⟨⟨none, (some 55), (.pick (.tmp 35) (.tmp 54) (.con (.bool false)))⟩, []⟩]) (.cond (.tmp 55) (.seq (.draw [⟨⟨none, (some 56), (.load false 1 (.tmp 3))⟩, []⟩, ⟨⟨none, (some 57), (.fieldAddr 1 (.tmp 10))⟩, []⟩, ⟨⟨none, (some 58), (.load false 1 (.tmp 57))⟩, []⟩, ⟨⟨none, (some 59), (.load false 1 (.tmp 3))⟩, []⟩, ⟨⟨none, (some 60), (.fieldAddr 1 (.tmp 10))⟩, []⟩, ⟨⟨none, (some 61), (.load false 1 (.tmp 60))⟩, []⟩, ⟨⟨none, (some 62), (.load false 1 (.tmp 3))⟩, []⟩, ⟨⟨none, (some 63), (.fieldAddr 1 (.tmp 10))⟩, []⟩, ⟨⟨none, (some 64), (.load false 1 (.tmp 63))⟩, []⟩, ⟨⟨none, (some 65), (.move (.tmp 11))⟩, []⟩, ⟨⟨none, (some 66), (.move (.tmp 9))⟩, []⟩, ⟨⟨none, (some 67), (.nilCheck (.tmp 56))⟩, []⟩, ⟨⟨none, (some 68), (.fieldAddr 0 (.tmp 67))⟩, []⟩, ⟨⟨none, (some 69), (.indexAddrArr 40 1 (.tmp 68) (.tmp 58))⟩, []⟩, ⟨⟨none, none, (.store 1 (.tmp 69) (.con (.bool true)))⟩, [3, 5, 6, 8]⟩, ⟨⟨none, (some 70), (.nilCheck (.tmp 59))⟩, []⟩, ⟨⟨none, (some 71), (.fieldAddr 40 (.tmp 70))⟩, []⟩, ⟨⟨none, (some 72), (.indexAddrArr 40 1 (.tmp 71) (.tmp 61))⟩, []⟩, ⟨⟨none, none, (.store 1 (.tmp 72) (.tmp 65))⟩, [6, 8]⟩, ⟨⟨none, (some 73), (.nilCheck (.tmp 62))⟩, []⟩, ⟨⟨none, (some 74), (.fieldAddr 80 (.tmp 73))⟩, []⟩, ⟨⟨none, (some 75), (.indexAddrArr 40 1 (.tmp 74) (.tmp 64))⟩, []⟩, ⟨⟨none, none, (.store 1 (.tmp 75) (.tmp 66))⟩, []⟩]) (.region [⟨none, (some 76), (.fieldAddr 1 (.tmp 10))⟩, ⟨none, (some 77), (.load false 1 (.tmp 76))⟩, ⟨none, none, (.store 1 (.tmp 7) (.tmp 77))⟩])) .skip))))

theorem yield36 {A : Bf.S → Hp} {id N : Nat} (hA : Tbl A id N) {x : Bf.S} {last s a b w : Int} {R : Hp} {Tl : List AV} {k : Nat} {L : List (Option ALoop)} (hk : L[k]? = some (some ⟨true, none, Tl, [16, 17], asg36, bod36⟩))
    (hT : Tl.length = 86) (g3 : gt Tl 3 = .pref N 0 0) (g7 : gt Tl 7 = .pref (N + 1) 0 0) (a0 : 0 ≤ a) (a1 : a < 40) (b0 : 0 ≤ b) (b1 : b < 40) (w0 : -100000000000000 ≤ w) (w1 : w ≤ 100000000000000)
    (f0 : -9000000000000000000 ≤ x.far a.toNat) (f1 : x.far a.toNat ≤ 9000000000000000000) :
    WF E9 (.yield k) [.int .i64 s, .agg [.int .i64 a, .int .i64 b, .int .i64 w]] ⟨A x ++ some ⟨0, [.pref id 0 0]⟩ :: some ⟨0, [.int .i64 last]⟩ :: R, L⟩ fun v m' => v = .bool true ∧ m' =
      ⟨A (stepL (x, last) ⟨s, a.toNat, b.toNat, w⟩).1 ++ some ⟨0, [.pref id 0 0]⟩ :: some ⟨0, [.int .i64 (stepL (x, last) ⟨s, a.toNat, b.toNat, w⟩).2]⟩ :: (R ++ [some ⟨0, [.int .i64 a, .int .i64 b, .int .i64 w]⟩]), L⟩ := by
  have hlt := hA.lt
  have eb : ((b.toNat : Nat) : Int) = b := by omega
  refine WF.yieldN hk rfl ?_
  generalize L.set k _ = L1
  clear hk
  obtain ⟨f, rfl⟩ := ex86 hT
  clear hT
  replace g3 : f 3 = .pref N 0 0 := g3
  replace g7 : f 7 = .pref (N + 1) 0 0 := g7
  simp only [g3, g7]
  simp only [setAll, pt8, pt0, pt1, pt2, pt3, pt4, pt5, pt6, pt7]
  unfold asg36
  repeat' (first
    | (refine WO.yes rfl ?_)
    | (refine WO.noE rfl (by simp only [pt8, pt0, pt1, pt2, pt3, pt4, pt5, pt6, pt7]; rfl) ?_)
    | (refine WO.opE (by intro; simp (disch := first | omega | (simp only [hA.len])) only [go_sem, zeros, Zz.cut, List.append_assoc, List.length_append, Nat.reduceAdd, Nat.reduceMul, Nat.reduceSub, Nat.reduceLeDiff, Nat.reduceEqDiff, Int.reduceNeg, Int.reduceAdd, Int.reduceToNat, reduceIte, reduceCtorEq, hA.len, hA.look, hA.set, lk0, lk1, st0, st1, lkr20, str20, tab_k, tab_f, tab_b, over_k, over_f, over_b, Nat.mul_one]; rfl) (by simp only [pt8, pt0, pt1, pt2, pt3, pt4, pt5, pt6, pt7]; rfl) ?_)
    | (refine WO.opN (by intro; simp (disch := first | omega | (simp only [hA.len])) only [go_sem, zeros, Zz.cut, List.append_assoc, List.length_append, Nat.reduceAdd, Nat.reduceMul, Nat.reduceSub, Nat.reduceLeDiff, Nat.reduceEqDiff, Int.reduceNeg, Int.reduceAdd, Int.reduceToNat, reduceIte, reduceCtorEq, hA.len, hA.look, hA.set, lk0, lk1, st0, st1, lkr20, str20, tab_k, tab_f, tab_b, over_k, over_f, over_b, Nat.mul_one]; rfl) ?_)
    | (refine WO.opE (by intro; exact ev_lenS (by simp only [go_sem]; first | rfl | assumption)) (by simp only [pt8, pt0, pt1, pt2, pt3, pt4, pt5, pt6, pt7]; rfl) ?_)
    | (refine WC.seq ?_)
    | (refine WC.region ?_)
    | (refine WO.nil ?_)
    | (simp only [fl1, fl2, fl3, fl4, fl5, fl6, fl7, fl8, fl9, fl10, Nat.reduceBEq])
    | (refine WC.calm rfl ?_)
    | (refine WC.drawT ?_)
    | (refine WT.nil ?_)
    | (refine WT.yes rfl ?_)
    | (refine WT.no rfl (by simp only [pt8, pt0, pt1, pt2, pt3, pt4, pt5, pt6, pt7]; rfl) ?_)
    | (refine WT.free rfl (by intro; simp (disch := first | omega | (simp only [hA.len])) only [go_sem, zeros, Zz.cut, List.append_assoc, List.length_append, Nat.reduceAdd, Nat.reduceMul, Nat.reduceSub, Nat.reduceLeDiff, Nat.reduceEqDiff, Int.reduceNeg, Int.reduceAdd, Int.reduceToNat, reduceIte, reduceCtorEq, hA.len, hA.look, hA.set, lk0, lk1, st0, st1, lkr20, str20, tab_k, tab_f, tab_b, over_k, over_f, over_b, Nat.mul_one]; rfl) rfl (by simp only [pt8, pt0, pt1, pt2, pt3, pt4, pt5, pt6, pt7]; rfl) ?_)
    | (refine WT.big rfl rfl (by intro; simp (disch := first | omega | (simp only [hA.len])) only [go_sem, zeros, Zz.cut, List.append_assoc, List.length_append, Nat.reduceAdd, Nat.reduceMul, Nat.reduceSub, Nat.reduceLeDiff, Nat.reduceEqDiff, Int.reduceNeg, Int.reduceAdd, Int.reduceToNat, reduceIte, reduceCtorEq, hA.len, hA.look, hA.set, lk0, lk1, st0, st1, lkr20, str20, tab_k, tab_f, tab_b, over_k, over_f, over_b, Nat.mul_one]; rfl) (by simp (disch := first | omega | (simp only [hA.len])) only [go_sem, zeros, Zz.cut, List.append_assoc, List.length_append, Nat.reduceAdd, Nat.reduceMul, Nat.reduceSub, Nat.reduceLeDiff, Nat.reduceEqDiff, Int.reduceNeg, Int.reduceAdd, Int.reduceToNat, reduceIte, reduceCtorEq, hA.len, hA.look, hA.set, lk0, lk1, st0, st1, lkr20, str20, tab_k, tab_f, tab_b, over_k, over_f, over_b, Nat.mul_one, touch]; rfl) (by first | exact .inl rfl | exact .inr (apart_nil _) | (right; apply apart_mk; simp only [apartL, List.nil_append, List.cons_append, List.getElem?_cons_succ, List.getElem?_cons_zero, Tch.free, and_true, true_and]; first | done | omega)) (by simp only [pt8, pt0, pt1, pt2, pt3, pt4, pt5, pt6, pt7]; rfl) ?_)
    | (refine WT.bigN rfl rfl (by intro; simp (disch := first | omega | (simp only [hA.len])) only [go_sem, zeros, Zz.cut, List.append_assoc, List.length_append, Nat.reduceAdd, Nat.reduceMul, Nat.reduceSub, Nat.reduceLeDiff, Nat.reduceEqDiff, Int.reduceNeg, Int.reduceAdd, Int.reduceToNat, reduceIte, reduceCtorEq, hA.len, hA.look, hA.set, lk0, lk1, st0, st1, lkr20, str20, tab_k, tab_f, tab_b, over_k, over_f, over_b, Nat.mul_one]; rfl) (by simp (disch := first | omega | (simp only [hA.len])) only [go_sem, zeros, Zz.cut, List.append_assoc, List.length_append, Nat.reduceAdd, Nat.reduceMul, Nat.reduceSub, Nat.reduceLeDiff, Nat.reduceEqDiff, Int.reduceNeg, Int.reduceAdd, Int.reduceToNat, reduceIte, reduceCtorEq, hA.len, hA.look, hA.set, lk0, lk1, st0, st1, lkr20, str20, tab_k, tab_f, tab_b, over_k, over_f, over_b, Nat.mul_one, touch]; rfl) (by first | exact .inl rfl | exact .inr (apart_nil _) | (right; apply apart_mk; simp only [apartL, List.nil_append, List.cons_append, List.getElem?_cons_succ, List.getElem?_cons_zero, Tch.free, and_true, true_and]; first | done | omega)) ?_)
    | (refine WC.yes rfl ?_)
    | (refine WC.no rfl ?_)
    | (refine WC.skip ?_)
    | (refine WC.exit ?_)
    | (refine WC.ret ?_)
    | (refine WC.block ?_)
    | (refine WT.em2 rfl (by intro hp; simp only [hp, decide_true]; rfl) (by intro hp; simp only [hp, decide_false]; rfl) (fun hp => ?_) (fun hp => ?_) <;> try (exfalso; first | omega | contradiction))
    | (refine WO.em2 rfl (by intro hp; simp only [hp, decide_true]; rfl) (by intro hp; simp only [hp, decide_false]; rfl) (fun hp => ?_) (fun hp => ?_) <;> try (exfalso; first | omega | contradiction))
    | (refine WC.em2 rfl (fun hp => ?_) (fun hp => ?_) <;> try (exfalso; first | omega | contradiction)))
  refine ⟨trivial, trivial, ?_⟩
  unfold bod36
  repeat' (first
    | (refine WO.yes rfl ?_)
    | (refine WO.noE rfl (by simp only [pt8, pt0, pt1, pt2, pt3, pt4, pt5, pt6, pt7]; rfl) ?_)
    | (refine WO.opE (by intro; simp (disch := first | omega | (simp only [hA.len])) only [go_sem, zeros, Zz.cut, List.append_assoc, List.length_append, Nat.reduceAdd, Nat.reduceMul, Nat.reduceSub, Nat.reduceLeDiff, Nat.reduceEqDiff, Int.reduceNeg, Int.reduceAdd, Int.reduceToNat, reduceIte, reduceCtorEq, hA.len, hA.look, hA.set, lk0, lk1, st0, st1, lkr20, str20, tab_k, tab_f, tab_b, over_k, over_f, over_b, Nat.mul_one]; rfl) (by simp only [pt8, pt0, pt1, pt2, pt3, pt4, pt5, pt6, pt7]; rfl) ?_)
    | (refine WO.opN (by intro; simp (disch := first | omega | (simp only [hA.len])) only [go_sem, zeros, Zz.cut, List.append_assoc, List.length_append, Nat.reduceAdd, Nat.reduceMul, Nat.reduceSub, Nat.reduceLeDiff, Nat.reduceEqDiff, Int.reduceNeg, Int.reduceAdd, Int.reduceToNat, reduceIte, reduceCtorEq, hA.len, hA.look, hA.set, lk0, lk1, st0, st1, lkr20, str20, tab_k, tab_f, tab_b, over_k, over_f, over_b, Nat.mul_one]; rfl) ?_)
    | (refine WO.opE (by intro; exact ev_lenS (by simp only [go_sem]; first | rfl | assumption)) (by simp only [pt8, pt0, pt1, pt2, pt3, pt4, pt5, pt6, pt7]; rfl) ?_)
    | (refine WC.seq ?_)
    | (refine WC.region ?_)
    | (refine WO.nil ?_)
    | (simp only [fl1, fl2, fl3, fl4, fl5, fl6, fl7, fl8, fl9, fl10, Nat.reduceBEq])
    | (refine WC.calm rfl ?_)
    | (refine WC.drawT ?_)
    | (refine WT.nil ?_)
    | (refine WT.yes rfl ?_)
    | (refine WT.no rfl (by simp only [pt8, pt0, pt1, pt2, pt3, pt4, pt5, pt6, pt7]; rfl) ?_)
    | (refine WT.free rfl (by intro; simp (disch := first | omega | (simp only [hA.len])) only [go_sem, zeros, Zz.cut, List.append_assoc, List.length_append, Nat.reduceAdd, Nat.reduceMul, Nat.reduceSub, Nat.reduceLeDiff, Nat.reduceEqDiff, Int.reduceNeg, Int.reduceAdd, Int.reduceToNat, reduceIte, reduceCtorEq, hA.len, hA.look, hA.set, lk0, lk1, st0, st1, lkr20, str20, tab_k, tab_f, tab_b, over_k, over_f, over_b, Nat.mul_one]; rfl) rfl (by simp only [pt8, pt0, pt1, pt2, pt3, pt4, pt5, pt6, pt7]; rfl) ?_)
    | (refine WT.big rfl rfl (by intro; simp (disch := first | omega | (simp only [hA.len])) only [go_sem, zeros, Zz.cut, List.append_assoc, List.length_append, Nat.reduceAdd, Nat.reduceMul, Nat.reduceSub, Nat.reduceLeDiff, Nat.reduceEqDiff, Int.reduceNeg, Int.reduceAdd, Int.reduceToNat, reduceIte, reduceCtorEq, hA.len, hA.look, hA.set, lk0, lk1, st0, st1, lkr20, str20, tab_k, tab_f, tab_b, over_k, over_f, over_b, Nat.mul_one]; rfl) (by simp (disch := first | omega | (simp only [hA.len])) only [go_sem, zeros, Zz.cut, List.append_assoc, List.length_append, Nat.reduceAdd, Nat.reduceMul, Nat.reduceSub, Nat.reduceLeDiff, Nat.reduceEqDiff, Int.reduceNeg, Int.reduceAdd, Int.reduceToNat, reduceIte, reduceCtorEq, hA.len, hA.look, hA.set, lk0, lk1, st0, st1, lkr20, str20, tab_k, tab_f, tab_b, over_k, over_f, over_b, Nat.mul_one, touch]; rfl) (by first | exact .inl rfl | exact .inr (apart_nil _) | (right; apply apart_mk; simp only [apartL, List.nil_append, List.cons_append, List.getElem?_cons_succ, List.getElem?_cons_zero, Tch.free, and_true, true_and]; first | done | omega)) (by simp only [pt8, pt0, pt1, pt2, pt3, pt4, pt5, pt6, pt7]; rfl) ?_)
    | (refine WT.bigN rfl rfl (by intro; simp (disch := first | omega | (simp only [hA.len])) only [go_sem, zeros, Zz.cut, List.append_assoc, List.length_append, Nat.reduceAdd, Nat.reduceMul, Nat.reduceSub, Nat.reduceLeDiff, Nat.reduceEqDiff, Int.reduceNeg, Int.reduceAdd, Int.reduceToNat, reduceIte, reduceCtorEq, hA.len, hA.look, hA.set, lk0, lk1, st0, st1, lkr20, str20, tab_k, tab_f, tab_b, over_k, over_f, over_b, Nat.mul_one]; rfl) (by simp (disch := first | omega | (simp only [hA.len])) only [go_sem, zeros, Zz.cut, List.append_assoc, List.length_append, Nat.reduceAdd, Nat.reduceMul, Nat.reduceSub, Nat.reduceLeDiff, Nat.reduceEqDiff, Int.reduceNeg, Int.reduceAdd, Int.reduceToNat, reduceIte, reduceCtorEq, hA.len, hA.look, hA.set, lk0, lk1, st0, st1, lkr20, str20, tab_k, tab_f, tab_b, over_k, over_f, over_b, Nat.mul_one, touch]; rfl) (by first | exact .inl rfl | exact .inr (apart_nil _) | (right; apply apart_mk; simp only [apartL, List.nil_append, List.cons_append, List.getElem?_cons_succ, List.getElem?_cons_zero, Tch.free, and_true, true_and]; first | done | omega)) ?_)
    | (refine WC.yes rfl ?_)
    | (refine WC.no rfl ?_)
    | (refine WC.skip ?_)
    | (refine WC.exit ?_)
    | (refine WC.ret ?_)
    | (refine WC.block ?_)
    | (refine WT.em2 rfl (by intro hp; simp only [hp, decide_true]; rfl) (by intro hp; simp only [hp, decide_false]; rfl) (fun hp => ?_) (fun hp => ?_) <;> try (exfalso; first | omega | contradiction))
    | (refine WO.em2 rfl (by intro hp; simp only [hp, decide_true]; rfl) (by intro hp; simp only [hp, decide_false]; rfl) (fun hp => ?_) (fun hp => ?_) <;> try (exfalso; first | omega | contradiction))
    | (refine WC.em2 rfl (fun hp => ?_) (fun hp => ?_) <;> try (exfalso; first | omega | contradiction)))
  · have e : stepL (x, last) ⟨s, a.toNat, b.toNat, w⟩ = (Bf.lowered x ⟨s, a.toNat, b.toNat, w⟩, ((b.toNat : Nat) : Int)) := if_pos (by simp [Bf.fires, *])
    rw [e, eb]
    exact ⟨trivial, trivial, trivial, rfl⟩
  · have e : stepL (x, last) ⟨s, a.toNat, b.toNat, w⟩ = (Bf.lowered x ⟨s, a.toNat, b.toNat, w⟩, ((b.toNat : Nat) : Int)) := if_pos (by simp [Bf.fires, *])
    rw [e, eb]
    exact ⟨trivial, trivial, trivial, rfl⟩
  · have e : stepL (x, last) ⟨s, a.toNat, b.toNat, w⟩ = (x, last) := if_neg (by
      simp only [Bf.fires, Bool.and_eq_true, Bool.or_eq_true, Bool.not_eq_true', decide_eq_true_eq]
      rintro ⟨h1, h2 | h2⟩
      · simp_all
      · exact hp h2)
    rw [e]
    exact ⟨trivial, trivial, trivial, rfl⟩
  · have e : stepL (x, last) ⟨s, a.toNat, b.toNat, w⟩ = (x, last) := if_neg (by simp [Bf.fires, *])
    rw [e]
    exact ⟨trivial, trivial, trivial, rfl⟩
end Go.Proofs.Ytndaljjljmmlcaa

set_option linter.unusedSimpArgs false
set_option linter.unusedVariables false
namespace Go.Proofs.Ytndaljjljmmlcaa
open Go.Zz


theorem f40 {Γ : Env} (hs : Γ.spec 40 = none) (hf : Γ.fn 40 = some ir40) {l : AV} {H : Hp} {L : List (Option ALoop)} (hc : l.cells = some [l]) :
    WF Γ (.func 40 [] []) [l] ⟨H, L⟩ fun v m' => v = .func 41 [] [.pref H.length 0 0] ∧ m' = ⟨H ++ [some ⟨0, [l]⟩], L⟩ := by
  refine WF.fnE hs hf (by show 1 ≤ 4; decide) ?_
  unfold ir40
  simp only [padTo, List.replicate, List.nil_append, List.append_nil, List.cons_append]
  refine WC.seq (WC.region ?_)
  refine WO.opE (by intro; simp only [ev_box, Opd.ev, gt0, hc, Option.map_some, newBlk]; rfl) (by simp only [pt1]; rfl) ?_
  repeat' (first
    | (refine WO.yes rfl ?_)
    | (refine WO.noE rfl (by simp only [pt8, pt0, pt1, pt2, pt3, pt4, pt5, pt6, pt7]; rfl) ?_)
    | (refine WO.opE (by intro; simp (disch := omega) only [go_sem, Zz.look, Zz.over, Zz.cut, Nat.reduceAdd, Nat.reduceMul, Nat.reduceSub, Nat.reduceLeDiff, Nat.reduceEqDiff, Int.reduceNeg, Int.reduceAdd, Int.reduceToNat, reduceIte, reduceCtorEq]; rfl) (by simp only [pt8, pt0, pt1, pt2, pt3, pt4, pt5, pt6, pt7]; rfl) ?_)
    | (refine WO.opN (by intro; simp (disch := omega) only [go_sem, Zz.look, Zz.over, Zz.cut, Nat.reduceAdd, Nat.reduceMul, Nat.reduceSub, Nat.reduceLeDiff, Nat.reduceEqDiff, Int.reduceNeg, Int.reduceAdd, Int.reduceToNat, reduceIte, reduceCtorEq]; rfl) ?_)
    | (refine WO.opE (by intro; exact ev_lenS (by simp only [go_sem]; first | rfl | assumption)) (by simp only [pt8, pt0, pt1, pt2, pt3, pt4, pt5, pt6, pt7]; rfl) ?_)
    | (refine WC.seq ?_)
    | (refine WC.region ?_)
    | (refine WO.nil ?_)
    | (simp only [fl1, fl2, fl3, fl4, fl5, fl6, fl7, fl8, fl9, fl10, Nat.reduceBEq])
    | (refine WC.calm rfl ?_)
    | (refine WC.drawT ?_)
    | (refine WT.nil ?_)
    | (refine WT.yes rfl ?_)
    | (refine WT.no rfl (by simp only [pt8, pt0, pt1, pt2, pt3, pt4, pt5, pt6, pt7]; rfl) ?_)
    | (refine WT.free rfl (by intro; simp (disch := omega) only [go_sem, Zz.look, Zz.over, Zz.cut, Nat.reduceAdd, Nat.reduceMul, Nat.reduceSub, Nat.reduceLeDiff, Nat.reduceEqDiff, Int.reduceNeg, Int.reduceAdd, Int.reduceToNat, reduceIte, reduceCtorEq]; rfl) rfl (by simp only [pt8, pt0, pt1, pt2, pt3, pt4, pt5, pt6, pt7]; rfl) ?_)
    | (refine WT.big rfl rfl (by intro; simp (disch := omega) only [go_sem, Zz.look, Zz.over, Zz.cut, Nat.reduceAdd, Nat.reduceMul, Nat.reduceSub, Nat.reduceLeDiff, Nat.reduceEqDiff, Int.reduceNeg, Int.reduceAdd, Int.reduceToNat, reduceIte, reduceCtorEq]; rfl) (by simp (disch := omega) only [go_sem, Zz.look, Zz.over, Zz.cut, Nat.reduceAdd, Nat.reduceMul, Nat.reduceSub, Nat.reduceLeDiff, Nat.reduceEqDiff, Int.reduceNeg, Int.reduceAdd, Int.reduceToNat, reduceIte, reduceCtorEq, touch]; rfl) (by first | exact .inl rfl | exact .inr (apart_nil _) | (right; apply apart_mk; simp only [apartL, List.nil_append, List.cons_append, List.getElem?_cons_succ, List.getElem?_cons_zero, Tch.free, and_true, true_and]; first | done | omega)) (by simp only [pt8, pt0, pt1, pt2, pt3, pt4, pt5, pt6, pt7]; rfl) ?_)
    | (refine WT.bigN rfl rfl (by intro; simp (disch := omega) only [go_sem, Zz.look, Zz.over, Zz.cut, Nat.reduceAdd, Nat.reduceMul, Nat.reduceSub, Nat.reduceLeDiff, Nat.reduceEqDiff, Int.reduceNeg, Int.reduceAdd, Int.reduceToNat, reduceIte, reduceCtorEq]; rfl) (by simp (disch := omega) only [go_sem, Zz.look, Zz.over, Zz.cut, Nat.reduceAdd, Nat.reduceMul, Nat.reduceSub, Nat.reduceLeDiff, Nat.reduceEqDiff, Int.reduceNeg, Int.reduceAdd, Int.reduceToNat, reduceIte, reduceCtorEq, touch]; rfl) (by first | exact .inl rfl | exact .inr (apart_nil _) | (right; apply apart_mk; simp only [apartL, List.nil_append, List.cons_append, List.getElem?_cons_succ, List.getElem?_cons_zero, Tch.free, and_true, true_and]; first | done | omega)) ?_)
    | (refine WC.yes rfl ?_)
    | (refine WC.no rfl ?_)
    | (refine WC.skip ?_)
    | (refine WC.exit ?_)
    | (refine WC.ret ?_)
    | (refine WC.block ?_)
    | (refine WT.em2 rfl (by intro hp; simp only [hp, decide_true]; rfl) (by intro hp; simp only [hp, decide_false]; rfl) (fun hp => ?_) (fun hp => ?_) <;> try (exfalso; first | omega | contradiction))
    | (refine WO.em2 rfl (by intro hp; simp only [hp, decide_true]; rfl) (by intro hp; simp only [hp, decide_false]; rfl) (fun hp => ?_) (fun hp => ?_) <;> try (exfalso; first | omega | contradiction))
    | (refine WC.em2 rfl (fun hp => ?_) (fun hp => ?_) <;> try (exfalso; first | omega | contradiction)))
  exact ⟨_, rfl, rfl, rfl⟩

/-- The edge of a step. -/
def eOf (rs : List Rg) (s : Int) : Bf.Edge := ⟨s, (stA rs s).toNat, (stB rs s).toNat, stW rs s⟩
theorem eOf_pos {rs : List Rg} {i : Nat} : eOf rs ((i : Int) + 1) = ⟨(i : Int) + 1, (nth rs i).a.toNat, (nth rs i).b.toNat, (nth rs i).hi⟩ := by
  have h : ¬ ((i : Int) + 1 < 0) := by omega
  simp only [eOf, stA, stB, stW, rdOf, if_neg h, show ((i : Int) + 1 - 1).toNat = i by omega]
theorem eOf_neg {rs : List Rg} {i : Nat} : eOf rs (0 - (i : Int) - 1) = ⟨0 - (i : Int) - 1, (nth rs i).b.toNat, (nth rs i).a.toNat, 0 - (nth rs i).lo⟩ := by
  have h : (0 - (i : Int) - 1 < 0) := by omega
  have h2 : (-(0 - (i : Int) - 1) - 1).toNat = i := by omega
  simp only [eOf, stA, stB, stW, rdOf, if_pos h, h2]
  rw [Int.zero_sub (nth rs i).lo]
/-- A round, up to a reading. -/
def passTo (rs : List Rg) (p : Bf.S × Int) : Nat → Bf.S × Int
  | 0 => p
  | i + 1 => stepL (stepL (passTo rs p i) (eOf rs ((i : Int) + 1))) (eOf rs (0 - (i : Int) - 1))

def Bnd (M : Int) (x : Bf.S) : Prop := ∀ v, -M ≤ x.far v ∧ x.far v ≤ M
theorem Bnd.step {M : Int} {p : Bf.S × Int} (h : Bnd M p.1) {e : Bf.Edge} (h0 : -100000000000000 ≤ e.w) (h1 : e.w ≤ 100000000000000) : Bnd (M + 100000000000000) (stepL p e).1 := by
  intro v
  have hv := h v
  have ha := h e.a
  unfold stepL
  split
  · simp only [Bf.lowered, Bf.upd]
    split <;> omega
  · omega
theorem okE {n : Int} {rs : List Rg} (hv : VL n rs) {i : Nat} (hi : i < rs.length) : (-100000000000000 ≤ (eOf rs ((i : Int) + 1)).w ∧ (eOf rs ((i : Int) + 1)).w ≤ 100000000000000) ∧ (-100000000000000 ≤ (eOf rs (0 - (i : Int) - 1)).w ∧ (eOf rs (0 - (i : Int) - 1)).w ≤ 100000000000000) := by
  obtain ⟨o1, o2, o3, o4, o5, o6, o7, o8⟩ := hv.at hi
  rw [eOf_pos, eOf_neg]
  simp only
  omega
theorem Bnd.pass {n : Int} {rs : List Rg} (hv : VL n rs) {M : Int} {p : Bf.S × Int} (h : Bnd M p.1) : ∀ i, i ≤ rs.length → Bnd (M + i * 200000000000000) (passTo rs p i).1
  | 0, _ => by simpa [passTo] using h
  | i + 1, hi => by
    have ih := Bnd.pass hv h i (by omega)
    obtain ⟨e1, e2⟩ := okE hv (i := i) (by omega)
    have := (ih.step e1.1 e1.2).step e2.1 e2.2
    rw [show M + ((i + 1 : Nat) : Int) * 200000000000000 = M + i * 200000000000000 + 100000000000000 + 100000000000000 by omega]
    exact this

theorem f41 {A : Bf.S → Hp} {id N : Nat} (hA : Tbl A id N) {n : Int} {rs : List Rg} (hv : VL n rs) {l : AV} (hl : RdL l rs) {p : Bf.S × Int} {R R' : Hp} {Tl : List AV} {k : Nat} {L : List (Option ALoop)} (hk : L[k]? = some (some ⟨true, none, Tl, [16, 17], asg36, bod36⟩))
    (hT : Tl.length = 86) (g3 : gt Tl 3 = .pref N 0 0) (g7 : gt Tl 7 = .pref (N + 1) 0 0) (hb : Bnd 8000000000000000000 p.1) :
    WF E9 (.func 41 [] [.pref (N + (R.length + 1 + 1)) 0 0]) [.yield k] ⟨A p.1 ++ some ⟨0, [.pref id 0 0]⟩ :: some ⟨0, [.int .i64 p.2]⟩ :: (R ++ some ⟨0, [l]⟩ :: R'), L⟩ fun v m' => ∃ R2,
      m' = ⟨A (passTo rs p rs.length).1 ++ some ⟨0, [.pref id 0 0]⟩ :: some ⟨0, [.int .i64 (passTo rs p rs.length).2]⟩ :: R2, L⟩ := by
  have hlen := hl.len
  have hmax := hv.2.2.1
  refine WF.fnE rfl (fn_of Try.func41 cir41) (by show 2 ≤ 35; decide) ?_
  unfold ir41
  simp only [padTo, List.replicate, List.nil_append, List.append_nil, List.cons_append]
  repeat' (first
    | (refine WO.yes rfl ?_)
    | (refine WO.noE rfl (by simp only [pt8, pt0, pt1, pt2, pt3, pt4, pt5, pt6, pt7]; rfl) ?_)
    | (refine WO.opE (by intro; simp (disch := first | omega | (simp only [hA.len])) only [go_sem, zeros, Zz.cut, List.append_assoc, List.length_append, Nat.reduceAdd, Nat.reduceMul, Nat.reduceSub, Nat.reduceLeDiff, Nat.reduceEqDiff, Int.reduceNeg, Int.reduceAdd, Int.reduceToNat, reduceIte, reduceCtorEq, hA.len, hA.look, hA.set, lk0, lk1, st0, st1, lkr20, str20, lkr21, str21, cut4, Nat.mul_one, hl.at]; rfl) (by simp only [pt8, pt0, pt1, pt2, pt3, pt4, pt5, pt6, pt7]; rfl) ?_)
    | (refine WO.opN (by intro; simp (disch := first | omega | (simp only [hA.len])) only [go_sem, zeros, Zz.cut, List.append_assoc, List.length_append, Nat.reduceAdd, Nat.reduceMul, Nat.reduceSub, Nat.reduceLeDiff, Nat.reduceEqDiff, Int.reduceNeg, Int.reduceAdd, Int.reduceToNat, reduceIte, reduceCtorEq, hA.len, hA.look, hA.set, lk0, lk1, st0, st1, lkr20, str20, lkr21, str21, cut4, Nat.mul_one, hl.at]; rfl) ?_)
    | (refine WO.opE (by intro; exact ev_lenS (by simp only [go_sem]; first | rfl | assumption)) (by simp only [pt8, pt0, pt1, pt2, pt3, pt4, pt5, pt6, pt7]; rfl) ?_)
    | (refine WO.opE (by intro; exact ev_lenS (by simp only [go_sem]; exact hlen)) (by simp only [pt8, pt0, pt1, pt2, pt3, pt4, pt5, pt6, pt7]; rfl) ?_)
    | (refine WC.seq ?_)
    | (refine WC.region ?_)
    | (refine WO.nil ?_)
    | (simp only [fl1, fl2, fl3, fl4, fl5, fl6, fl7, fl8, fl9, fl10, Nat.reduceBEq])
    | (refine WC.calm rfl ?_)
    | (refine WC.drawT ?_)
    | (refine WT.nil ?_)
    | (refine WT.yes rfl ?_)
    | (refine WT.no rfl (by simp only [pt8, pt0, pt1, pt2, pt3, pt4, pt5, pt6, pt7]; rfl) ?_)
    | (refine WT.free rfl (by intro; simp (disch := first | omega | (simp only [hA.len])) only [go_sem, zeros, Zz.cut, List.append_assoc, List.length_append, Nat.reduceAdd, Nat.reduceMul, Nat.reduceSub, Nat.reduceLeDiff, Nat.reduceEqDiff, Int.reduceNeg, Int.reduceAdd, Int.reduceToNat, reduceIte, reduceCtorEq, hA.len, hA.look, hA.set, lk0, lk1, st0, st1, lkr20, str20, lkr21, str21, cut4, Nat.mul_one, hl.at]; rfl) rfl (by simp only [pt8, pt0, pt1, pt2, pt3, pt4, pt5, pt6, pt7]; rfl) ?_)
    | (refine WT.big rfl rfl (by intro; simp (disch := first | omega | (simp only [hA.len])) only [go_sem, zeros, Zz.cut, List.append_assoc, List.length_append, Nat.reduceAdd, Nat.reduceMul, Nat.reduceSub, Nat.reduceLeDiff, Nat.reduceEqDiff, Int.reduceNeg, Int.reduceAdd, Int.reduceToNat, reduceIte, reduceCtorEq, hA.len, hA.look, hA.set, lk0, lk1, st0, st1, lkr20, str20, lkr21, str21, cut4, Nat.mul_one, hl.at]; rfl) (by simp (disch := first | omega | (simp only [hA.len])) only [go_sem, zeros, Zz.cut, List.append_assoc, List.length_append, Nat.reduceAdd, Nat.reduceMul, Nat.reduceSub, Nat.reduceLeDiff, Nat.reduceEqDiff, Int.reduceNeg, Int.reduceAdd, Int.reduceToNat, reduceIte, reduceCtorEq, hA.len, hA.look, hA.set, lk0, lk1, st0, st1, lkr20, str20, lkr21, str21, cut4, Nat.mul_one, hl.at, touch]; rfl) (by first | exact .inl rfl | exact .inr (apart_nil _) | (right; apply apart_mk; simp only [apartL, List.nil_append, List.cons_append, List.getElem?_cons_succ, List.getElem?_cons_zero, Tch.free, and_true, true_and]; first | done | omega)) (by simp only [pt8, pt0, pt1, pt2, pt3, pt4, pt5, pt6, pt7]; rfl) ?_)
    | (refine WT.bigN rfl rfl (by intro; simp (disch := first | omega | (simp only [hA.len])) only [go_sem, zeros, Zz.cut, List.append_assoc, List.length_append, Nat.reduceAdd, Nat.reduceMul, Nat.reduceSub, Nat.reduceLeDiff, Nat.reduceEqDiff, Int.reduceNeg, Int.reduceAdd, Int.reduceToNat, reduceIte, reduceCtorEq, hA.len, hA.look, hA.set, lk0, lk1, st0, st1, lkr20, str20, lkr21, str21, cut4, Nat.mul_one, hl.at]; rfl) (by simp (disch := first | omega | (simp only [hA.len])) only [go_sem, zeros, Zz.cut, List.append_assoc, List.length_append, Nat.reduceAdd, Nat.reduceMul, Nat.reduceSub, Nat.reduceLeDiff, Nat.reduceEqDiff, Int.reduceNeg, Int.reduceAdd, Int.reduceToNat, reduceIte, reduceCtorEq, hA.len, hA.look, hA.set, lk0, lk1, st0, st1, lkr20, str20, lkr21, str21, cut4, Nat.mul_one, hl.at, touch]; rfl) (by first | exact .inl rfl | exact .inr (apart_nil _) | (right; apply apart_mk; simp only [apartL, List.nil_append, List.cons_append, List.getElem?_cons_succ, List.getElem?_cons_zero, Tch.free, and_true, true_and]; first | done | omega)) ?_)
    | (refine WC.yes rfl ?_)
    | (refine WC.no rfl ?_)
    | (refine WC.skip ?_)
    | (refine WC.exit ?_)
    | (refine WC.ret ?_)
    | (refine WC.block ?_)
    | (refine WT.em2 rfl (by intro hp; simp only [hp, decide_true]; rfl) (by intro hp; simp only [hp, decide_false]; rfl) (fun hp => ?_) (fun hp => ?_) <;> try (exfalso; first | omega | contradiction))
    | (refine WO.em2 rfl (by intro hp; simp only [hp, decide_true]; rfl) (by intro hp; simp only [hp, decide_false]; rfl) (fun hp => ?_) (fun hp => ?_) <;> try (exfalso; first | omega | contradiction))
    | (refine WC.em2 rfl (fun hp => ?_) (fun hp => ?_) <;> try (exfalso; first | omega | contradiction)))
  refine WC.loopI (fun m s => ∃ T R i, s = ⟨T, A (passTo rs p i).1 ++ some ⟨0, [.pref id 0 0]⟩ :: some ⟨0, [.int .i64 (passTo rs p i).2]⟩ :: R, L⟩ ∧ T.length = 35 ∧ gt T 0 = .yield k ∧ gt T 5 = l ∧ gt T 6 = .int .i64 rs.length ∧ gt T 7 = .int .i64 (i : Nat) ∧ m + i = rs.length) ?_ rs.length _ ⟨_, _, 0, rfl, rfl, rfl, rfl, rfl, rfl, rfl⟩
  rintro m _ ⟨T, R, i, rfl, hT', g0, g5, g6, g7', hm⟩
  have hbi := hb.pass hv i (by omega)
  obtain ⟨f, rfl⟩ := ex35 hT'
  clear hT'
  replace g0 : f 0 = .yield k := g0
  replace g5 : f 5 = l := g5
  replace g6 : f 6 = .int .i64 rs.length := g6
  simp only [g0, g5, g6]
  replace g7' : f 7 = .int .i64 (i : Nat) := g7'
  simp only [g7']
  by_cases hi : i < rs.length
  · obtain ⟨o1, o2, o3, o4, o5, o6, o7, o8⟩ := hv.at hi
    obtain ⟨v1, v2, v3, v4⟩ := hv
    have c1 := hbi (nth rs i).a.toNat
    have c2 := (Bnd.step (p := ((passTo rs p i).1, (passTo rs p i).2)) hbi (e := ⟨(i : Int) + 1, (nth rs i).a.toNat, (nth rs i).b.toNat, (nth rs i).hi⟩) (by simp only; omega) (by simp only; omega)) (nth rs i).b.toNat
    repeat' (first
      | (refine WO.yes rfl ?_)
      | (refine WO.noE rfl (by simp only [pt8, pt0, pt1, pt2, pt3, pt4, pt5, pt6, pt7]; rfl) ?_)
      | (refine WO.opE (by intro; simp (disch := first | omega | (simp only [hA.len])) only [go_sem, zeros, Zz.cut, List.append_assoc, List.length_append, Nat.reduceAdd, Nat.reduceMul, Nat.reduceSub, Nat.reduceLeDiff, Nat.reduceEqDiff, Int.reduceNeg, Int.reduceAdd, Int.reduceToNat, reduceIte, reduceCtorEq, hA.len, hA.look, hA.set, lk0, lk1, st0, st1, lkr20, str20, lkr21, str21, cut4, Nat.mul_one, hl.at]; rfl) (by simp only [pt8, pt0, pt1, pt2, pt3, pt4, pt5, pt6, pt7]; rfl) ?_)
      | (refine WO.opN (by intro; simp (disch := first | omega | (simp only [hA.len])) only [go_sem, zeros, Zz.cut, List.append_assoc, List.length_append, Nat.reduceAdd, Nat.reduceMul, Nat.reduceSub, Nat.reduceLeDiff, Nat.reduceEqDiff, Int.reduceNeg, Int.reduceAdd, Int.reduceToNat, reduceIte, reduceCtorEq, hA.len, hA.look, hA.set, lk0, lk1, st0, st1, lkr20, str20, lkr21, str21, cut4, Nat.mul_one, hl.at]; rfl) ?_)
      | (refine WO.opE (by intro; exact ev_lenS (by simp only [go_sem]; first | rfl | assumption)) (by simp only [pt8, pt0, pt1, pt2, pt3, pt4, pt5, pt6, pt7]; rfl) ?_)
      | (refine WO.specE rfl rfl (s39 (by omega) (by omega)) (by simp only [pt8, pt0, pt1, pt2, pt3, pt4, pt5, pt6, pt7]; rfl) ?_)
      | (refine WO.callE rfl rfl (yield36 hA hk hT g3 g7 (by omega) (by omega) (by omega) (by omega) (by omega) (by omega) (by omega) (by omega)) (by simp only [pt8, pt0, pt1, pt2, pt3, pt4, pt5, pt6, pt7]; rfl) ?_)
      | (refine WC.seq ?_)
      | (refine WC.region ?_)
      | (refine WO.nil ?_)
      | (simp only [fl1, fl2, fl3, fl4, fl5, fl6, fl7, fl8, fl9, fl10, Nat.reduceBEq])
      | (refine WC.calm rfl ?_)
      | (refine WC.drawT ?_)
      | (refine WT.nil ?_)
      | (refine WT.yes rfl ?_)
      | (refine WT.no rfl (by simp only [pt8, pt0, pt1, pt2, pt3, pt4, pt5, pt6, pt7]; rfl) ?_)
      | (refine WT.free rfl (by intro; simp (disch := first | omega | (simp only [hA.len])) only [go_sem, zeros, Zz.cut, List.append_assoc, List.length_append, Nat.reduceAdd, Nat.reduceMul, Nat.reduceSub, Nat.reduceLeDiff, Nat.reduceEqDiff, Int.reduceNeg, Int.reduceAdd, Int.reduceToNat, reduceIte, reduceCtorEq, hA.len, hA.look, hA.set, lk0, lk1, st0, st1, lkr20, str20, lkr21, str21, cut4, Nat.mul_one, hl.at]; rfl) rfl (by simp only [pt8, pt0, pt1, pt2, pt3, pt4, pt5, pt6, pt7]; rfl) ?_)
      | (refine WT.big rfl rfl (by intro; simp (disch := first | omega | (simp only [hA.len])) only [go_sem, zeros, Zz.cut, List.append_assoc, List.length_append, Nat.reduceAdd, Nat.reduceMul, Nat.reduceSub, Nat.reduceLeDiff, Nat.reduceEqDiff, Int.reduceNeg, Int.reduceAdd, Int.reduceToNat, reduceIte, reduceCtorEq, hA.len, hA.look, hA.set, lk0, lk1, st0, st1, lkr20, str20, lkr21, str21, cut4, Nat.mul_one, hl.at]; rfl) (by simp (disch := first | omega | (simp only [hA.len])) only [go_sem, zeros, Zz.cut, List.append_assoc, List.length_append, Nat.reduceAdd, Nat.reduceMul, Nat.reduceSub, Nat.reduceLeDiff, Nat.reduceEqDiff, Int.reduceNeg, Int.reduceAdd, Int.reduceToNat, reduceIte, reduceCtorEq, hA.len, hA.look, hA.set, lk0, lk1, st0, st1, lkr20, str20, lkr21, str21, cut4, Nat.mul_one, hl.at, touch]; rfl) (by first | exact .inl rfl | exact .inr (apart_nil _) | (right; apply apart_mk; simp only [apartL, List.nil_append, List.cons_append, List.getElem?_cons_succ, List.getElem?_cons_zero, Tch.free, and_true, true_and]; first | done | omega)) (by simp only [pt8, pt0, pt1, pt2, pt3, pt4, pt5, pt6, pt7]; rfl) ?_)
      | (refine WT.bigN rfl rfl (by intro; simp (disch := first | omega | (simp only [hA.len])) only [go_sem, zeros, Zz.cut, List.append_assoc, List.length_append, Nat.reduceAdd, Nat.reduceMul, Nat.reduceSub, Nat.reduceLeDiff, Nat.reduceEqDiff, Int.reduceNeg, Int.reduceAdd, Int.reduceToNat, reduceIte, reduceCtorEq, hA.len, hA.look, hA.set, lk0, lk1, st0, st1, lkr20, str20, lkr21, str21, cut4, Nat.mul_one, hl.at]; rfl) (by simp (disch := first | omega | (simp only [hA.len])) only [go_sem, zeros, Zz.cut, List.append_assoc, List.length_append, Nat.reduceAdd, Nat.reduceMul, Nat.reduceSub, Nat.reduceLeDiff, Nat.reduceEqDiff, Int.reduceNeg, Int.reduceAdd, Int.reduceToNat, reduceIte, reduceCtorEq, hA.len, hA.look, hA.set, lk0, lk1, st0, st1, lkr20, str20, lkr21, str21, cut4, Nat.mul_one, hl.at, touch]; rfl) (by first | exact .inl rfl | exact .inr (apart_nil _) | (right; apply apart_mk; simp only [apartL, List.nil_append, List.cons_append, List.getElem?_cons_succ, List.getElem?_cons_zero, Tch.free, and_true, true_and]; first | done | omega)) ?_)
      | (refine WC.yes rfl ?_)
      | (refine WC.no rfl ?_)
      | (refine WC.skip ?_)
      | (refine WC.exit ?_)
      | (refine WC.ret ?_)
      | (refine WC.block ?_)
      | (refine WT.em2 rfl (by intro hp; simp only [hp, decide_true]; rfl) (by intro hp; simp only [hp, decide_false]; rfl) (fun hp => ?_) (fun hp => ?_) <;> try (exfalso; first | omega | contradiction))
      | (refine WO.em2 rfl (by intro hp; simp only [hp, decide_true]; rfl) (by intro hp; simp only [hp, decide_false]; rfl) (fun hp => ?_) (fun hp => ?_) <;> try (exfalso; first | omega | contradiction))
      | (refine WC.em2 rfl (fun hp => ?_) (fun hp => ?_) <;> try (exfalso; first | omega | contradiction)))
    all_goals (try (exfalso; omega))
    have ep : passTo rs p (i + 1) = stepL (stepL (passTo rs p i) ⟨(i : Int) + 1, (nth rs i).a.toNat, (nth rs i).b.toNat, (nth rs i).hi⟩) ⟨0 - (i : Int) - 1, (nth rs i).b.toNat, (nth rs i).a.toNat, 0 - (nth rs i).lo⟩ := by simp only [passTo, eOf_pos, eOf_neg]
    exact ⟨m - 1, by omega, _, _, i + 1, congrArg (fun q => (St.mk _ (A q.1 ++ some ⟨0, [.pref id 0 0]⟩ :: some ⟨0, [.int .i64 q.2]⟩ :: _) L)) ep.symm, rfl, rfl, rfl, rfl, rfl, by omega⟩
  · have hi' : i = rs.length := by omega
    subst hi'
    repeat' (first
      | (refine WO.yes rfl ?_)
      | (refine WO.noE rfl (by simp only [pt8, pt0, pt1, pt2, pt3, pt4, pt5, pt6, pt7]; rfl) ?_)
      | (refine WO.opE (by intro; simp (disch := first | omega | (simp only [hA.len])) only [go_sem, zeros, Zz.cut, List.append_assoc, List.length_append, Nat.reduceAdd, Nat.reduceMul, Nat.reduceSub, Nat.reduceLeDiff, Nat.reduceEqDiff, Int.reduceNeg, Int.reduceAdd, Int.reduceToNat, reduceIte, reduceCtorEq, hA.len, hA.look, hA.set, lk0, lk1, st0, st1, lkr20, str20, lkr21, str21, cut4, Nat.mul_one, hl.at]; rfl) (by simp only [pt8, pt0, pt1, pt2, pt3, pt4, pt5, pt6, pt7]; rfl) ?_)
      | (refine WO.opN (by intro; simp (disch := first | omega | (simp only [hA.len])) only [go_sem, zeros, Zz.cut, List.append_assoc, List.length_append, Nat.reduceAdd, Nat.reduceMul, Nat.reduceSub, Nat.reduceLeDiff, Nat.reduceEqDiff, Int.reduceNeg, Int.reduceAdd, Int.reduceToNat, reduceIte, reduceCtorEq, hA.len, hA.look, hA.set, lk0, lk1, st0, st1, lkr20, str20, lkr21, str21, cut4, Nat.mul_one, hl.at]; rfl) ?_)
      | (refine WO.opE (by intro; exact ev_lenS (by simp only [go_sem]; first | rfl | assumption)) (by simp only [pt8, pt0, pt1, pt2, pt3, pt4, pt5, pt6, pt7]; rfl) ?_)
      | (refine WC.seq ?_)
      | (refine WC.region ?_)
      | (refine WO.nil ?_)
      | (simp only [fl1, fl2, fl3, fl4, fl5, fl6, fl7, fl8, fl9, fl10, Nat.reduceBEq])
      | (refine WC.calm rfl ?_)
      | (refine WC.drawT ?_)
      | (refine WT.nil ?_)
      | (refine WT.yes rfl ?_)
      | (refine WT.no rfl (by simp only [pt8, pt0, pt1, pt2, pt3, pt4, pt5, pt6, pt7]; rfl) ?_)
      | (refine WT.free rfl (by intro; simp (disch := first | omega | (simp only [hA.len])) only [go_sem, zeros, Zz.cut, List.append_assoc, List.length_append, Nat.reduceAdd, Nat.reduceMul, Nat.reduceSub, Nat.reduceLeDiff, Nat.reduceEqDiff, Int.reduceNeg, Int.reduceAdd, Int.reduceToNat, reduceIte, reduceCtorEq, hA.len, hA.look, hA.set, lk0, lk1, st0, st1, lkr20, str20, lkr21, str21, cut4, Nat.mul_one, hl.at]; rfl) rfl (by simp only [pt8, pt0, pt1, pt2, pt3, pt4, pt5, pt6, pt7]; rfl) ?_)
      | (refine WT.big rfl rfl (by intro; simp (disch := first | omega | (simp only [hA.len])) only [go_sem, zeros, Zz.cut, List.append_assoc, List.length_append, Nat.reduceAdd, Nat.reduceMul, Nat.reduceSub, Nat.reduceLeDiff, Nat.reduceEqDiff, Int.reduceNeg, Int.reduceAdd, Int.reduceToNat, reduceIte, reduceCtorEq, hA.len, hA.look, hA.set, lk0, lk1, st0, st1, lkr20, str20, lkr21, str21, cut4, Nat.mul_one, hl.at]; rfl) (by simp (disch := first | omega | (simp only [hA.len])) only [go_sem, zeros, Zz.cut, List.append_assoc, List.length_append, Nat.reduceAdd, Nat.reduceMul, Nat.reduceSub, Nat.reduceLeDiff, Nat.reduceEqDiff, Int.reduceNeg, Int.reduceAdd, Int.reduceToNat, reduceIte, reduceCtorEq, hA.len, hA.look, hA.set, lk0, lk1, st0, st1, lkr20, str20, lkr21, str21, cut4, Nat.mul_one, hl.at, touch]; rfl) (by first | exact .inl rfl | exact .inr (apart_nil _) | (right; apply apart_mk; simp only [apartL, List.nil_append, List.cons_append, List.getElem?_cons_succ, List.getElem?_cons_zero, Tch.free, and_true, true_and]; first | done | omega)) (by simp only [pt8, pt0, pt1, pt2, pt3, pt4, pt5, pt6, pt7]; rfl) ?_)
      | (refine WT.bigN rfl rfl (by intro; simp (disch := first | omega | (simp only [hA.len])) only [go_sem, zeros, Zz.cut, List.append_assoc, List.length_append, Nat.reduceAdd, Nat.reduceMul, Nat.reduceSub, Nat.reduceLeDiff, Nat.reduceEqDiff, Int.reduceNeg, Int.reduceAdd, Int.reduceToNat, reduceIte, reduceCtorEq, hA.len, hA.look, hA.set, lk0, lk1, st0, st1, lkr20, str20, lkr21, str21, cut4, Nat.mul_one, hl.at]; rfl) (by simp (disch := first | omega | (simp only [hA.len])) only [go_sem, zeros, Zz.cut, List.append_assoc, List.length_append, Nat.reduceAdd, Nat.reduceMul, Nat.reduceSub, Nat.reduceLeDiff, Nat.reduceEqDiff, Int.reduceNeg, Int.reduceAdd, Int.reduceToNat, reduceIte, reduceCtorEq, hA.len, hA.look, hA.set, lk0, lk1, st0, st1, lkr20, str20, lkr21, str21, cut4, Nat.mul_one, hl.at, touch]; rfl) (by first | exact .inl rfl | exact .inr (apart_nil _) | (right; apply apart_mk; simp only [apartL, List.nil_append, List.cons_append, List.getElem?_cons_succ, List.getElem?_cons_zero, Tch.free, and_true, true_and]; first | done | omega)) ?_)
      | (refine WC.yes rfl ?_)
      | (refine WC.no rfl ?_)
      | (refine WC.skip ?_)
      | (refine WC.exit ?_)
      | (refine WC.ret ?_)
      | (refine WC.block ?_)
      | (refine WT.em2 rfl (by intro hp; simp only [hp, decide_true]; rfl) (by intro hp; simp only [hp, decide_false]; rfl) (fun hp => ?_) (fun hp => ?_) <;> try (exfalso; first | omega | contradiction))
      | (refine WO.em2 rfl (by intro hp; simp only [hp, decide_true]; rfl) (by intro hp; simp only [hp, decide_false]; rfl) (fun hp => ?_) (fun hp => ?_) <;> try (exfalso; first | omega | contradiction))
      | (refine WC.em2 rfl (fun hp => ?_) (fun hp => ?_) <;> try (exfalso; first | omega | contradiction)))
    all_goals (try (exfalso; omega))
    exact ⟨_, rfl, _, rfl⟩
end Go.Proofs.Ytndaljjljmmlcaa

set_option linter.unusedSimpArgs false
set_option linter.unusedVariables false
namespace Go.Proofs.Ytndaljjljmmlcaa
open Go.Zz


/-- Rounds. -/
def rd (rs : List Rg) (x : Bf.S) : Nat → Bf.S × Int
  | 0 => (x, -1)
  | r + 1 => passTo rs ((rd rs x r).1, -1) rs.length

theorem Bnd.rd {n : Int} {rs : List Rg} (hv : VL n rs) {x : Bf.S} (h : Bnd 0 x) : ∀ r : Nat, Bnd (r * 40000000000000000) (rd rs x r).1
  | 0 => by simpa [Go.Proofs.Ytndaljjljmmlcaa.rd] using h
  | r + 1 => by
    have ih := Bnd.rd hv h r
    have := Bnd.pass hv (p := ((Go.Proofs.Ytndaljjljmmlcaa.rd rs x r).1, -1)) ih rs.length (Nat.le_refl _)
    intro v
    have hl := hv.2.2.1
    have h2 := this v
    show _ ≤ (passTo rs ((Go.Proofs.Ytndaljjljmmlcaa.rd rs x r).1, -1) rs.length).1.far v ∧ _
    simp only [Go.Proofs.Ytndaljjljmmlcaa.rd]
    omega

/-- What settle does. -/
theorem f36 {A : Bf.S → Hp} {id N : Nat} (hA : Tbl A id N) {n : Int} {rs : List Rg} (hv : VL n rs) {l : AV} (hl : RdL l rs) {x : Bf.S} (hx : Bnd 0 x) {L : List (Option ALoop)} :
    WF E9 (.func 36 [] []) [.pref id 0 0, .int .i64 n, l] ⟨A x, L⟩ fun v m' => ∃ (r : Nat) (R : Hp) (L' : List (Option ALoop)), (r : Int) ≤ n + 1 ∧ v = .int .i64 (rd rs x (r + 1)).2 ∧ m' = ⟨A (rd rs x (r + 1)).1 ++ R, L'⟩ ∧ ((rd rs x (r + 1)).2 < 0 ∨ (r : Int) = n + 1) := by
  have hn1 := hv.1
  have hn2 := hv.2.1
  have hcell := SL.cells hl
  refine WF.fnE rfl (fn_of Try.func36 cir36) (by show 3 ≤ 86; decide) ?_
  unfold ir36
  simp only [padTo, List.replicate, List.nil_append, List.append_nil, List.cons_append]
  refine WC.seq (WC.region ?_)
  repeat' (first
    | (refine WO.yes rfl ?_)
    | (refine WO.noE rfl (by simp only [pt8, pt0, pt1, pt2, pt3, pt4, pt5, pt6, pt7]; rfl) ?_)
    | (refine WO.opE (by intro; simp (disch := first | omega | (simp only [hA.len])) only [go_sem, zeros, Zz.cut, List.append_assoc, List.length_append, Nat.reduceAdd, Nat.reduceMul, Nat.reduceSub, Nat.reduceLeDiff, Nat.reduceEqDiff, Int.reduceNeg, Int.reduceAdd, Int.reduceToNat, reduceIte, reduceCtorEq, hA.len, hA.look, hA.set, lk0, lk1, st0, st1, lkr20, str20, lkr21, str21, Nat.mul_one]; rfl) (by simp only [pt8, pt0, pt1, pt2, pt3, pt4, pt5, pt6, pt7]; rfl) ?_)
    | (refine WO.opN (by intro; simp (disch := first | omega | (simp only [hA.len])) only [go_sem, zeros, Zz.cut, List.append_assoc, List.length_append, Nat.reduceAdd, Nat.reduceMul, Nat.reduceSub, Nat.reduceLeDiff, Nat.reduceEqDiff, Int.reduceNeg, Int.reduceAdd, Int.reduceToNat, reduceIte, reduceCtorEq, hA.len, hA.look, hA.set, lk0, lk1, st0, st1, lkr20, str20, lkr21, str21, Nat.mul_one]; rfl) ?_)
    | (refine WO.opE (by intro; exact ev_lenS (by simp only [go_sem]; first | rfl | assumption)) (by simp only [pt8, pt0, pt1, pt2, pt3, pt4, pt5, pt6, pt7]; rfl) ?_)
    | (refine WC.seq ?_)
    | (refine WC.region ?_)
    | (refine WO.nil ?_)
    | (simp only [fl1, fl2, fl3, fl4, fl5, fl6, fl7, fl8, fl9, fl10, Nat.reduceBEq])
    | (refine WC.calm rfl ?_)
    | (refine WC.drawT ?_)
    | (refine WT.nil ?_)
    | (refine WT.yes rfl ?_)
    | (refine WT.no rfl (by simp only [pt8, pt0, pt1, pt2, pt3, pt4, pt5, pt6, pt7]; rfl) ?_)
    | (refine WT.free rfl (by intro; simp (disch := first | omega | (simp only [hA.len])) only [go_sem, zeros, Zz.cut, List.append_assoc, List.length_append, Nat.reduceAdd, Nat.reduceMul, Nat.reduceSub, Nat.reduceLeDiff, Nat.reduceEqDiff, Int.reduceNeg, Int.reduceAdd, Int.reduceToNat, reduceIte, reduceCtorEq, hA.len, hA.look, hA.set, lk0, lk1, st0, st1, lkr20, str20, lkr21, str21, Nat.mul_one]; rfl) rfl (by simp only [pt8, pt0, pt1, pt2, pt3, pt4, pt5, pt6, pt7]; rfl) ?_)
    | (refine WT.big rfl rfl (by intro; simp (disch := first | omega | (simp only [hA.len])) only [go_sem, zeros, Zz.cut, List.append_assoc, List.length_append, Nat.reduceAdd, Nat.reduceMul, Nat.reduceSub, Nat.reduceLeDiff, Nat.reduceEqDiff, Int.reduceNeg, Int.reduceAdd, Int.reduceToNat, reduceIte, reduceCtorEq, hA.len, hA.look, hA.set, lk0, lk1, st0, st1, lkr20, str20, lkr21, str21, Nat.mul_one]; rfl) (by simp (disch := first | omega | (simp only [hA.len])) only [go_sem, zeros, Zz.cut, List.append_assoc, List.length_append, Nat.reduceAdd, Nat.reduceMul, Nat.reduceSub, Nat.reduceLeDiff, Nat.reduceEqDiff, Int.reduceNeg, Int.reduceAdd, Int.reduceToNat, reduceIte, reduceCtorEq, hA.len, hA.look, hA.set, lk0, lk1, st0, st1, lkr20, str20, lkr21, str21, Nat.mul_one, touch]; rfl) (by first | exact .inl rfl | exact .inr (apart_nil _) | (right; apply apart_mk; simp only [apartL, List.nil_append, List.cons_append, List.getElem?_cons_succ, List.getElem?_cons_zero, Tch.free, and_true, true_and]; first | done | omega)) (by simp only [pt8, pt0, pt1, pt2, pt3, pt4, pt5, pt6, pt7]; rfl) ?_)
    | (refine WT.bigN rfl rfl (by intro; simp (disch := first | omega | (simp only [hA.len])) only [go_sem, zeros, Zz.cut, List.append_assoc, List.length_append, Nat.reduceAdd, Nat.reduceMul, Nat.reduceSub, Nat.reduceLeDiff, Nat.reduceEqDiff, Int.reduceNeg, Int.reduceAdd, Int.reduceToNat, reduceIte, reduceCtorEq, hA.len, hA.look, hA.set, lk0, lk1, st0, st1, lkr20, str20, lkr21, str21, Nat.mul_one]; rfl) (by simp (disch := first | omega | (simp only [hA.len])) only [go_sem, zeros, Zz.cut, List.append_assoc, List.length_append, Nat.reduceAdd, Nat.reduceMul, Nat.reduceSub, Nat.reduceLeDiff, Nat.reduceEqDiff, Int.reduceNeg, Int.reduceAdd, Int.reduceToNat, reduceIte, reduceCtorEq, hA.len, hA.look, hA.set, lk0, lk1, st0, st1, lkr20, str20, lkr21, str21, Nat.mul_one, touch]; rfl) (by first | exact .inl rfl | exact .inr (apart_nil _) | (right; apply apart_mk; simp only [apartL, List.nil_append, List.cons_append, List.getElem?_cons_succ, List.getElem?_cons_zero, Tch.free, and_true, true_and]; first | done | omega)) ?_)
    | (refine WC.yes rfl ?_)
    | (refine WC.no rfl ?_)
    | (refine WC.skip ?_)
    | (refine WC.exit ?_)
    | (refine WC.ret ?_)
    | (refine WC.block ?_)
    | (refine WT.em2 rfl (by intro hp; simp only [hp, decide_true]; rfl) (by intro hp; simp only [hp, decide_false]; rfl) (fun hp => ?_) (fun hp => ?_) <;> try (exfalso; first | omega | contradiction))
    | (refine WO.em2 rfl (by intro hp; simp only [hp, decide_true]; rfl) (by intro hp; simp only [hp, decide_false]; rfl) (fun hp => ?_) (fun hp => ?_) <;> try (exfalso; first | omega | contradiction))
    | (refine WC.em2 rfl (fun hp => ?_) (fun hp => ?_) <;> try (exfalso; first | omega | contradiction)))
  refine WC.loopI (fun m s => ∃ T R r last L, s = ⟨T, A (rd rs x r).1 ++ some ⟨0, [.pref id 0 0]⟩ :: some ⟨0, [.int .i64 last]⟩ :: R, L⟩ ∧ T.length = 86 ∧ gt T 0 = .pref id 0 0 ∧ gt T 1 = .int .i64 n ∧ gt T 2 = l ∧ gt T 3 = .pref N 0 0 ∧ gt T 7 = .pref (N + 1) 0 0 ∧ gt T 8 = .int .i64 (r : Nat) ∧ (r : Int) ≤ n + 1 ∧ (m : Int) + r = n + 2) ?_ (n + 2).toNat _ ⟨_, _, 0, _, _, rfl, rfl, rfl, rfl, rfl, rfl, rfl, rfl, by omega, by omega⟩
  clear L
  rintro m _ ⟨T, R, r, last, L, rfl, hT, g0, g1, g2, g3, g7, g8, hr, hm⟩
  obtain ⟨f, rfl⟩ := ex86 hT
  clear hT
  replace g0 : f 0 = .pref id 0 0 := g0
  replace g1 : f 1 = .int .i64 n := g1
  replace g2 : f 2 = l := g2
  replace g3 : f 3 = .pref N 0 0 := g3
  replace g7 : f 7 = .pref (N + 1) 0 0 := g7
  replace g8 : f 8 = .int .i64 (r : Nat) := g8
  simp only [g0, g1, g2, g3, g7, g8]
  repeat' (first
    | (refine WO.yes rfl ?_)
    | (refine WO.noE rfl (by simp only [pt8, pt0, pt1, pt2, pt3, pt4, pt5, pt6, pt7]; rfl) ?_)
    | (refine WO.opE (by intro; simp (disch := first | omega | (simp only [hA.len])) only [go_sem, zeros, Zz.cut, List.append_assoc, List.length_append, Nat.reduceAdd, Nat.reduceMul, Nat.reduceSub, Nat.reduceLeDiff, Nat.reduceEqDiff, Int.reduceNeg, Int.reduceAdd, Int.reduceToNat, reduceIte, reduceCtorEq, hA.len, hA.look, hA.set, lk0, lk1, st0, st1, lkr20, str20, lkr21, str21, Nat.mul_one]; rfl) (by simp only [pt8, pt0, pt1, pt2, pt3, pt4, pt5, pt6, pt7]; rfl) ?_)
    | (refine WO.opN (by intro; simp (disch := first | omega | (simp only [hA.len])) only [go_sem, zeros, Zz.cut, List.append_assoc, List.length_append, Nat.reduceAdd, Nat.reduceMul, Nat.reduceSub, Nat.reduceLeDiff, Nat.reduceEqDiff, Int.reduceNeg, Int.reduceAdd, Int.reduceToNat, reduceIte, reduceCtorEq, hA.len, hA.look, hA.set, lk0, lk1, st0, st1, lkr20, str20, lkr21, str21, Nat.mul_one]; rfl) ?_)
    | (refine WO.opE (by intro; exact ev_lenS (by simp only [go_sem]; first | rfl | assumption)) (by simp only [pt8, pt0, pt1, pt2, pt3, pt4, pt5, pt6, pt7]; rfl) ?_)
    | (refine WC.seq ?_)
    | (refine WC.region ?_)
    | (refine WO.nil ?_)
    | (simp only [fl1, fl2, fl3, fl4, fl5, fl6, fl7, fl8, fl9, fl10, Nat.reduceBEq])
    | (refine WC.calm rfl ?_)
    | (refine WC.drawT ?_)
    | (refine WT.nil ?_)
    | (refine WT.yes rfl ?_)
    | (refine WT.no rfl (by simp only [pt8, pt0, pt1, pt2, pt3, pt4, pt5, pt6, pt7]; rfl) ?_)
    | (refine WT.free rfl (by intro; simp (disch := first | omega | (simp only [hA.len])) only [go_sem, zeros, Zz.cut, List.append_assoc, List.length_append, Nat.reduceAdd, Nat.reduceMul, Nat.reduceSub, Nat.reduceLeDiff, Nat.reduceEqDiff, Int.reduceNeg, Int.reduceAdd, Int.reduceToNat, reduceIte, reduceCtorEq, hA.len, hA.look, hA.set, lk0, lk1, st0, st1, lkr20, str20, lkr21, str21, Nat.mul_one]; rfl) rfl (by simp only [pt8, pt0, pt1, pt2, pt3, pt4, pt5, pt6, pt7]; rfl) ?_)
    | (refine WT.big rfl rfl (by intro; simp (disch := first | omega | (simp only [hA.len])) only [go_sem, zeros, Zz.cut, List.append_assoc, List.length_append, Nat.reduceAdd, Nat.reduceMul, Nat.reduceSub, Nat.reduceLeDiff, Nat.reduceEqDiff, Int.reduceNeg, Int.reduceAdd, Int.reduceToNat, reduceIte, reduceCtorEq, hA.len, hA.look, hA.set, lk0, lk1, st0, st1, lkr20, str20, lkr21, str21, Nat.mul_one]; rfl) (by simp (disch := first | omega | (simp only [hA.len])) only [go_sem, zeros, Zz.cut, List.append_assoc, List.length_append, Nat.reduceAdd, Nat.reduceMul, Nat.reduceSub, Nat.reduceLeDiff, Nat.reduceEqDiff, Int.reduceNeg, Int.reduceAdd, Int.reduceToNat, reduceIte, reduceCtorEq, hA.len, hA.look, hA.set, lk0, lk1, st0, st1, lkr20, str20, lkr21, str21, Nat.mul_one, touch]; rfl) (by first | exact .inl rfl | exact .inr (apart_nil _) | (right; apply apart_mk; simp only [apartL, List.nil_append, List.cons_append, List.getElem?_cons_succ, List.getElem?_cons_zero, Tch.free, and_true, true_and]; first | done | omega)) (by simp only [pt8, pt0, pt1, pt2, pt3, pt4, pt5, pt6, pt7]; rfl) ?_)
    | (refine WT.bigN rfl rfl (by intro; simp (disch := first | omega | (simp only [hA.len])) only [go_sem, zeros, Zz.cut, List.append_assoc, List.length_append, Nat.reduceAdd, Nat.reduceMul, Nat.reduceSub, Nat.reduceLeDiff, Nat.reduceEqDiff, Int.reduceNeg, Int.reduceAdd, Int.reduceToNat, reduceIte, reduceCtorEq, hA.len, hA.look, hA.set, lk0, lk1, st0, st1, lkr20, str20, lkr21, str21, Nat.mul_one]; rfl) (by simp (disch := first | omega | (simp only [hA.len])) only [go_sem, zeros, Zz.cut, List.append_assoc, List.length_append, Nat.reduceAdd, Nat.reduceMul, Nat.reduceSub, Nat.reduceLeDiff, Nat.reduceEqDiff, Int.reduceNeg, Int.reduceAdd, Int.reduceToNat, reduceIte, reduceCtorEq, hA.len, hA.look, hA.set, lk0, lk1, st0, st1, lkr20, str20, lkr21, str21, Nat.mul_one, touch]; rfl) (by first | exact .inl rfl | exact .inr (apart_nil _) | (right; apply apart_mk; simp only [apartL, List.nil_append, List.cons_append, List.getElem?_cons_succ, List.getElem?_cons_zero, Tch.free, and_true, true_and]; first | done | omega)) ?_)
    | (refine WC.yes rfl ?_)
    | (refine WC.no rfl ?_)
    | (refine WC.skip ?_)
    | (refine WC.exit ?_)
    | (refine WC.ret ?_)
    | (refine WC.block ?_)
    | (refine WT.em2 rfl (by intro hp; simp only [hp, decide_true]; rfl) (by intro hp; simp only [hp, decide_false]; rfl) (fun hp => ?_) (fun hp => ?_) <;> try (exfalso; first | omega | contradiction))
    | (refine WO.em2 rfl (by intro hp; simp only [hp, decide_true]; rfl) (by intro hp; simp only [hp, decide_false]; rfl) (fun hp => ?_) (fun hp => ?_) <;> try (exfalso; first | omega | contradiction))
    | (refine WC.em2 rfl (fun hp => ?_) (fun hp => ?_) <;> try (exfalso; first | omega | contradiction)))
  refine WO.callE rfl rfl (f40 (Γ := E9) rfl (fn_of Try.func40 cir40) hcell) (by simp only [pt8, pt0, pt1, pt2, pt3, pt4, pt5, pt6, pt7]; rfl) ?_
  simp only [List.length_append, List.length_cons, hA.len, List.append_assoc, List.cons_append]
  repeat' (first
    | (refine WO.yes rfl ?_)
    | (refine WO.noE rfl (by simp only [pt8, pt0, pt1, pt2, pt3, pt4, pt5, pt6, pt7]; rfl) ?_)
    | (refine WO.opE (by intro; simp (disch := first | omega | (simp only [hA.len])) only [go_sem, zeros, Zz.cut, List.append_assoc, List.length_append, Nat.reduceAdd, Nat.reduceMul, Nat.reduceSub, Nat.reduceLeDiff, Nat.reduceEqDiff, Int.reduceNeg, Int.reduceAdd, Int.reduceToNat, reduceIte, reduceCtorEq, hA.len, hA.look, hA.set, lk0, lk1, st0, st1, lkr20, str20, lkr21, str21, Nat.mul_one]; rfl) (by simp only [pt8, pt0, pt1, pt2, pt3, pt4, pt5, pt6, pt7]; rfl) ?_)
    | (refine WO.opN (by intro; simp (disch := first | omega | (simp only [hA.len])) only [go_sem, zeros, Zz.cut, List.append_assoc, List.length_append, Nat.reduceAdd, Nat.reduceMul, Nat.reduceSub, Nat.reduceLeDiff, Nat.reduceEqDiff, Int.reduceNeg, Int.reduceAdd, Int.reduceToNat, reduceIte, reduceCtorEq, hA.len, hA.look, hA.set, lk0, lk1, st0, st1, lkr20, str20, lkr21, str21, Nat.mul_one]; rfl) ?_)
    | (refine WO.opE (by intro; exact ev_lenS (by simp only [go_sem]; first | rfl | assumption)) (by simp only [pt8, pt0, pt1, pt2, pt3, pt4, pt5, pt6, pt7]; rfl) ?_)
    | (refine WC.seq ?_)
    | (refine WC.region ?_)
    | (refine WO.nil ?_)
    | (simp only [fl1, fl2, fl3, fl4, fl5, fl6, fl7, fl8, fl9, fl10, Nat.reduceBEq])
    | (refine WC.calm rfl ?_)
    | (refine WC.drawT ?_)
    | (refine WT.nil ?_)
    | (refine WT.yes rfl ?_)
    | (refine WT.no rfl (by simp only [pt8, pt0, pt1, pt2, pt3, pt4, pt5, pt6, pt7]; rfl) ?_)
    | (refine WT.free rfl (by intro; simp (disch := first | omega | (simp only [hA.len])) only [go_sem, zeros, Zz.cut, List.append_assoc, List.length_append, Nat.reduceAdd, Nat.reduceMul, Nat.reduceSub, Nat.reduceLeDiff, Nat.reduceEqDiff, Int.reduceNeg, Int.reduceAdd, Int.reduceToNat, reduceIte, reduceCtorEq, hA.len, hA.look, hA.set, lk0, lk1, st0, st1, lkr20, str20, lkr21, str21, Nat.mul_one]; rfl) rfl (by simp only [pt8, pt0, pt1, pt2, pt3, pt4, pt5, pt6, pt7]; rfl) ?_)
    | (refine WT.big rfl rfl (by intro; simp (disch := first | omega | (simp only [hA.len])) only [go_sem, zeros, Zz.cut, List.append_assoc, List.length_append, Nat.reduceAdd, Nat.reduceMul, Nat.reduceSub, Nat.reduceLeDiff, Nat.reduceEqDiff, Int.reduceNeg, Int.reduceAdd, Int.reduceToNat, reduceIte, reduceCtorEq, hA.len, hA.look, hA.set, lk0, lk1, st0, st1, lkr20, str20, lkr21, str21, Nat.mul_one]; rfl) (by simp (disch := first | omega | (simp only [hA.len])) only [go_sem, zeros, Zz.cut, List.append_assoc, List.length_append, Nat.reduceAdd, Nat.reduceMul, Nat.reduceSub, Nat.reduceLeDiff, Nat.reduceEqDiff, Int.reduceNeg, Int.reduceAdd, Int.reduceToNat, reduceIte, reduceCtorEq, hA.len, hA.look, hA.set, lk0, lk1, st0, st1, lkr20, str20, lkr21, str21, Nat.mul_one, touch]; rfl) (by first | exact .inl rfl | exact .inr (apart_nil _) | (right; apply apart_mk; simp only [apartL, List.nil_append, List.cons_append, List.getElem?_cons_succ, List.getElem?_cons_zero, Tch.free, and_true, true_and]; first | done | omega)) (by simp only [pt8, pt0, pt1, pt2, pt3, pt4, pt5, pt6, pt7]; rfl) ?_)
    | (refine WT.bigN rfl rfl (by intro; simp (disch := first | omega | (simp only [hA.len])) only [go_sem, zeros, Zz.cut, List.append_assoc, List.length_append, Nat.reduceAdd, Nat.reduceMul, Nat.reduceSub, Nat.reduceLeDiff, Nat.reduceEqDiff, Int.reduceNeg, Int.reduceAdd, Int.reduceToNat, reduceIte, reduceCtorEq, hA.len, hA.look, hA.set, lk0, lk1, st0, st1, lkr20, str20, lkr21, str21, Nat.mul_one]; rfl) (by simp (disch := first | omega | (simp only [hA.len])) only [go_sem, zeros, Zz.cut, List.append_assoc, List.length_append, Nat.reduceAdd, Nat.reduceMul, Nat.reduceSub, Nat.reduceLeDiff, Nat.reduceEqDiff, Int.reduceNeg, Int.reduceAdd, Int.reduceToNat, reduceIte, reduceCtorEq, hA.len, hA.look, hA.set, lk0, lk1, st0, st1, lkr20, str20, lkr21, str21, Nat.mul_one, touch]; rfl) (by first | exact .inl rfl | exact .inr (apart_nil _) | (right; apply apart_mk; simp only [apartL, List.nil_append, List.cons_append, List.getElem?_cons_succ, List.getElem?_cons_zero, Tch.free, and_true, true_and]; first | done | omega)) ?_)
    | (refine WC.yes rfl ?_)
    | (refine WC.no rfl ?_)
    | (refine WC.skip ?_)
    | (refine WC.exit ?_)
    | (refine WC.ret ?_)
    | (refine WC.block ?_)
    | (refine WT.em2 rfl (by intro hp; simp only [hp, decide_true]; rfl) (by intro hp; simp only [hp, decide_false]; rfl) (fun hp => ?_) (fun hp => ?_) <;> try (exfalso; first | omega | contradiction))
    | (refine WO.em2 rfl (by intro hp; simp only [hp, decide_true]; rfl) (by intro hp; simp only [hp, decide_false]; rfl) (fun hp => ?_) (fun hp => ?_) <;> try (exfalso; first | omega | contradiction))
    | (refine WC.em2 rfl (fun hp => ?_) (fun hp => ?_) <;> try (exfalso; first | omega | contradiction)))
  have hb : Bnd 8000000000000000000 (rd rs x r).1 := fun v => by have := Bnd.rd hv hx r v; omega
  refine WC.rangeFuncN rfl ((f41 hA hv hl (p := ((rd rs x r).1, -1)) (by simp only [List.getElem?_concat_length]; rfl) rfl rfl rfl hb).mono ?_)
  rintro v m' ⟨R2, rfl⟩
  refine ⟨rfl, ?_⟩
  have e : passTo rs ((rd rs x r).1, -1) rs.length = rd rs x (r + 1) := rfl
  rw [e]
  repeat' (first
    | (refine WO.yes rfl ?_)
    | (refine WO.noE rfl (by simp only [pt8, pt0, pt1, pt2, pt3, pt4, pt5, pt6, pt7]; rfl) ?_)
    | (refine WO.opE (by intro; simp (disch := first | omega | (simp only [hA.len])) only [go_sem, zeros, Zz.cut, List.append_assoc, List.length_append, Nat.reduceAdd, Nat.reduceMul, Nat.reduceSub, Nat.reduceLeDiff, Nat.reduceEqDiff, Int.reduceNeg, Int.reduceAdd, Int.reduceToNat, reduceIte, reduceCtorEq, hA.len, hA.look, hA.set, lk0, lk1, st0, st1, lkr20, str20, lkr21, str21, Nat.mul_one]; rfl) (by simp only [pt8, pt0, pt1, pt2, pt3, pt4, pt5, pt6, pt7]; rfl) ?_)
    | (refine WO.opN (by intro; simp (disch := first | omega | (simp only [hA.len])) only [go_sem, zeros, Zz.cut, List.append_assoc, List.length_append, Nat.reduceAdd, Nat.reduceMul, Nat.reduceSub, Nat.reduceLeDiff, Nat.reduceEqDiff, Int.reduceNeg, Int.reduceAdd, Int.reduceToNat, reduceIte, reduceCtorEq, hA.len, hA.look, hA.set, lk0, lk1, st0, st1, lkr20, str20, lkr21, str21, Nat.mul_one]; rfl) ?_)
    | (refine WO.opE (by intro; exact ev_lenS (by simp only [go_sem]; first | rfl | assumption)) (by simp only [pt8, pt0, pt1, pt2, pt3, pt4, pt5, pt6, pt7]; rfl) ?_)
    | (refine WC.seq ?_)
    | (refine WC.region ?_)
    | (refine WO.nil ?_)
    | (simp only [fl1, fl2, fl3, fl4, fl5, fl6, fl7, fl8, fl9, fl10, Nat.reduceBEq])
    | (refine WC.calm rfl ?_)
    | (refine WC.drawT ?_)
    | (refine WT.nil ?_)
    | (refine WT.yes rfl ?_)
    | (refine WT.no rfl (by simp only [pt8, pt0, pt1, pt2, pt3, pt4, pt5, pt6, pt7]; rfl) ?_)
    | (refine WT.free rfl (by intro; simp (disch := first | omega | (simp only [hA.len])) only [go_sem, zeros, Zz.cut, List.append_assoc, List.length_append, Nat.reduceAdd, Nat.reduceMul, Nat.reduceSub, Nat.reduceLeDiff, Nat.reduceEqDiff, Int.reduceNeg, Int.reduceAdd, Int.reduceToNat, reduceIte, reduceCtorEq, hA.len, hA.look, hA.set, lk0, lk1, st0, st1, lkr20, str20, lkr21, str21, Nat.mul_one]; rfl) rfl (by simp only [pt8, pt0, pt1, pt2, pt3, pt4, pt5, pt6, pt7]; rfl) ?_)
    | (refine WT.big rfl rfl (by intro; simp (disch := first | omega | (simp only [hA.len])) only [go_sem, zeros, Zz.cut, List.append_assoc, List.length_append, Nat.reduceAdd, Nat.reduceMul, Nat.reduceSub, Nat.reduceLeDiff, Nat.reduceEqDiff, Int.reduceNeg, Int.reduceAdd, Int.reduceToNat, reduceIte, reduceCtorEq, hA.len, hA.look, hA.set, lk0, lk1, st0, st1, lkr20, str20, lkr21, str21, Nat.mul_one]; rfl) (by simp (disch := first | omega | (simp only [hA.len])) only [go_sem, zeros, Zz.cut, List.append_assoc, List.length_append, Nat.reduceAdd, Nat.reduceMul, Nat.reduceSub, Nat.reduceLeDiff, Nat.reduceEqDiff, Int.reduceNeg, Int.reduceAdd, Int.reduceToNat, reduceIte, reduceCtorEq, hA.len, hA.look, hA.set, lk0, lk1, st0, st1, lkr20, str20, lkr21, str21, Nat.mul_one, touch]; rfl) (by first | exact .inl rfl | exact .inr (apart_nil _) | (right; apply apart_mk; simp only [apartL, List.nil_append, List.cons_append, List.getElem?_cons_succ, List.getElem?_cons_zero, Tch.free, and_true, true_and]; first | done | omega)) (by simp only [pt8, pt0, pt1, pt2, pt3, pt4, pt5, pt6, pt7]; rfl) ?_)
    | (refine WT.bigN rfl rfl (by intro; simp (disch := first | omega | (simp only [hA.len])) only [go_sem, zeros, Zz.cut, List.append_assoc, List.length_append, Nat.reduceAdd, Nat.reduceMul, Nat.reduceSub, Nat.reduceLeDiff, Nat.reduceEqDiff, Int.reduceNeg, Int.reduceAdd, Int.reduceToNat, reduceIte, reduceCtorEq, hA.len, hA.look, hA.set, lk0, lk1, st0, st1, lkr20, str20, lkr21, str21, Nat.mul_one]; rfl) (by simp (disch := first | omega | (simp only [hA.len])) only [go_sem, zeros, Zz.cut, List.append_assoc, List.length_append, Nat.reduceAdd, Nat.reduceMul, Nat.reduceSub, Nat.reduceLeDiff, Nat.reduceEqDiff, Int.reduceNeg, Int.reduceAdd, Int.reduceToNat, reduceIte, reduceCtorEq, hA.len, hA.look, hA.set, lk0, lk1, st0, st1, lkr20, str20, lkr21, str21, Nat.mul_one, touch]; rfl) (by first | exact .inl rfl | exact .inr (apart_nil _) | (right; apply apart_mk; simp only [apartL, List.nil_append, List.cons_append, List.getElem?_cons_succ, List.getElem?_cons_zero, Tch.free, and_true, true_and]; first | done | omega)) ?_)
    | (refine WC.yes rfl ?_)
    | (refine WC.no rfl ?_)
    | (refine WC.skip ?_)
    | (refine WC.exit ?_)
    | (refine WC.ret ?_)
    | (refine WC.block ?_)
    | (refine WT.em2 rfl (by intro hp; simp only [hp, decide_true]; rfl) (by intro hp; simp only [hp, decide_false]; rfl) (fun hp => ?_) (fun hp => ?_) <;> try (exfalso; first | omega | contradiction))
    | (refine WO.em2 rfl (by intro hp; simp only [hp, decide_true]; rfl) (by intro hp; simp only [hp, decide_false]; rfl) (fun hp => ?_) (fun hp => ?_) <;> try (exfalso; first | omega | contradiction))
    | (refine WC.em2 rfl (fun hp => ?_) (fun hp => ?_) <;> try (exfalso; first | omega | contradiction)))
  · exact ⟨_, rfl, r, _, _, hr, rfl, rfl, .inl hp⟩
  · exact ⟨_, rfl, r, _, _, hr, rfl, rfl, .inr (by omega)⟩
  · exact ⟨m - 1, by omega, _, _, r + 1, _, _, rfl, rfl, rfl, rfl, rfl, rfl, rfl, rfl, by omega, by omega⟩
end Go.Proofs.Ytndaljjljmmlcaa

