import Derived.Test.YtjbdefmhjmkifaaDoorL11pb
import Derived.Test.YtjbdefmhjmkifaaDoorAbsI

/-
  Pipes that lie in memory: a cell read, a cell written.
-/
set_option linter.unusedVariables false
namespace Go.Proofs.YtjbdefmhjmkifaaDoor
open Go.Zz

def flat (ps : List Pipe) : List AV := (ps.map Pipe.cells).flatten
theorem cells10 {ps : List Pipe} : ∀ c ∈ ps.map Pipe.cells, c.length = 10 := by
  intro c hc
  obtain ⟨p, _, rfl⟩ := List.mem_map.1 hc
  rfl
theorem flat_length (ps : List Pipe) : (flat ps).length = ps.length * 10 := by
  unfold flat
  rw [flat_len cells10, List.length_map]
theorem flat_split {ps : List Pipe} {i : Nat} (h : i < ps.length) : flat ps = flat (ps.take i) ++ ((nth ps i).cells ++ flat (ps.drop (i + 1))) := by
  have e : ps = ps.take i ++ nth ps i :: ps.drop (i + 1) := by
    rw [nth_lt h, List.getElem_cons_drop, List.take_append_drop]
  conv => lhs; rw [e]
  unfold flat
  rw [List.map_append, List.flatten_append, List.map_cons, List.flatten_cons]
theorem flat_take {ps : List Pipe} {i : Nat} (h : i < ps.length) : (flat (ps.take i)).length = i * 10 := by
  rw [flat_length, List.length_take, Nat.min_eq_left (Nat.le_of_lt h)]
theorem set_split {ps : List Pipe} {i : Nat} (h : i < ps.length) (p : Pipe) : flat (ps.set i p) = flat (ps.take i) ++ (p.cells ++ flat (ps.drop (i + 1))) := by
  have e : ps.set i p = ps.take i ++ p :: ps.drop (i + 1) := by rw [List.set_eq_take_append_cons_drop, if_pos h]
  rw [e]
  unfold flat
  rw [List.map_append, List.flatten_append, List.map_cons, List.flatten_cons]
theorem cut_in {A B : List AV} {n k : Nat} {x : AV} {R C : List AV} (hA : A.length = n) (hB : B = R ++ x :: C) (hR : R.length = k) : cut (A ++ B) (n + k) 1 = some [x] := by
  subst hB hA hR
  unfold cut
  rw [if_pos (by simp; omega)]
  have : (A ++ (R ++ x :: C)).drop (A.length + R.length) = x :: C := by
    rw [← List.append_assoc, ← List.length_append, List.drop_left]
  rw [this]
  rfl
theorem over_in {A B B' : List AV} {n k : Nat} {x y : AV} {R C : List AV} (hA : A.length = n) (hB : B = R ++ x :: C) (hB' : B' = R ++ y :: C) (hR : R.length = k) : over (A ++ B) (n + k) [y] = some (A ++ B') := by
  subst hB hB' hA hR
  unfold over
  rw [if_pos (by simp; omega)]
  have e1 : (A ++ (R ++ x :: C)).take (A.length + R.length) = A ++ R := by
    rw [← List.append_assoc, ← List.length_append, List.take_left]
  have e2 : (A ++ (R ++ x :: C)).drop (A.length + R.length + [y].length) = C := by
    have : A ++ (R ++ x :: C) = (A ++ R ++ [x]) ++ C := by simp
    rw [this, show A.length + R.length + [y].length = (A ++ R ++ [x]).length by simp; omega, List.drop_left]
  rw [e1, e2]
  simp
variable {ps : List Pipe} {i : Nat}
theorem cut_id (h : i < ps.length) : cut (flat ps) (i * 10) 1 = some [.int .i64 (nth ps i).id] := by
  rw [flat_split h]
  exact cut_in (k := 0) (R := []) (flat_take h) rfl rfl
theorem cut_sag (h : i < ps.length) : cut (flat ps) (i * 10 + 8) 1 = some [.int .i64 (nth ps i).sag] := by
  rw [flat_split h]
  exact cut_in (R := (nth ps i).cells.take 8) (flat_take h) rfl rfl
theorem cut_warm (h : i < ps.length) : cut (flat ps) (i * 10 + 9) 1 = some [.int .i64 (nth ps i).warm] := by
  rw [flat_split h]
  exact cut_in (R := (nth ps i).cells.take 9) (flat_take h) rfl rfl
def setSag (ps : List Pipe) (i : Nat) (s : Int) : List Pipe := ps.set i { nth ps i with sag := s }
def setWarm (ps : List Pipe) (i : Nat) (s : Int) : List Pipe := ps.set i { nth ps i with warm := s }
def setWind (ps : List Pipe) (i : Nat) (s : Int) : List Pipe := ps.set i { nth ps i with wind := s }
theorem over_sag (h : i < ps.length) (s : Int) : over (flat ps) (i * 10 + 8) [.int .i64 s] = some (flat (setSag ps i s)) := by
  unfold setSag
  rw [set_split h, flat_split h]
  exact over_in (R := (nth ps i).cells.take 8) (flat_take h) rfl rfl rfl
theorem over_warm (h : i < ps.length) (s : Int) : over (flat ps) (i * 10 + 9) [.int .i64 s] = some (flat (setWarm ps i s)) := by
  unfold setWarm
  rw [set_split h, flat_split h]
  exact over_in (R := (nth ps i).cells.take 9) (flat_take h) rfl rfl rfl
theorem nth_set {p : Pipe} {j : Nat} (h : i < ps.length) : nth (ps.set i p) j = if i = j then p else nth ps j := by
  unfold nth
  rw [List.getD_eq_getElem?_getD, List.getElem?_set, List.getD_eq_getElem?_getD]
  split
  · rfl
  · rfl
theorem app_e {pv : AV} {H : Hp} {L : List (Option ALoop)} {q : Nat} (h1 : Zz.look H q 0 = some []) (hq : PpL pv ps) (hn : 0 < ps.length) (hb : ps.length * 80 ≤ 140737488351232) :
    appendAV 10 80 ⟨H, L⟩ (.sref q 0 0 10 0 (some 0)) pv = some (.sref H.length 0 0 10 ps.length none, ⟨H ++ [some ⟨0, flat ps⟩], L⟩) := by
  have e1 : scells H 10 pv = some (flat ps) := SL.scells hq H
  have e2 : cut ([] : List AV) 0 (0 * 10) = some [] := rfl
  simp only [appendAV, e1, hq.len, Option.bind_eq_bind, Option.bind_some, if_true, h1, e2, Nat.zero_add, if_neg (show ¬ ps.length ≤ 0 by omega), if_pos (show ps.length * 80 ≤ 140737488355328 ∧ ps.length ≤ 140737488355328 by omega), newBlk, List.nil_append]
theorem by_flat {H : Hp} {q : Nat} {sup tol : Int} (h : Zz.look H q 0 = some (flat ps)) : Zz.byVal H (.agg [.sref q 0 0 10 ps.length none, .int .i64 sup, .int .i64 tol]) = some (.agg [.sval false ps.length (flat ps), .int .i64 sup, .int .i64 tol]) := by
  have e1 : cut (flat ps) 0 (ps.length * 10) = some (flat ps) := by
    unfold cut
    rw [if_pos (by rw [flat_length]; omega), ← flat_length]
    simp
  have e2 : (flat ps).all flatAV = true := by
    unfold flat
    rw [List.all_eq_true]
    intro v hv
    obtain ⟨c, hc, hvc⟩ := List.mem_flatten.1 hv
    obtain ⟨p, _, rfl⟩ := List.mem_map.1 hc
    simp only [Pipe.cells, List.mem_cons, List.not_mem_nil, or_false] at hvc
    rcases hvc with rfl | rfl | rfl | rfl | rfl | rfl | rfl | rfl | rfl | rfl <;> rfl
  have e3 : byC H (.sref q 0 0 10 ps.length none) = some (.sval false ps.length (flat ps)) := by
    simp only [Zz.byC, h, e1, e2, if_true]
    rfl
  simp only [Zz.byVal, Zz.byL, e3]
  rfl
theorem flat_ok (ps : List Pipe) : PpL (.sval false ps.length (flat ps)) ps := ⟨cells10, .inr ⟨false, by rw [List.length_map]; rfl⟩⟩
theorem shl_av2 {j : Nat} (hj : j < 16) : binAV .shl (.int .u16 1) (.int .i64 (j : Int)) = some (.int .u16 ((1 <<< j : Nat) : Int)) := by
  match j, hj with
  | 0, _ => rfl
  | 1, _ => rfl
  | 2, _ => rfl
  | 3, _ => rfl
  | 4, _ => rfl
  | 5, _ => rfl
  | 6, _ => rfl
  | 7, _ => rfl
  | 8, _ => rfl
  | 9, _ => rfl
  | 10, _ => rfl
  | 11, _ => rfl
  | 12, _ => rfl
  | 13, _ => rfl
  | 14, _ => rfl
  | 15, _ => rfl
  | n + 16, h => omega
theorem or_lt2 {k j : Nat} (hk : k < 65536) (hj : j < 16) : 1 <<< j < 65536 ∧ k ||| 1 <<< j < 65536 := by
  have h1 : 1 <<< j < 2 ^ 16 := by
    rw [Nat.one_shiftLeft]
    exact Nat.pow_lt_pow_right (by decide) hj
  exact ⟨h1, Nat.or_lt_two_pow (n := 16) hk h1⟩
theorem or_av2 {k j : Nat} (hk : k < 65536) (hj : j < 16) : binAV .or (.int .u16 (k : Int)) (.int .u16 ((1 <<< j : Nat) : Int)) = some (.int .u16 ((k ||| 1 <<< j : Nat) : Int)) := by
  obtain ⟨a, b⟩ := or_lt2 hk hj
  generalize 1 <<< j = l at a b
  show some (AV.int .u16 (IntKind.wrap .u16 ((BitVec.ofInt 16 (k : Int) ||| BitVec.ofInt 16 (l : Int)).toNat : Int))) = _
  have e : (BitVec.ofInt 16 (k : Int) ||| BitVec.ofInt 16 (l : Int)).toNat = k ||| l := by
    rw [BitVec.toNat_or, BitVec.toNat_ofInt, BitVec.toNat_ofInt]
    have h1 : ((k : Int) % ((2 ^ 16 : Nat) : Int)).toNat = k := by omega
    have h2 : ((l : Int) % ((2 ^ 16 : Nat) : Int)).toNat = l := by omega
    rw [h1, h2]
  rw [e, wrap_u16 b]
theorem or_bit2 {k j : Nat} (hk : k < 65536) (hj : j < 16) : bitv ((k ||| 1 <<< j : Nat) : Int) j = 1 := by
  rw [bitv_nat (or_lt2 hk hj).2 hj, Nat.testBit_or, Nat.one_shiftLeft, Nat.testBit_two_pow_self, Bool.or_true]
theorem or_keep {k i j : Nat} (hk : k < 65536) (hi : i < 16) (hj : j < 16) : bitv (((k ||| 1 <<< i) ||| 1 <<< j : Nat) : Int) i = 1 := by
  rw [bitv_nat (or_lt2 (or_lt2 hk hi).2 hj).2 hi, Nat.testBit_or, Nat.testBit_or, Nat.one_shiftLeft, Nat.testBit_two_pow_self, Bool.or_true, Bool.true_or]
theorem s15x {pv iv iv' o' : AV} {ps : List Pipe} {ids : List Int} {sup tol id warm : Int} (hq : PpL pv ps) (hmax : ps.length < 9223372036854775807) (hiv : IntS iv ids) (himax : ids.length < 9223372036854775807) {m : Mem} (h0 : Zz.byVal m.heap o' = some (.agg [pv, .int .i64 sup, .int .i64 tol])) (h : Zz.byVal m.heap iv' = some iv) :
    borrowX E13 15 [o', iv', .int .i64 id, .int .i64 warm] m = some (.tuple [.int .i64 (if setE ps sup tol ids warm = 0 ∧ id ∈ ids then shiftOf (pipeOf ps id) (lacks ps sup ids) warm else 0), .int .i64 (if setE ps sup tol ids warm = 0 then if id ∈ ids then 0 else 4 else setE ps sup tol ids warm)], m) :=
  borrowX_of (byVals_cons h0 (byVals_cons h (byVals_cons rfl (byVals_cons rfl rfl)))) ((f15 hq hmax hiv himax).mono fun y m' h => by rw [h]; rfl)
end Go.Proofs.YtjbdefmhjmkifaaDoor

