import Derived.Test.YtjbdefmhjmkifaaDoorL11pb
import Derived.Test.YtjbdefmhjmkifaaDoorAbsI

/-
  Pipes that lie in memory: a cell read, a cell written.
-/
set_option linter.unusedVariables false
namespace Go.Proofs.YtjbdefmhjmkifaaDoor
open Go.Zz

def flat (ps : List Pipe) : List AV := (ps.map Pipe.cells).flatten
theorem cells10 {ps : List Pipe} : ∀ c ∈ ps.map Pipe.cells, c.length = 10 := by
  intro c hc
  obtain ⟨p, _, rfl⟩ := List.mem_map.1 hc
  rfl
theorem flat_length (ps : List Pipe) : (flat ps).length = ps.length * 10 := by
  unfold flat
  rw [flat_len cells10, List.length_map]
theorem flat_split {ps : List Pipe} {i : Nat} (h : i < ps.length) : flat ps = flat (ps.take i) ++ ((nth ps i).cells ++ flat (ps.drop (i + 1))) := by
  have e : ps = ps.take i ++ nth ps i :: ps.drop (i + 1) := by
    rw [nth_lt h, List.getElem_cons_drop, List.take_append_drop]
  conv => lhs; rw [e]
  unfold flat
  rw [List.map_append, List.flatten_append, List.map_cons, List.flatten_cons]
theorem flat_take {ps : List Pipe} {i : Nat} (h : i < ps.length) : (flat (ps.take i)).length = i * 10 := by
  rw [flat_length, List.length_take, Nat.min_eq_left (Nat.le_of_lt h)]
theorem set_split {ps : List Pipe} {i : Nat} (h : i < ps.length) (p : Pipe) : flat (ps.set i p) = flat (ps.take i) ++ (p.cells ++ flat (ps.drop (i + 1))) := by
  have e : ps.set i p = ps.take i ++ p :: ps.drop (i + 1) := by rw [List.set_eq_take_append_cons_drop, if_pos h]
  rw [e]
  unfold flat
  rw [List.map_append, List.flatten_append, List.map_cons, List.flatten_cons]
theorem cut_in {A B : List AV} {n k : Nat} {x : AV} {R C : List AV} (hA : A.length = n) (hB : B = R ++ x :: C) (hR : R.length = k) : cut (A ++ B) (n + k) 1 = some [x] := by
  subst hB hA hR
  unfold cut
  rw [if_pos (by simp; omega)]
  have : (A ++ (R ++ x :: C)).drop (A.length + R.length) = x :: C := by
    rw [← List.append_assoc, ← List.length_append, List.drop_left]
  rw [this]
  rfl
theorem over_in {A B B' : List AV} {n k : Nat} {x y : AV} {R C : List AV} (hA : A.length = n) (hB : B = R ++ x :: C) (hB' : B' = R ++ y :: C) (hR : R.length = k) : over (A ++ B) (n + k) [y] = some (A ++ B') := by
  subst hB hB' hA hR
  unfold over
  rw [if_pos (by simp; omega)]
  have e1 : (A ++ (R ++ x :: C)).take (A.length + R.length) = A ++ R := by
    rw [← List.append_assoc, ← List.length_append, List.take_left]
  have e2 : (A ++ (R ++ x :: C)).drop (A.length + R.length + [y].length) = C := by
    have : A ++ (R ++ x :: C) = (A ++ R ++ [x]) ++ C := by simp
    rw [this, show A.length + R.length + [y].length = (A ++ R ++ [x]).length by simp; omega, List.drop_left]
  rw [e1, e2]
  simp
variable {ps : List Pipe} {i : Nat}
theorem cut_wind (h : i < ps.length) : cut (flat ps) (i * 10 + 7) 1 = some [.int .i64 (nth ps i).wind] := by
  rw [flat_split h]
  exact cut_in (R := (nth ps i).cells.take 7) (flat_take h) rfl rfl
def setSag (ps : List Pipe) (i : Nat) (s : Int) : List Pipe := ps.set i { nth ps i with sag := s }
def setWarm (ps : List Pipe) (i : Nat) (s : Int) : List Pipe := ps.set i { nth ps i with warm := s }
def setWind (ps : List Pipe) (i : Nat) (s : Int) : List Pipe := ps.set i { nth ps i with wind := s }
theorem over_wind (h : i < ps.length) (s : Int) : over (flat ps) (i * 10 + 7) [.int .i64 s] = some (flat (setWind ps i s)) := by
  unfold setWind
  rw [set_split h, flat_split h]
  exact over_in (R := (nth ps i).cells.take 7) (flat_take h) rfl rfl rfl
theorem by_flat {H : Hp} {q : Nat} {sup tol : Int} (h : Zz.look H q 0 = some (flat ps)) : Zz.byVal H (.agg [.sref q 0 0 10 ps.length none, .int .i64 sup, .int .i64 tol]) = some (.agg [.sval false ps.length (flat ps), .int .i64 sup, .int .i64 tol]) := by
  have e1 : cut (flat ps) 0 (ps.length * 10) = some (flat ps) := by
    unfold cut
    rw [if_pos (by rw [flat_length]; omega), ← flat_length]
    simp
  have e2 : (flat ps).all flatAV = true := by
    unfold flat
    rw [List.all_eq_true]
    intro v hv
    obtain ⟨c, hc, hvc⟩ := List.mem_flatten.1 hv
    obtain ⟨p, _, rfl⟩ := List.mem_map.1 hc
    simp only [Pipe.cells, List.mem_cons, List.not_mem_nil, or_false] at hvc
    rcases hvc with rfl | rfl | rfl | rfl | rfl | rfl | rfl | rfl | rfl | rfl <;> rfl
  have e3 : byC H (.sref q 0 0 10 ps.length none) = some (.sval false ps.length (flat ps)) := by
    simp only [Zz.byC, h, e1, e2, if_true]
    rfl
  simp only [Zz.byVal, Zz.byL, e3]
  rfl
theorem flat_ok (ps : List Pipe) : PpL (.sval false ps.length (flat ps)) ps := ⟨cells10, .inr ⟨false, by rw [List.length_map]; rfl⟩⟩
end Go.Proofs.YtjbdefmhjmkifaaDoor

