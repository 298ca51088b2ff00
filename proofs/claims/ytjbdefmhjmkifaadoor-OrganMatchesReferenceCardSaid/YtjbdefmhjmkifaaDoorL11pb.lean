import Derived.Test.YtjbdefmhjmkifaaDoorL11pa

/-
  What a part of a set asks for, and how far it shifts.
-/
set_option linter.unusedVariables false
namespace Go.Proofs.YtjbdefmhjmkifaaDoor
open Go.Zz

theorem ids_setE {ps : List Pipe} {sup tol w : Int} (hv : VO ps sup tol) (hw : -100 ≤ w ∧ w ≤ 100) : setE ps sup tol (idsOf ps) w = 0 := by
  refine setE_ok.2 ⟨hv, hw, ris_iff.2 ?_, has_iff.2 ?_⟩
  · rw [List.pairwise_iff_getElem]
    intro i j hi hj hij
    have hj' : j < ps.length := by unfold idsOf at hj; simpa using hj
    have := hv.lt hij hj'
    rw [nth_lt hj', nth_lt (by omega)] at this
    simpa [idsOf] using this
  · intro x hx
    unfold idsOf at hx
    obtain ⟨p, hp, rfl⟩ := List.mem_map.1 hx
    obtain ⟨i, hi, rfl⟩ := List.getElem_of_mem hp
    exact pos_lt hi (by rw [nth_lt hi])
theorem one_setE {ps : List Pipe} {sup tol w id : Int} (hv : VO ps sup tol) (hw : -100 ≤ w ∧ w ≤ 100) (hp : pos ps id < ps.length) : setE ps sup tol [id] w = 0 := by
  refine setE_ok.2 ⟨hv, hw, ris_iff.2 (by simp), has_iff.2 ?_⟩
  intro x hx
  rw [List.mem_singleton] at hx
  subst hx
  exact hp
end Go.Proofs.YtjbdefmhjmkifaaDoor

