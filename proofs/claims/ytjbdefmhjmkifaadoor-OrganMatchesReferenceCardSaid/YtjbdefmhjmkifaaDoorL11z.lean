import Derived.Test.YtjbdefmhjmkifaaDoorIr11xc10
import Derived.Test.YtjbdefmhjmkifaaDoorL11y

set_option linter.unusedSimpArgs false
set_option linter.unusedVariables false
namespace Go.Proofs.YtjbdefmhjmkifaaDoor
open Go.Zz
set_option maxRecDepth 100000
set_option maxHeartbeats 4000000
/-! ### Few -/
def fewP (p : Pipe) : Pipe := { p with wind := min p.wind 100 }
def fewL (ps : List Pipe) : List Pipe := (ps.take 10).map fewP
theorem get_of_cut2 {l : List AV} {n : Nat} {x : AV} (h : Zz.cut l n 1 = some [x]) : l[n]? = some x := by
  unfold Zz.cut at h
  split at h
  · have := congrArg (fun o => o.bind fun l => l[0]?) h
    simpa [List.getElem?_take, List.getElem?_drop] using this
  · cases h
theorem few_step {ps : List Pipe} {i : Nat} (h : i < ps.length) : setWind ((ps.take i).map fewP ++ [nth ps i]) i (min (nth ps i).wind 100) = (ps.take (i + 1)).map fewP := by
  have hl : ((ps.take i).map fewP).length = i := by rw [List.length_map, List.length_take, Nat.min_eq_left (Nat.le_of_lt h)]
  have hn : nth ((ps.take i).map fewP ++ [nth ps i]) i = nth ps i := by
    unfold nth
    rw [List.getD_eq_getElem?_getD, List.getElem?_append_right (by omega), hl, Nat.sub_self]
    rfl
  unfold setWind
  rw [hn, List.set_append_right _ _ (by omega), hl, Nat.sub_self, List.take_add_one, List.map_append, List.getElem?_eq_getElem h, ← nth_lt h]
  rfl
theorem gs_pipes {H : Hp} {v : AV} {q : Nat} {qs : List Pipe} (h : GS 10 H v q (flat qs)) : ∃ x, PpL x qs ∧ resC H v = some x := by
  have hl := flat_length qs
  rcases h with ⟨rfl, h1⟩ | ⟨g, rfl, h1, h2⟩ | ⟨g, n, rfl, h1, h2, h3⟩
  · rw [h1] at hl
    have : qs = [] := List.length_eq_zero_iff.1 (by simp at hl; omega)
    subst this
    exact ⟨.snil, ⟨by simp, .inl ⟨rfl, rfl⟩⟩, rfl⟩
  · rw [h1] at hl
    have : qs = [] := List.length_eq_zero_iff.1 (by simp at hl; omega)
    subst this
    refine ⟨.sval true 0 [], ⟨by simp, .inr ⟨true, rfl⟩⟩, ?_⟩
    simp only [Zz.resC, h2]
    rfl
  · have hn : n = qs.length := by omega
    subst hn
    have e := by_flat (sup := 0) (tol := 0) (H := [some ⟨0, flat qs⟩]) (q := 0) (ps := qs) rfl
    have e1 : cut (flat qs) 0 (qs.length * 10) = some (flat qs) := by
      unfold Zz.cut
      rw [if_pos (by rw [flat_length]; omega), ← flat_length]
      simp
    have e2 : (flat qs).all flatAV = true := by
      unfold flat
      rw [List.all_eq_true]
      intro v hv
      obtain ⟨c, hc, hvc⟩ := List.mem_flatten.1 hv
      obtain ⟨p, _, rfl⟩ := List.mem_map.1 hc
      simp only [Pipe.cells, List.mem_cons, List.not_mem_nil, or_false] at hvc
      rcases hvc with rfl | rfl | rfl | rfl | rfl | rfl | rfl | rfl | rfl | rfl <;> rfl
    refine ⟨.sval false qs.length (flat qs), flat_ok qs, ?_⟩
    simp only [Zz.resC, h3, e1, e2, if_true]
    rfl
noncomputable def E40 : Env := E38.put 18 (borrowE E38 18)
end Go.Proofs.YtjbdefmhjmkifaaDoor

