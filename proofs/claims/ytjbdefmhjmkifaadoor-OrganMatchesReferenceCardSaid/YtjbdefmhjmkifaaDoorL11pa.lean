import Derived.Test.YtjbdefmhjmkifaaDoorAbsI
import Derived.Test.YtjbdefmhjmkifaaDoorL11F

/-
  The arguments of this seat's laws; bits of a mask; the weight of a part of a set.
-/
set_option linter.unusedVariables false
namespace Go.Proofs.YtjbdefmhjmkifaaDoor
open Go.Zz

theorem pa_org {x : AV} (h : PA (true, [.slice [.int .i64, .int .i64, .int .i64, .int .i64, .int .i64, .int .i64, .int .i64, .int .i64, .int .i64, .int .i64], .flat (.int .i64), .flat (.int .i64)]) x) (hb : PB [80, 0, 0] x) :
    ∃ pv ps sup tol, x = .agg [pv, .int .i64 sup, .int .i64 tol] ∧ PpL pv ps ∧ ps.length * 80 ≤ 140737488351232 := by
  obtain ⟨l3, rfl, g0⟩ := pa_agg h
  obtain ⟨pv, w1, rfl, q1, g1⟩ := all2_cons g0
  obtain ⟨_, w2, rfl, ⟨sup, rfl, _⟩, g2⟩ := all2_cons g1
  obtain ⟨_, w3, rfl, ⟨tol, rfl, _⟩, g3⟩ := all2_cons g2
  obtain rfl := all2_nil g3
  obtain ⟨cs, hs, hm, hc⟩ := ca_recs q1 (by decide)
  have hex : ∃ ps : List Pipe, cs = ps.map Pipe.cells := by
    clear hs hm
    induction cs with
    | nil => exact ⟨[], rfl⟩
    | cons c cs ih =>
      obtain ⟨rs, rfl⟩ := ih fun c hc' => hc c (List.mem_cons_of_mem _ hc')
      obtain ⟨a0, r1, rfl, ⟨a0, rfl, _⟩, h1⟩ := all2_cons (hc c (by simp))
      obtain ⟨a1, r2, rfl, ⟨a1, rfl, _⟩, h2⟩ := all2_cons h1
      obtain ⟨a2, r3, rfl, ⟨a2, rfl, _⟩, h3⟩ := all2_cons h2
      obtain ⟨a3, r4, rfl, ⟨a3, rfl, _⟩, h4⟩ := all2_cons h3
      obtain ⟨a4, r5, rfl, ⟨a4, rfl, _⟩, h5⟩ := all2_cons h4
      obtain ⟨a5, r6, rfl, ⟨a5, rfl, _⟩, h6⟩ := all2_cons h5
      obtain ⟨a6, r7, rfl, ⟨a6, rfl, _⟩, h7⟩ := all2_cons h6
      obtain ⟨a7, r8, rfl, ⟨a7, rfl, _⟩, h8⟩ := all2_cons h7
      obtain ⟨a8, r9, rfl, ⟨a8, rfl, _⟩, h9⟩ := all2_cons h8
      obtain ⟨a9, r10, rfl, ⟨a9, rfl, _⟩, h10⟩ := all2_cons h9
      obtain rfl := all2_nil h10
      exact ⟨⟨a0, a1, a2, a3, a4, a5, a6, a7, a8, a9⟩ :: rs, rfl⟩
  obtain ⟨ps, rfl⟩ := hex
  have hq : PpL pv ps := hs
  have hw := hb.1 _ hq.len
  exact ⟨pv, ps, sup, tol, rfl, hs, by simpa [reachBytes] using hw⟩

theorem VO.lt {ps : List Pipe} {sup tol : Int} (h : VO ps sup tol) {i j : Nat} (hij : i < j) (hj : j < ps.length) : (nth ps i).id < (nth ps j).id := by
  induction j with
  | zero => omega
  | succ j ih =>
    have h1 := (h.1 (j + 1) hj).1
    unfold lastId at h1
    rw [if_neg (by omega), Nat.add_sub_cancel] at h1
    by_cases e : i = j
    · subst e; exact h1
    · exact Int.lt_trans (ih (by omega) (by omega)) h1
theorem ris_iff {ids : List Int} : Ris ids ↔ ids.Pairwise (· < ·) := by
  constructor
  · intro h
    rw [List.pairwise_iff_getElem]
    intro i j hi hj hij
    induction j with
    | zero => omega
    | succ j ih =>
      have h1 := h j (by omega)
      rw [List.getD_eq_getElem?_getD, List.getD_eq_getElem?_getD, List.getElem?_eq_getElem (by omega), List.getElem?_eq_getElem hj] at h1
      simp only [Option.getD_some] at h1
      by_cases e : i = j
      · subst e; exact h1
      · exact Int.lt_trans (ih (by omega) (by omega)) h1
  · intro h j hj
    rw [List.getD_eq_getElem?_getD, List.getD_eq_getElem?_getD, List.getElem?_eq_getElem (by omega), List.getElem?_eq_getElem (show j + 1 < ids.length by omega)]
    exact List.pairwise_iff_getElem.1 h j (j + 1) (by omega) (by omega) (by omega)
theorem pos_lt {ps : List Pipe} {id : Int} {i : Nat} (hi : i < ps.length) (h : (nth ps i).id = id) : pos ps id < ps.length := by
  unfold pos
  rw [List.findIdx_lt_length]
  exact ⟨ps[i], List.getElem_mem hi, by rw [nth_lt hi] at h; simpa using h⟩
theorem has_iff {ps : List Pipe} {ids : List Int} : Has ps ids ↔ ∀ x ∈ ids, pos ps x < ps.length := by
  constructor
  · intro h x hx
    obtain ⟨i, hi, rfl⟩ := List.getElem_of_mem hx
    have := h i hi
    rwa [List.getD_eq_getElem?_getD, List.getElem?_eq_getElem hi] at this
  · intro h j hj
    rw [List.getD_eq_getElem?_getD, List.getElem?_eq_getElem hj]
    exact h _ (List.getElem_mem hj)
end Go.Proofs.YtjbdefmhjmkifaaDoor

