import Derived.Test.YtnilimjkibimcaaPA
import Derived.Test.YtnilimjkibimcaaND
set_option linter.unusedSimpArgs false
set_option linter.unusedVariables false

namespace Go.Proofs.Ytnilimjkibimcaa
open Go.Zz
def DvM (e : Nat → Nat → Int) (m k : Nat) (g : Int) : Prop := ∀ is js : List Nat, is.length = k → js.length = k → (∀ i ∈ is, i < m) → (∀ j ∈ js, j < 6) → g ∣ minorF e is js
theorem six_ext {A B : List (List Int)} (hl : A.length = B.length) (hA : ∀ r ∈ A, r.length = 6) (hB : ∀ r ∈ B, r.length = 6) (h : ∀ i j, i < A.length → j < 6 → ent A i j = ent B i j) : A = B := by
  apply List.ext_getElem hl
  intro i h1 h2
  have e1 : A[i] = A.getD i [] := by simp [List.getD_eq_getElem?_getD, h1]
  have e2 : B[i] = B.getD i [] := by simp [List.getD_eq_getElem?_getD, h2]
  have r1 := hA _ (List.getElem_mem h1)
  have r2 := hB _ (List.getElem_mem h2)
  refine getD_ext (by omega) fun j hj => ?_
  rw [e1, e2]
  exact h i j h1 (by omega)
def SameL (A B : List (List Int)) : Prop := ∀ g, RowL (ent A) A.length g ↔ RowL (ent B) B.length g
theorem HermL.eq {A B H G : List (List Int)} {p q : List Nat} (hA : HermL A H p) (hB : HermL B G q) (h : SameL A B) : H = G := by
  have hs : ∀ g, RowL (ent H) H.length g ↔ RowL (ent G) G.length g := fun g => (hA.sp g).trans ((h g).trans (hB.sp g).symm)
  have l1 := hA.len
  have l2 := hB.len
  obtain ⟨hm, he⟩ := HF.unique hA.hf hB.hf (fun i hi => by rw [← l2]; exact (hs _).1 (Sp.row (by omega))) (fun i hi => by rw [← l1]; exact (hs _).2 (Sp.row (by omega)))
  exact six_ext (by omega) hA.six hB.six fun i j hi hj => (he i (by omega)).2 j hj
abbrev Six (rows : List (List Int)) : Prop := ∀ i, i < rows.length → (rw_ rows i).length = 6
theorem rank_herm {rows : List (List Int)} (hv : VM rows) (h6 : Six rows) : rankF rows = (hermF rows).length := by
  rw [(herm_lat hv h6).len, ← (fwd_B hv h6).len]
  rfl
end Go.Proofs.Ytnilimjkibimcaa

