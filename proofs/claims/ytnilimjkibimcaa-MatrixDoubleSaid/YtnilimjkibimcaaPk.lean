import Derived.Test.YtnilimjkibimcaaPj
import Derived.Test.YtnilimjkibimcaaND

set_option linter.unusedSimpArgs false
set_option linter.unusedVariables false
namespace Go.Proofs.Ytnilimjkibimcaa
open Go.Zz

def DvM (e : Nat → Nat → Int) (m k : Nat) (g : Int) : Prop := ∀ is js : List Nat, is.length = k → js.length = k → (∀ i ∈ is, i < m) → (∀ j ∈ js, j < 6) → g ∣ minorF e is js
theorem DvM.rows {e : Nat → Nat → Int} {m k : Nat} {g : Int} (h : DvM e m k g) : ∀ {n : Nat} {pre post us : List Nat}, post.length = n → (∀ i ∈ pre, i < m) → (∀ i ∈ post, RowL e m (e i)) → us.length = k → pre.length + n = k → (∀ j ∈ us, j < 6) → g ∣ minorF e (pre ++ post) us
  | 0, pre, post, us, h0, h1, h2, h3, h4, h5 => by
    have : post = [] := List.length_eq_zero_iff.1 h0
    subst this
    rw [List.append_nil]
    exact h pre us (by omega) h3 h1 h5
  | n + 1, pre, [], us, h0, _, _, _, _, _ => by simp at h0
  | n + 1, pre, b :: post, us, h0, h1, h2, h3, h4, h5 => by
    obtain ⟨c, hc⟩ := (h2 b (by simp)).coef
    have e1 := minor_lin (e := e) (D := 1) (b := b) (m := m) (c := c) (a := fun l => l) (post := post) (pre := pre) (us := us) fun j hj => by rw [Int.one_mul]; exact hc j (h5 j hj)
    rw [Int.one_mul] at e1
    rw [e1]
    have key : ∀ t, t ≤ m → g ∣ psumF (fun l => c l * minorF e (pre ++ l :: post) us) t := fun t => by
      induction t with
      | zero => exact fun _ => Int.dvd_zero _
      | succ t ih =>
        intro ht
        refine Int.dvd_add (ih (by omega)) (Int.dvd_mul_of_dvd_right ?_)
        have := DvM.rows h (n := n) (pre := pre ++ [t]) (post := post) (us := us) (by simpa using h0) (fun i hi => by
          rcases List.mem_append.1 hi with hi | hi
          · exact h1 i hi
          · simp at hi; omega) (fun i hi => h2 i (by simp [hi])) h3 (by simp; omega) h5
        simpa using this
    exact key m (Nat.le_refl _)
/-! ### Matrices of one lattice -/
theorem six_ext {A B : List (List Int)} (hl : A.length = B.length) (hA : ∀ r ∈ A, r.length = 6) (hB : ∀ r ∈ B, r.length = 6) (h : ∀ i j, i < A.length → j < 6 → ent A i j = ent B i j) : A = B := by
  apply List.ext_getElem hl
  intro i h1 h2
  have e1 : A[i] = A.getD i [] := by simp [List.getD_eq_getElem?_getD, h1]
  have e2 : B[i] = B.getD i [] := by simp [List.getD_eq_getElem?_getD, h2]
  have r1 := hA _ (List.getElem_mem h1)
  have r2 := hB _ (List.getElem_mem h2)
  refine getD_ext (by omega) fun j hj => ?_
  rw [e1, e2]
  exact h i j h1 (by omega)
def SameL (A B : List (List Int)) : Prop := ∀ g, RowL (ent A) A.length g ↔ RowL (ent B) B.length g
theorem SameL.of {A B : List (List Int)} (h1 : ∀ i, i < A.length → RowL (ent B) B.length (ent A i)) (h2 : ∀ i, i < B.length → RowL (ent A) A.length (ent B i)) : SameL A B := fun g => ⟨fun h => h.mono fun g ⟨k, hk, hg⟩ => by subst hg; exact h1 k hk, fun h => h.mono fun g ⟨k, hk, hg⟩ => by subst hg; exact h2 k hk⟩
theorem HermL.eq {A B H G : List (List Int)} {p q : List Nat} (hA : HermL A H p) (hB : HermL B G q) (h : SameL A B) : H = G := by
  have hs : ∀ g, RowL (ent H) H.length g ↔ RowL (ent G) G.length g := fun g => (hA.sp g).trans ((h g).trans (hB.sp g).symm)
  have l1 := hA.len
  have l2 := hB.len
  obtain ⟨hm, he⟩ := HF.unique hA.hf hB.hf (fun i hi => by rw [← l2]; exact (hs _).1 (Sp.row (by omega))) (fun i hi => by rw [← l1]; exact (hs _).2 (Sp.row (by omega)))
  exact six_ext (by omega) hA.six hB.six fun i j hi hj => (he i (by omega)).2 j hj
theorem KerL.eq {A B H G : List (List Int)} {p q : List Nat} (hA : KerL A H p) (hB : KerL B G q) (h : ∀ y, KerP (ent A) A.length y ↔ KerP (ent B) B.length y) : H = G := by
  have hs : ∀ g, RowL (ent H) H.length g ↔ RowL (ent G) G.length g := fun g => (hA.sp g).trans ((h g).trans (hB.sp g).symm)
  have l1 := hA.len
  have l2 := hB.len
  obtain ⟨hm, he⟩ := HF.unique hA.hf hB.hf (fun i hi => by rw [← l2]; exact (hs _).1 (Sp.row (by omega))) (fun i hi => by rw [← l1]; exact (hs _).2 (Sp.row (by omega)))
  exact six_ext (by omega) hA.six hB.six fun i j hi hj => (he i (by omega)).2 j hj
abbrev Six (rows : List (List Int)) : Prop := ∀ i, i < rows.length → (rw_ rows i).length = 6
theorem rank_herm {rows : List (List Int)} (hv : VM rows) (h6 : Six rows) : rankF rows = (hermF rows).length := by
  rw [(herm_lat hv h6).len, ← (fwd_B hv h6).len]
  rfl
end Go.Proofs.Ytnilimjkibimcaa

