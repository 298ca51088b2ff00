import Derived.Test.YtnilimjkibimcaaPf
set_option linter.unusedSimpArgs false
set_option linter.unusedVariables false

namespace Go.Proofs.Ytnilimjkibimcaa
open Go.Zz
def resE (rows : List (List Int)) (js : List Nat) (k j : Nat) : Int := ent rows k (js.getD j 0)
theorem vecOf_at {rows : List (List Int)} {js : List Nat} {i j : Nat} (h : j < js.length) : (vecOf rows js i).getD j 0 = resE rows js i j := by
  simp [vecOf, resE, List.getD_eq_getElem?_getD, h]
theorem vecM_at {rows : List (List Int)} {js : List Nat} {d : Int} {i j : Nat} (h : j < js.length) : (vecM rows js d i).getD j 0 = resE rows js i j % d := by
  simp [vecM, resE, List.getD_eq_getElem?_getD, h]
theorem addRows_LL {rows : List (List Int)} {js : List Nat} {d : Int} (hd : 0 < d) (hd9 : d ≤ 1000000000) (he : ∀ i, i < rows.length → okE (rw_ rows i)) (hj : okJ js) : ∀ {i : Nat}, i ≤ rows.length → LL js.length d (resE rows js) i (addRows rows js d i)
  | 0, _ => LL.mult hd
  | i + 1, hi => (addRows_LL hd hd9 he hj (i := i) (by omega)).add hd hd9 (vec_VC (he i (by omega)) hj) fun j hj => vecOf_at hj
theorem insRows_LL {rows : List (List Int)} {js : List Nat} {d : Int} (hd : 0 < d) : ∀ {i : Nat}, LL js.length d (fun k j => resE rows js k j % d) i (insRows rows js d i)
  | 0 => LL.mult hd
  | i + 1 => (insRows_LL hd (i := i)).ins hd (vecM_VB hd) fun j hj => vecM_at hj
theorem hermX_HL {rows : List (List Int)} {s : Fr} (h : FrB rows s) (he : ∀ i, i < rows.length → okE (rw_ rows i)) : HL s.js.length (absI s.d) (resE rows s.js) rows.length (hermX rows s) :=
  (addRows_LL h.abs.1 h.abs.2 he h.j (Nat.le_refl _)).red h.abs.1
theorem herm_eq {rows : List (List Int)} {s : Fr} (h : FrB rows s) (he : ∀ i, i < rows.length → okE (rw_ rows i)) : hermX rows s = hermXR rows s := by
  have h1 := hermX_HL h he
  have h2 : HL s.js.length (absI s.d) (fun k j => resE rows s.js k j % absI s.d) rows.length (hermXR rows s) := (insRows_LL h.abs.1).red h.abs.1
  exact h1.eq h2 fun g => (h1.sp g).trans ((LG.iff (fun k _ j _ => by
    obtain ⟨y, hy⟩ := mod_diff (resE rows s.js k j) (absI s.d)
    exact ⟨y, hy⟩) g).trans (h2.sp g).symm)
theorem hermF_eq {rows : List (List Int)} (hv : VM rows) (h6 : ∀ i, i < rows.length → (rw_ rows i).length = 6) : hermF rows = hermFR rows := by
  unfold hermF hermFR
  rw [herm_eq (fwd_B hv h6) hv.2.1]
theorem narA_LL {X : List (List Int)} {c : List Int} {d : Int} {s : Nat} (hd : 0 < d) (hd9 : d ≤ 1000000000) (h : LB X s d) : ∀ {i : Nat}, i ≤ s → LL (s + 1) d (fun k j => (narV X c d s k).getD j 0) i (narA X c d s i)
  | 0, _ => LL.mult hd
  | i + 1, hi => (narA_LL hd hd9 h (i := i) (by omega)).add hd hd9 ((narV_VB hd h (by omega)).toC hd9) fun _ _ => rfl
theorem divA_LL {X : List (List Int)} {c : List Int} {d : Int} {s : Nat} (hd : 0 < d) (h : LB X s d) : ∀ {i : Nat}, i ≤ s → LL (s + 1) d (fun k j => (narV X c d s k).getD j 0) i (divA X c d s i)
  | 0, _ => LL.mult hd
  | i + 1, hi => (divA_LL hd h (i := i) (by omega)).ins hd (narV_VB hd h (by omega)) fun _ _ => rfl
theorem narW_HL {X : List (List Int)} {c : List Int} {d : Int} {s : Nat} (hd : 0 < d) (hd9 : d ≤ 1000000000) (h : LB X s d) : HL (s + 1) d (fun k j => (narV X c d s k).getD j 0) s (narW X c d s) := (narA_LL hd hd9 h (Nat.le_refl _)).red hd
theorem nar_eq {X : List (List Int)} {c : List Int} {d : Int} {s : Nat} (hd : 0 < d) (hd9 : d ≤ 1000000000) (h : LB X s d) : narW X c d s = divW X c d s := by
  have h1 := narW_HL (c := c) hd hd9 h
  have h2 : HL (s + 1) d (fun k j => (narV X c d s k).getD j 0) s (divW X c d s) := (divA_LL hd h (Nat.le_refl _)).red hd
  exact h1.eq h2 fun g => (h1.sp g).trans (h2.sp g).symm
theorem ker_eq {rows : List (List Int)} {S : Fr} (hB : FrB rows S) : ∀ k, kerX rows S k = kerXR rows S k
  | 0 => rfl
  | k + 1 => by
    show behind (narW (kerX rows S k) (tabF rows S k) (absI S.d) (freeF S.js).length) = behind (divW (kerXR rows S k) (tabF rows S k) (absI S.d) (freeF S.js).length)
    rw [← ker_eq hB k, nar_eq hB.abs.1 hB.abs.2 (kerX_LB hB k)]
theorem kerF_eq {rows : List (List Int)} (hv : VM rows) (h6 : ∀ i, i < rows.length → (rw_ rows i).length = 6) : kerF rows = kerFR rows := by
  unfold kerF kerFR
  rw [ker_eq (bwd_B hv h6)]
end Go.Proofs.Ytnilimjkibimcaa

