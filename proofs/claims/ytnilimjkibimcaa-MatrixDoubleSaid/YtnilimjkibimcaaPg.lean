import Derived.Test.YtnilimjkibimcaaPf

set_option linter.unusedSimpArgs false
set_option linter.unusedVariables false
namespace Go.Proofs.Ytnilimjkibimcaa
open Go.Zz

/-! ### Both ways of inserting give one Hermite form -/
def resE (rows : List (List Int)) (js : List Nat) (k j : Nat) : Int := ent rows k (js.getD j 0)
theorem vecOf_at {rows : List (List Int)} {js : List Nat} {i j : Nat} (h : j < js.length) : (vecOf rows js i).getD j 0 = resE rows js i j := by
  simp [vecOf, resE, List.getD_eq_getElem?_getD, h]
theorem addRows_LL {rows : List (List Int)} {js : List Nat} {d : Int} (hd : 0 < d) (hd9 : d ≤ 1000000000) (he : ∀ i, i < rows.length → okE (rw_ rows i)) (hj : okJ js) : ∀ {i : Nat}, i ≤ rows.length → LL js.length d (resE rows js) i (addRows rows js d i)
  | 0, _ => LL.mult hd
  | i + 1, hi => (addRows_LL hd hd9 he hj (i := i) (by omega)).add hd hd9 (vec_VC (he i (by omega)) hj) fun j hj => vecOf_at hj
theorem hermX_HL {rows : List (List Int)} {s : Fr} (h : FrB rows s) (he : ∀ i, i < rows.length → okE (rw_ rows i)) : HL s.js.length (absI s.d) (resE rows s.js) rows.length (hermX rows s) :=
  (addRows_LL h.abs.1 h.abs.2 he h.j (Nat.le_refl _)).red h.abs.1
theorem narA_LL {X : List (List Int)} {c : List Int} {d : Int} {s : Nat} (hd : 0 < d) (hd9 : d ≤ 1000000000) (h : LB X s d) : ∀ {i : Nat}, i ≤ s → LL (s + 1) d (fun k j => (narV X c d s k).getD j 0) i (narA X c d s i)
  | 0, _ => LL.mult hd
  | i + 1, hi => (narA_LL hd hd9 h (i := i) (by omega)).add hd hd9 ((narV_VB hd h (by omega)).toC hd9) fun _ _ => rfl
theorem narW_HL {X : List (List Int)} {c : List Int} {d : Int} {s : Nat} (hd : 0 < d) (hd9 : d ≤ 1000000000) (h : LB X s d) : HL (s + 1) d (fun k j => (narV X c d s k).getD j 0) s (narW X c d s) := (narA_LL hd hd9 h (Nat.le_refl _)).red hd
end Go.Proofs.Ytnilimjkibimcaa

