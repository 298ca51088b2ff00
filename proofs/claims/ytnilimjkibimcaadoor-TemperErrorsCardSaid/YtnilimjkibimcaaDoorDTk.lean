import Derived.Test.YtnilimjkibimcaaDoorDTj
set_option linter.unusedSimpArgs false
set_option linter.unusedVariables false

namespace Go.Proofs.YtnilimjkibimcaaDoor
open Go.Zz
set_option maxRecDepth 100000
set_option maxHeartbeats 8000000
theorem tuneN_add {rows gens : List (List Int)} {v w : List Int} {k : Nat} {i : Nat} (hi : i ≤ rows.length) : tuneN rows gens (addV v w) i k = tuneN rows gens v i k + tuneN rows gens w i k := by
  unfold tuneN
  rw [← psumF_add]
  exact psumF_congr fun t ht => by rw [img_add (by omega), Int.add_mul]
theorem tune_len (rows gens : List (List Int)) (v : List Int) : (tuneF rows gens v).length = 6 := by simp [tuneF]
theorem tune_add (rows gens : List (List Int)) (v w : List Int) : tuneF rows gens (addV v w) = addV (tuneF rows gens v) (tuneF rows gens w) := getD_ext (by rw [add_len, tune_len]) fun k hk => by
  rw [tune_len] at hk
  rw [tune_at hk, add_at hk, tune_at hk, tune_at hk, tuneN_add (Nat.le_refl _)]
theorem m12_len {v : List Int} (h : v.length = 6) : (mul12 v).length = 6 := by simp [mul12, h]
theorem m12_add {v w : List Int} : mul12 (addV v w) = addV (mul12 v) (mul12 w) := getD_ext (by rw [m12_len (add_len _ _), add_len]) fun k hk => by
  rw [m12_len (add_len _ _)] at hk
  rw [mul12_at, add_at hk, add_at hk, mul12_at, mul12_at, Int.add_mul]
theorem neg_neg (v : List Int) : negV (negV v) = v := by
  unfold negV
  rw [List.map_map]
  have : ((fun x : Int => -x) ∘ fun x => -x) = id := funext fun x => Int.neg_neg x
  rw [this, List.map_id]
theorem ok_12 {v : List Int} (h : okB 48 v) : okB 576 (mul12 v) := fun j hj => by
  have := h j hj
  rw [mul12_at]
  omega
end Go.Proofs.YtnilimjkibimcaaDoor

