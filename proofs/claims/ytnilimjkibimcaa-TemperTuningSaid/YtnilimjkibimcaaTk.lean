import Derived.Test.YtnilimjkibimcaaTj
set_option linter.unusedSimpArgs false
set_option linter.unusedVariables false

namespace Go.Proofs.Ytnilimjkibimcaa
open Go.Zz
set_option maxRecDepth 100000
set_option maxHeartbeats 8000000
theorem tuneN_add {rows gens : List (List Int)} {v w : List Int} {k : Nat} {i : Nat} (hi : i ≤ rows.length) : tuneN rows gens (addV v w) i k = tuneN rows gens v i k + tuneN rows gens w i k := by
  unfold tuneN
  rw [← psumF_add]
  exact psumF_congr fun t ht => by rw [img_add (by omega), Int.add_mul]
theorem tune_len (rows gens : List (List Int)) (v : List Int) : (tuneF rows gens v).length = 6 := by simp [tuneF]
theorem tune_add (rows gens : List (List Int)) (v w : List Int) : tuneF rows gens (addV v w) = addV (tuneF rows gens v) (tuneF rows gens w) := getD_ext (by rw [add_len, tune_len]) fun k hk => by
  rw [tune_len] at hk
  rw [tune_at hk, add_at hk, tune_at hk, tune_at hk, tuneN_add (Nat.le_refl _)]
theorem neg_neg (v : List Int) : negV (negV v) = v := by
  unfold negV
  rw [List.map_map]
  have : ((fun x : Int => -x) ∘ fun x => -x) = id := funext fun x => Int.neg_neg x
  rw [this, List.map_id]
theorem tune_img0 {rows gens : List (List Int)} {v : List Int} (h : ∀ t, t < rows.length → (imgF rows v).getD t 0 = 0) : tuneF rows gens v = zer6 := getD_ext (tune_len _ _ _) fun k hk => by
  rw [tune_len] at hk
  rw [tune_at hk, zer_at]
  unfold tuneN
  exact (psumF_congr (g := fun _ => 0) fun t ht => by rw [h t ht, Int.zero_mul]).trans (psumF_zero rows.length)
theorem law_errI {rows gens : List (List Int)} {v : List Int} (h : errTu rows gens v = 0) : errI rows v = 0 := if_pos ⟨(err_ok h).1.1, (err_ok h).1.2.2.1⟩
end Go.Proofs.Ytnilimjkibimcaa

