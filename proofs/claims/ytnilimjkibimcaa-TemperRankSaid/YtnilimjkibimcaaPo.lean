import Derived.Test.YtnilimjkibimcaaPn
import Derived.Test.YtnilimjkibimcaaPb
set_option linter.unusedSimpArgs false
set_option linter.unusedVariables false

namespace Go.Proofs.Ytnilimjkibimcaa
open Go.Zz
theorem tdiv_le {a d B : Int} (hd : d ≠ 0) (hB : 0 ≤ B) (h : -(B * absI d) ≤ a ∧ a ≤ B * absI d) : -B ≤ a.tdiv d ∧ a.tdiv d ≤ B := by
  have e : (a.tdiv d).natAbs = a.natAbs / d.natAbs := Int.natAbs_tdiv a d
  have hd' : 0 < d.natAbs := by omega
  have e2 : absI d = (d.natAbs : Int) := by unfold absI; split <;> omega
  have e3 : ((B.toNat * d.natAbs : Nat) : Int) = B * (d.natAbs : Int) := by rw [Int.natCast_mul, Int.toNat_of_nonneg hB]
  rw [e2, ← e3] at h
  have h2 : a.natAbs / d.natAbs ≤ B.toNat := by
    refine Nat.div_le_of_le_mul ?_
    rw [Nat.mul_comm]
    omega
  omega
theorem psum_bd {f : Nat → Int} {C : Int} (hC : 0 ≤ C) : ∀ {n : Nat}, n ≤ 6 → (∀ k, k < n → -C ≤ f k ∧ f k ≤ C) → -(6 * C) ≤ psumF f n ∧ psumF f n ≤ 6 * C := by
  have key : ∀ n : Nat, (∀ k, k < n → -C ≤ f k ∧ f k ≤ C) → -(n * C) ≤ psumF f n ∧ psumF f n ≤ n * C := fun n => by
    induction n with
    | zero => intro _; simp [psumF]
    | succ n ih =>
      intro h
      have h1 := ih fun k hk => h k (by omega)
      have h2 := h n (by omega)
      have e : psumF f (n + 1) = psumF f n + f n := rfl
      have e2 : ((n + 1 : Nat) : Int) * C = n * C + C := by rw [Int.natCast_add, Int.add_mul]; simp
      rw [e, e2]
      omega
  intro n hn h
  have h1 := key n h
  have h2 : (n : Int) * C ≤ 6 * C := Int.mul_le_mul_of_nonneg_right (by omega) hC
  omega
theorem prod_bd {x y d M : Int} (hx : 0 ≤ x ∧ x ≤ d) (hy : -M ≤ y ∧ y ≤ M) : -(M * d) ≤ x * y ∧ x * y ≤ M * d := by
  have := mul_bnd hx.1 hx.2 hy.1 hy.2
  rw [Int.mul_comm d M] at this
  exact this
theorem ker_bd {rows : List (List Int)} (hv : VM rows) (h6 : Six rows) : Bd6 (kerF rows) := by
  have hB := bwd_B hv h6
  have hX := kerX_KL hB (bwdF rows).js.length
  have hab := hB.abs
  intro i j hi hj
  have hlen : (kerF rows).length = (kerX rows (bwdF rows) (bwdF rows).js.length).length := List.length_map _
  rw [hlen] at hi
  show -6000000000 ≤ ent ((kerX rows (bwdF rows) (bwdF rows).js.length).map (kerR rows (bwdF rows))) i j ∧ ent ((kerX rows (bwdF rows) (bwdF rows).js.length).map (kerR rows (bwdF rows))) i j ≤ 6000000000
  rw [map_ent hi, kerR_at hj]
  have hl := hX.lb.len
  have hfl := free_len (bwdF rows).js
  unfold kerE
  split
  · rename_i hjs
    have hk : (bwdF rows).js.idxOf j < (bwdF rows).js.length := List.idxOf_lt_length_iff.2 hjs
    refine tdiv_le hB.ne (by decide) ?_
    have h1 := psum_bd (f := fun n => (tabF rows (bwdF rows) ((bwdF rows).js.idxOf j)).getD n 0 * ((kerX rows (bwdF rows) (bwdF rows).js.length).getD i []).getD n 0) (C := 1000000000 * absI (bwdF rows).d) (by omega) hfl fun n hn => by
      have h1 := tab_bd hB hv h6 hk hn
      rw [Int.mul_comm ((tabF rows (bwdF rows) ((bwdF rows).js.idxOf j)).getD n 0)]
      exact prod_bd (hX.lb.el i n (by omega) hn) h1
    have e : sumK rows (bwdF rows) ((kerX rows (bwdF rows) (bwdF rows).js.length).getD i []) ((bwdF rows).js.idxOf j) (freeF (bwdF rows).js).length = psumF (fun n => (tabF rows (bwdF rows) ((bwdF rows).js.idxOf j)).getD n 0 * ((kerX rows (bwdF rows) (bwdF rows).js.length).getD i []).getD n 0) (freeF (bwdF rows).js).length := rfl
    rw [e]
    omega
  · rename_i hjs
    have hf : j ∈ freeF (bwdF rows).js := free_mem.2 ⟨hj, hjs⟩
    have h1 := hX.lb.el i ((freeF (bwdF rows).js).idxOf j) (by omega) (List.idxOf_lt_length_iff.2 hf)
    have e : ent (kerX rows (bwdF rows) (bwdF rows).js.length) i ((freeF (bwdF rows).js).idxOf j) = ((kerX rows (bwdF rows) (bwdF rows).js.length).getD i []).getD ((freeF (bwdF rows).js).idxOf j) 0 := rfl
    rw [e] at h1
    omega
theorem dot_comm (a b : Nat → Int) : psumF (fun j => a j * b j) 6 = psumF (fun j => b j * a j) 6 := psumF_congr fun j _ => Int.mul_comm _ _
end Go.Proofs.Ytnilimjkibimcaa

