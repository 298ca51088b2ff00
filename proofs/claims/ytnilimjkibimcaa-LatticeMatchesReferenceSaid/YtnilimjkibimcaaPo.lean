import Derived.Test.YtnilimjkibimcaaPn
import Derived.Test.YtnilimjkibimcaaPb

set_option linter.unusedSimpArgs false
set_option linter.unusedVariables false

namespace Go.Proofs.Ytnilimjkibimcaa
open Go.Zz
theorem tdiv_le {a d B : Int} (hd : d ≠ 0) (hB : 0 ≤ B) (h : -(B * absI d) ≤ a ∧ a ≤ B * absI d) : -B ≤ a.tdiv d ∧ a.tdiv d ≤ B := by
 have e : (a.tdiv d).natAbs = a.natAbs / d.natAbs := Int.natAbs_tdiv a d
 have hd' : 0 < d.natAbs := by omega
 have e2 : absI d = (d.natAbs : Int) := by unfold absI; split <;> omega
 have e3 : ((B.toNat * d.natAbs : Nat) : Int) = B * (d.natAbs : Int) := by rw [Int.natCast_mul, Int.toNat_of_nonneg hB]
 rw [e2, ← e3] at h
 have h2 : a.natAbs / d.natAbs ≤ B.toNat := by
  refine Nat.div_le_of_le_mul ?_
  rw [Nat.mul_comm]
  omega
 omega
theorem psum_bd {f : Nat → Int} {C : Int} (hC : 0 ≤ C) : ∀ {n : Nat}, n ≤ 6 → (∀ k, k < n → -C ≤ f k ∧ f k ≤ C) → -(6 * C) ≤ psumF f n ∧ psumF f n ≤ 6 * C := by
 have key : ∀ n : Nat, (∀ k, k < n → -C ≤ f k ∧ f k ≤ C) → -(n * C) ≤ psumF f n ∧ psumF f n ≤ n * C := fun n => by
  induction n with
  | zero => intro _; simp [psumF]
  | succ n ih =>
   intro h
   have h1 := ih fun k hk => h k (by omega)
   have h2 := h n (by omega)
   have e : psumF f (n + 1) = psumF f n + f n := rfl
   have e2 : ((n + 1 : Nat) : Int) * C = n * C + C := by rw [Int.natCast_add, Int.add_mul]; simp
   rw [e, e2]
   omega
 intro n hn h
 have h1 := key n h
 have h2 : (n : Int) * C ≤ 6 * C := Int.mul_le_mul_of_nonneg_right (by omega) hC
 omega
theorem prod_bd {x y d M : Int} (hx : 0 ≤ x ∧ x ≤ d) (hy : -M ≤ y ∧ y ≤ M) : -(M * d) ≤ x * y ∧ x * y ≤ M * d := by
 have := mul_bnd hx.1 hx.2 hy.1 hy.2
 rw [Int.mul_comm d M] at this
 exact this
theorem herm_bd {rows : List (List Int)} (hv : VM rows) (h6 : Six rows) : Bd6 (hermF rows) := by
 have hB := fwd_B hv h6
 have hX := hermX_HL hB hv.2.1
 have hab := hB.abs
 intro i j hi hj
 have hlen : (hermF rows).length = (hermX rows (fwdF rows)).length := List.length_map _
 rw [hlen] at hi
 show -6000000000 ≤ ent ((hermX rows (fwdF rows)).map (outR rows (fwdF rows))) i j ∧ ent ((hermX rows (fwdF rows)).map (outR rows (fwdF rows))) i j ≤ 6000000000
 rw [map_ent hi, outR_at hj]
 have hl := hX.lb.len
 refine tdiv_le hB.ne (by decide) ?_
 have h1 := psum_bd (f := fun k => ((hermX rows (fwdF rows)).getD i []).getD k 0 * minorF (ent rows) (fwdF rows).is ((fwdF rows).js.set k j)) (C := 1000000000 * absI (fwdF rows).d) (by omega) hB.six fun k hk => by
  have h1 := rep_bnd (rows := rows) h6 hB.i hB.j hB.len hk hj
  have h2 := prodB_vol hv hB.nd hB.i
  exact prod_bd (hX.lb.el i k (by omega) hk) ⟨by omega, by omega⟩
 have e : sumE rows (fwdF rows) ((hermX rows (fwdF rows)).getD i []) j (fwdF rows).js.length = psumF (fun k => ((hermX rows (fwdF rows)).getD i []).getD k 0 * minorF (ent rows) (fwdF rows).is ((fwdF rows).js.set k j)) (fwdF rows).js.length := rfl
 rw [e]
 omega
end Go.Proofs.Ytnilimjkibimcaa

