import Derived.Test.YtndaljjljmmlcaaL16y

set_option linter.unusedSimpArgs false
set_option linter.unusedVariables false
namespace Go.Proofs.Ytndaljjljmmlcaa
open Go.Zz

theorem bound_shape {n : Int} {rs : List Rg} {a b : Int} {v : AV} (h : BoundOut n rs a b v) : ∃ lo hi e, v = bv lo hi e := by
  rcases h with ⟨_, rfl⟩ | ⟨_, h⟩
  · exact ⟨_, _, _, rfl⟩
  · rcases h with ⟨_, rfl⟩ | ⟨_, X, Y, _, _, h⟩
    · exact ⟨_, _, _, rfl⟩
    · rcases h with ⟨_, rfl⟩ | ⟨_, _, rfl⟩ | ⟨_, _, rfl⟩ <;> exact ⟨_, _, _, rfl⟩
theorem bound_same {n : Int} {rs rs' : List Rg} (hv : VL n rs) (hv' : VL n rs') (ha : Alike rs rs') (hlie : ∀ p, Pot rs' p → Pot rs p) (hsol : ∀ p, Pot rs p → ∀ i : Nat, (i : Int) < n → ∃ X : Bf.S, Sol rs i X.known X.far) {a b : Int} {v v' : AV} (h : BoundOut n rs a b v) (h' : BoundOut n rs' a b v') : v = v' := by
  by_cases hr : 0 ≤ a ∧ a < n ∧ 0 ≤ b ∧ b < n
  · by_cases hp : ∃ p, Pot rs p
    · obtain ⟨p, hp⟩ := hp
      obtain ⟨a0, a1, b0, b1⟩ := hr
      obtain ⟨a, rfl⟩ := Int.eq_ofNat_of_zero_le a0
      obtain ⟨b, rfl⟩ := Int.eq_ofNat_of_zero_le b0
      obtain ⟨X, hX⟩ := hsol p hp a a1
      obtain ⟨Y, hY⟩ := hsol p hp b b1
      rw [bound_val hv hp a1 b1 hX hY h, bound_val hv' (ha.pot p hp) a1 b1 (ha.sol _ _ _ hX) (ha.sol _ _ _ hY) h']
    · have hp' : ∀ p, ¬ Pot rs p := fun p h => hp ⟨p, h⟩
      rw [bound_lie ⟨hv, hr⟩ hp' h, bound_lie ⟨hv', hr⟩ (fun p h => hp' p (hlie p h)) h']
  · rw [bound_bad (fun h => hr h.2) h, bound_bad (fun h => hr h.2) h']
theorem hsol_of {n : Int} {rs : List Rg} (hv : VL n rs) {l : AV} (hl : RdL l rs) : ∀ p, Pot rs p → ∀ i : Nat, (i : Int) < n → ∃ X : Bf.S, Sol rs i X.known X.far := fun p hp i hi => by
  obtain ⟨X, hX, _⟩ := s29 hv hl (i := i) hi hp
  exact ⟨X, hX⟩

/-- Two readings exchanged, one of them turned around. -/
def turnR (r : Rg) : Rg := ⟨r.b, r.a, 0 - r.hi, 0 - r.lo⟩
def swapped (rs : List Rg) (i k : Nat) : List Rg := (rs.set i (nth rs k)).set k (turnR (nth rs i))
/-- Cells of readings, one put in another's place. -/
def rcells (rs : List Rg) : List AV := (rs.map Rg.cells).flatten
end Go.Proofs.Ytndaljjljmmlcaa

