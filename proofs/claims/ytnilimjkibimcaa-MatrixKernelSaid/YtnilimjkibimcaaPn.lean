import Derived.Test.YtnilimjkibimcaaPm
set_option linter.unusedSimpArgs false
set_option linter.unusedVariables false

namespace Go.Proofs.Ytnilimjkibimcaa
open Go.Zz
def smallV (r : List Int) : Prop := ∀ j, j < 6 → -1000 ≤ r.getD j 0 ∧ r.getD j 0 ≤ 1000
instance (r : List Int) : Decidable (smallV r) := by unfold smallV; infer_instance
theorem pow6 {k : Nat} (h : k < 6) : (2 : Int) ^ k ≤ 32 ∧ 1 ≤ (2 : Int) ^ k := by
  have : k = 0 ∨ k = 1 ∨ k = 2 ∨ k = 3 ∨ k = 4 ∨ k = 5 := by omega
  rcases this with rfl | rfl | rfl | rfl | rfl | rfl <;> decide
theorem mul_le_abs {a b h B : Int} (hh : 0 < h) (hb : 0 ≤ b ∧ b ≤ h) (ha : -B ≤ a ∧ a ≤ B) (hB : 0 ≤ B) : -(B * h) ≤ a * b ∧ a * b ≤ B * h := by
  have h1 := mul_bnd (a := b) (A := h) (b := a) (B := B) hb.1 hb.2 ha.1 ha.2
  rw [Int.mul_comm b a, Int.mul_comm h B] at h1
  exact h1
theorem coef_bound {h : Nat → Nat → Int} {m : Nat} {p : Nat → Nat} (hT : HF 6 h m p) {v c : Nat → Int} (hv : ∀ j, j < 6 → v j = psumF (fun i => c i * h i j) m) (hs : ∀ j, j < 6 → -1000 ≤ v j ∧ v j ≤ 1000) : ∀ k, k < m → -(1000 * 2 ^ k) ≤ c k ∧ c k ≤ 1000 * 2 ^ k := by
  intro k
  induction k using Nat.strongRecOn with
  | ind k ih =>
    intro hk
    have hp := hT.pos k hk
    have h1 := hv (p k) (hT.plt k hk)
    have h2 := hs (p k) (hT.plt k hk)
    obtain ⟨r, hr⟩ : ∃ r, m = k + 1 + r := ⟨m - (k + 1), by omega⟩
    have e1 : psumF (fun i => c i * h i (p k)) m = psumF (fun i => c i * h i (p k)) (k + 1) := by
      rw [hr]
      exact psumF_ext0 fun t ht1 ht2 => by
        show c t * h t (p k) = 0
        rw [hT.zero t (by omega) (p k) (hT.up k t (by omega) (by omega)), Int.mul_zero]
    rw [e1] at h1
    have e2 : psumF (fun i => c i * h i (p k)) (k + 1) = psumF (fun i => c i * h i (p k)) k + c k * h k (p k) := rfl
    rw [e2] at h1
    have key : ∀ t, t ≤ k → -((1000 * 2 ^ t - 1000) * h k (p k)) ≤ psumF (fun i => c i * h i (p k)) t ∧ psumF (fun i => c i * h i (p k)) t ≤ (1000 * 2 ^ t - 1000) * h k (p k) := fun t => by
      induction t with
      | zero => intro _; simp [psumF]
      | succ t iht =>
        intro ht
        have a1 := iht (by omega)
        have a2 := ih t (by omega) (by omega)
        have a3 := hT.red t k (by omega) hk
        have hpw : (0 : Int) ≤ 2 ^ t := Int.pow_nonneg (by decide)
        have a4 := mul_le_abs (a := c t) (b := h t (p k)) (h := h k (p k)) (B := 1000 * 2 ^ t) hp ⟨a3.1, by omega⟩ a2 (by omega)
        have e3 : psumF (fun i => c i * h i (p k)) (t + 1) = psumF (fun i => c i * h i (p k)) t + c t * h t (p k) := rfl
        have e4 : (1000 * 2 ^ (t + 1) - 1000) * h k (p k) = (1000 * 2 ^ t - 1000) * h k (p k) + 1000 * 2 ^ t * h k (p k) := by
          rw [Int.pow_succ]
          grind
        rw [e3, e4]
        omega
    have a1 := key k (Nat.le_refl _)
    have hle : 1000 ≤ 1000 * h k (p k) := by omega
    have b1 : c k * h k (p k) ≤ 1000 * 2 ^ k * h k (p k) := by
      have : (1000 * 2 ^ k - 1000) * h k (p k) = 1000 * 2 ^ k * h k (p k) - 1000 * h k (p k) := by grind
      omega
    have b2 : -(1000 * 2 ^ k) * h k (p k) ≤ c k * h k (p k) := by
      have : (1000 * 2 ^ k - 1000) * h k (p k) = 1000 * 2 ^ k * h k (p k) - 1000 * h k (p k) := by grind
      have : -(1000 * 2 ^ k) * h k (p k) = -(1000 * 2 ^ k * h k (p k)) := Int.neg_mul _ _
      omega
    exact ⟨Int.le_of_mul_le_mul_right b2 hp, Int.le_of_mul_le_mul_right b1 hp⟩
def remF (h : Nat → Nat → Int) (c v : Nat → Int) (k j : Nat) : Int := v j - psumF (fun i => c i * h i j) k
theorem rem_succ (h : Nat → Nat → Int) (c v : Nat → Int) (k j : Nat) : remF h c v (k + 1) j = remF h c v k j - c k * h k j := by
  unfold remF
  show v j - (psumF (fun i => c i * h i j) k + c k * h k j) = _
  omega
theorem rem_lead {h : Nat → Nat → Int} {m : Nat} {p : Nat → Nat} (hT : HF 6 h m p) {v c : Nat → Int} (hv : ∀ j, j < 6 → v j = psumF (fun i => c i * h i j) m) {k : Nat} (hk : k < m) : remF h c v k (p k) = c k * h k (p k) := by
  obtain ⟨r, hr⟩ : ∃ r, m = k + 1 + r := ⟨m - (k + 1), by omega⟩
  have e1 : psumF (fun i => c i * h i (p k)) m = psumF (fun i => c i * h i (p k)) (k + 1) := by
    rw [hr]
    exact psumF_ext0 fun t ht1 ht2 => by
      show c t * h t (p k) = 0
      rw [hT.zero t (by omega) (p k) (hT.up k t (by omega) (by omega)), Int.mul_zero]
  unfold remF
  rw [hv _ (hT.plt k hk), e1]
  show psumF (fun i => c i * h i (p k)) k + c k * h k (p k) - _ = _
  omega
def Bd6 (H : List (List Int)) : Prop := ∀ i j, i < H.length → j < 6 → -6000000000 ≤ ent H i j ∧ ent H i j ≤ 6000000000
theorem rem_bd {H : List (List Int)} {m : Nat} (hm : m ≤ 6) (hb : ∀ i j, i < m → j < 6 → -6000000000 ≤ ent H i j ∧ ent H i j ≤ 6000000000) {v c : Nat → Int} (hs : ∀ j, j < 6 → -1000 ≤ v j ∧ v j ≤ 1000) (hc : ∀ k, k < m → -(1000 * 2 ^ k) ≤ c k ∧ c k ≤ 1000 * 2 ^ k) {j : Nat} (hj : j < 6) :
    (∀ k, k < m → -32000 ≤ c k ∧ c k ≤ 32000 ∧ -192000000000000 ≤ c k * ent H k j ∧ c k * ent H k j ≤ 192000000000000) ∧ ∀ k, k ≤ m → -(1000 + k * 192000000000000) ≤ remF (ent H) c v k j ∧ remF (ent H) c v k j ≤ 1000 + k * 192000000000000 := by
  have h1 : ∀ k, k < m → -32000 ≤ c k ∧ c k ≤ 32000 ∧ -192000000000000 ≤ c k * ent H k j ∧ c k * ent H k j ≤ 192000000000000 := fun k hk => by
    have a1 := hc k hk
    have a2 := pow6 (show k < 6 by omega)
    have a3 : -32000 ≤ c k ∧ c k ≤ 32000 := by omega
    have a4 := hb k j hk hj
    have a5 : -(32000 * 6000000000) ≤ c k * ent H k j ∧ c k * ent H k j ≤ 32000 * 6000000000 := by
      rcases Int.le_total 0 (c k) with h | h
      · exact mul_bnd h a3.2 a4.1 a4.2
      · have := mul_bnd (a := -c k) (A := 32000) (b := ent H k j) (B := 6000000000) (by omega) (by omega) a4.1 a4.2
        rw [Int.neg_mul] at this
        omega
    exact ⟨a3.1, a3.2, by omega, by omega⟩
  refine ⟨h1, fun k => ?_⟩
  induction k with
  | zero =>
    intro _
    have := hs j hj
    simp [remF, psumF]
    omega
  | succ k ih =>
    intro hk
    have a1 := ih (by omega)
    have a2 := h1 k (by omega)
    rw [rem_succ]
    omega
end Go.Proofs.Ytnilimjkibimcaa

