import Derived.Test.YtnilimjkibimcaaLA
set_option linter.unusedSimpArgs false
set_option linter.unusedVariables false

namespace Go.Proofs.Ytnilimjkibimcaa
open Go.Zz
def vF (v : List Int) (j : Nat) : Int := v.getD j 0
theorem rem_in {h : List (List Int)} {js : List Nat} {v : List Int} : ∀ i, i ≤ h.length → Sp 6 (rowsP (ent h) h.length) fun j => vF v j - vF (remL h js v i) j
  | 0, _ => .zero fun j _ => by show v.getD j 0 - v.getD j 0 = 0; omega
  | i + 1, hi => by
    have ih := rem_in (h := h) (js := js) (v := v) i (by omega)
    refine .add ih ((Sp.row (e := ent h) (i := i) (by omega)).smul (quoL h js v i) (u := fun j => quoL h js v i * ent h i j) fun _ _ => rfl) fun j hj => ?_
    show v.getD j 0 - (remL h js v (i + 1)).getD j 0 = v.getD j 0 - (remL h js v i).getD j 0 + quoL h js v i * (rw_ h i).getD j 0
    rw [remL_succ, sub_at hj]
    omega
theorem rem_small {h : List (List Int)} {js : List Nat} {v : List Int} (hT : TF 6 (ent h) h.length fun i => js.getD i 0) : ∀ i, i ≤ h.length → ∀ k, k < i → 0 ≤ vF (remL h js v i) (js.getD k 0) ∧ vF (remL h js v i) (js.getD k 0) < ent h k (js.getD k 0)
  | 0, _, k, hk => by omega
  | i + 1, hi, k, hk => by
    have hp := hT.plt k (by omega)
    have hpos := hT.pos k (by omega)
    have e : vF (remL h js v (i + 1)) (js.getD k 0) = vF (remL h js v i) (js.getD k 0) - quoL h js v i * ent h i (js.getD k 0) := by
      show (remL h js v (i + 1)).getD _ 0 = _
      rw [remL_succ, sub_at hp]
      rfl
    rw [e]
    by_cases hki : k = i
    · subst hki
      have eq : quoL h js v k = vF (remL h js v k) (js.getD k 0) / ent h k (js.getD k 0) := rfl
      rw [eq]
      have h1 := Int.emod_def (vF (remL h js v k) (js.getD k 0)) (ent h k (js.getD k 0))
      have h2 := Int.emod_nonneg (vF (remL h js v k) (js.getD k 0)) (b := ent h k (js.getD k 0)) (by omega)
      have h3 := Int.emod_lt_of_pos (vF (remL h js v k) (js.getD k 0)) hpos
      have h4 := Int.mul_comm (ent h k (js.getD k 0)) (vF (remL h js v k) (js.getD k 0) / ent h k (js.getD k 0))
      omega
    · have hz : ent h i (js.getD k 0) = 0 := hT.zero i (by omega) _ (hT.up k i (by omega) (by omega))
      rw [hz, Int.mul_zero, Int.sub_zero]
      exact rem_small hT i (by omega) k (by omega)
theorem small_zero {N m : Nat} {h : Nat → Nat → Int} {p : Nat → Nat} (hT : TF N h m p) {w : Nat → Int} (hw : Sp N (rowsP h m) w) (hs : ∀ k, k < m → 0 ≤ w (p k) ∧ w (p k) < h k (p k)) : ∀ j, j < N → w j = 0 := by
  obtain ⟨c, hc⟩ := hw.coef
  have key : ∀ k, k ≤ m → ∀ i, i < k → c i = 0 := by
    intro k
    induction k with
    | zero => exact fun _ i hi => by omega
    | succ k ih =>
      intro hk i hi
      have ih := ih (by omega)
      by_cases hik : i = k
      · subst hik
        have e := hc (p i) (hT.plt i (by omega))
        rw [hT.lead (by omega) ih] at e
        have hp := hT.pos i (by omega)
        obtain ⟨h1, h2⟩ := hs i (by omega)
        rw [e] at h1 h2
        by_cases h0 : c i = 0
        · exact h0
        · exfalso
          rcases Int.lt_or_gt_of_ne h0 with hneg | hpos
          · have := Int.mul_le_mul_of_nonneg_right (show c i ≤ -1 by omega) (Int.le_of_lt hp)
            omega
          · have := Int.mul_le_mul_of_nonneg_right (show 1 ≤ c i by omega) (Int.le_of_lt hp)
            omega
      · exact ih i (by omega)
  intro j hj
  rw [hc j hj, ← psumF_zero m]
  exact psumF_congr fun i hi => by rw [key m (Nat.le_refl _) i hi, Int.zero_mul]
theorem rem_zero_iff {rows : List (List Int)} {v : List Int} (hv : VM rows) (h6 : Six rows) (hv6 : v.length = 6) : remL (hermF rows) (fwdF rows).js v (hermF rows).length = zer6 ↔ RowL (ent rows) rows.length (vF v) := by
  have hH := herm_lat hv h6
  have hHf := hH.hf.toTF
  rw [← hH.len] at hHf
  have hin := rem_in (h := hermF rows) (js := (fwdF rows).js) (v := v) _ (Nat.le_refl _)
  constructor
  · intro h
    refine (hH.sp _).1 (hin.of_eq fun j hj => ?_)
    rw [h]
    show vF v j = vF v j - zer6.getD j 0
    have : zer6.getD j 0 = 0 := by
      have : ∀ j, j < 6 → zer6.getD j 0 = 0 := by decide
      exact this j hj
    omega
  · intro h
    have hz := small_zero hHf (w := vF (remL (hermF rows) (fwdF rows).js v (hermF rows).length)) (Sp.sub ((hH.sp _).2 h) hin fun j _ => by omega) fun k hk => rem_small hHf _ (Nat.le_refl _) k hk
    refine getD_ext (by rw [remL_len hv6]; rfl) fun t ht => ?_
    rw [remL_len hv6] at ht
    have e := hz t ht
    have : ∀ j, j < 6 → zer6.getD j 0 = 0 := by decide
    rw [this t ht]
    exact e
theorem memD_iff {rows : List (List Int)} {v : List Int} (h6 : Six rows) (hv6 : v.length = 6) (he : errD rows v = 0) : remD rows v = zer6 ↔ RowL (ent rows) rows.length (vF v) := by
  unfold errD at he
  split at he
  · rename_i h1
    split at he
    · rename_i h2
      rw [show remD rows v = remL (hermF rows) (fwdF rows).js v (hermF rows).length from if_pos ⟨h1, h2⟩]
      exact rem_zero_iff h1.1 h6 hv6
    · cases he
  · cases he
end Go.Proofs.Ytnilimjkibimcaa

