import Derived.Test.YtnilimjkibimcaaPd
set_option linter.unusedSimpArgs false
set_option linter.unusedVariables false

namespace Go.Proofs.Ytnilimjkibimcaa
open Go.Zz
def mask (i : Nat) (v : List Int) : Nat → Int := fun j => if j < i then 0 else v.getD j 0
def geP (e : Nat → Nat → Int) (i n : Nat) (g : Nat → Int) : Prop := ∃ k, i ≤ k ∧ k < n ∧ g = e k
theorem Tri.ge_of {e : Nat → Nat → Int} {n i : Nat} (hT : Tri e n) {v : Nat → Int} (hv : Sp n (rowsP e n) v) (h0 : ∀ j, j < i → j < n → v j = 0) : Sp n (geP e i n) v := by
  obtain ⟨c, hc⟩ := hv.coef
  have hz := hT.coef0 hc (t := i) fun k hk hkn => h0 k hk hkn
  refine Sp.sum (f := fun k => if i ≤ k then e k else fun _ => 0) (c := c) (m := n) (fun k hk => ?_) fun j hj => ?_
  · split
    · rename_i h
      exact .gen ⟨k, h, hk, rfl⟩
    · exact .zero fun _ _ => rfl
  · rw [hc j hj]
    refine psumF_congr fun k hk => ?_
    by_cases h : i ≤ k
    · rw [if_pos h]
    · rw [if_neg h, hz k (by omega) hk]
      simp
def DZ (e : Nat → Nat → Int) (n i : Nat) (d : Int) : Prop := ∀ z : Nat → Int, (∀ j, j ≤ i → j < n → z j = 0) → (∀ j, i < j → j < n → ∃ y, z j = d * y) → Sp n (gtP e i n) z
theorem DZ.same {e e' : Nat → Nat → Int} {n i : Nat} {d : Int} (h : DZ e n i d) (hs : ∀ k, i < k → k < n → ∀ j, j < n → e' k j = e k j) : DZ e' n i d := fun z h1 h2 => gt_same hs (h z h1 h2)
theorem addT_ent {n i : Nat} {d : Int} (hd : 0 < d) (hd9 : d ≤ 1000000000) {R : List (List Int)} {v : List Int} (h : LB R n d) (hv : VC v n) (hi : i < n) (h0 : 0 < v.getD i 0) (h1 : v.getD i 0 ≤ d) :
    (∀ k j, j < n → ent (addT n R v d i).1 k j = if k = i ∧ i < j then v.getD j 0 % d else if k = i ∧ j = i then v.getD i 0 else ent R k j) ∧
    ∀ j, j < n → (addT n R v d i).2.getD j 0 = if i < j then (ent R i j - ent R i i / v.getD i 0 * (v.getD j 0 % d)) % d else if j = i then ent R i i % v.getD i 0 else v.getD j 0 := by
  have e1 := Int.emod_nonneg (ent R i i) (show v.getD i 0 ≠ 0 by omega)
  have e2 := Int.emod_lt_of_pos (ent R i i) h0
  have hl := hv.1
  obtain ⟨a1, a2⟩ := addJ_ent (i := i) (q := ent R i i / v.getD i 0) hd hd9 (h.setE hi hi (x := v.getD i 0) ⟨by omega, h1⟩ fun _ => h0) (hv.set hi (x := ent R i i % v.getD i 0) ⟨by omega, by omega⟩) (n - (i + 1)) (by omega)
  have b1 := fun k j => ent_setE (x := v.getD i 0) (i' := k) (j' := j) h.len h.row hi hi
  have b2 := fun j => getD_set_if (k := j) (x := ent R i i % v.getD i 0) (show i < v.length by omega)
  refine ⟨fun k j hj => ?_, fun j hj => ?_⟩
  · unfold addT
    rw [a1, b1, b2]
    by_cases hc : k = i ∧ i < j
    · rw [if_pos (by omega), if_pos hc, if_neg (by omega)]
    · rw [if_neg (by omega), if_neg hc]
  · unfold addT
    rw [a2, b1, b2]
    by_cases hc : i < j
    · rw [if_pos (by omega), if_pos hc, if_neg (by omega), if_neg (by omega)]
    · rw [if_neg (by omega), if_neg hc]
theorem addT_spec {n i : Nat} {d : Int} (hd : 0 < d) (hd9 : d ≤ 1000000000) {R : List (List Int)} {v : List Int} (h : LB R n d) (hv : VC v n) (hi : i < n) (h0 : 0 < v.getD i 0) (h1 : v.getD i 0 ≤ d) (hT : Tri (ent R) n) (hz : DZ (ent R) n i d) :
    Tri (ent (addT n R v d i).1) n ∧ (∀ k, k ≠ i → ∀ j, j < n → ent (addT n R v d i).1 k j = ent R k j) ∧ ∀ g, Sp n (SV (ent (addT n R v d i).1) n (mask i (addT n R v d i).2)) g ↔ Sp n (SV (ent R) n (mask i v)) g := by
  obtain ⟨a1, a2⟩ := addT_ent hd hd9 h hv hi h0 h1
  have hrow : ∀ k, k ≠ i → ∀ j, j < n → ent (addT n R v d i).1 k j = ent R k j := fun k hk j hj => by
    rw [a1 k j hj, if_neg (by omega), if_neg (by omega)]
  refine ⟨Tri.mk (fun k hk => ?_) fun k j hk hj => ?_, hrow, ?_⟩
  · rw [a1 k k hk, if_neg (by omega)]
    split
    · exact h0
    · exact hT.pos k hk
  · rw [a1 k j (by omega), if_neg (by omega), if_neg (by omega)]
    exact hT.zero k hk j hj
  · have hd2 := Int.emod_add_mul_ediv (ent R i i) (v.getD i 0)
    refine two_step (n := n) (i := i) (A := 0) (B := 1) (C := 1) (E := -(ent R i i / v.getD i 0)) (s := -1) (z := fun j => ent (addT n R v d i).1 i j - mask i v j) (z' := fun j => mask i (addT n R v d i).2 j - (ent R i j - ent R i i / v.getD i 0 * mask i v j)) hi (fun k _ hk j hj => hrow k hk j hj) (fun j hj => by grind) (fun j hj => by grind) ?_ ?_ (by grind)
    · refine hz _ (fun j hj hjn => ?_) fun j hj hjn => ?_
      · show ent (addT n R v d i).1 i j - mask i v j = 0
        rw [a1 i j hjn, if_neg (by omega)]
        unfold mask
        by_cases e : j = i
        · subst e; rw [if_pos ⟨rfl, rfl⟩, if_neg (by omega)]; omega
        · rw [if_neg (by omega), if_pos (by omega), hT.zero i hi j (show j < i by omega)]; rfl
      · show ∃ y, ent (addT n R v d i).1 i j - mask i v j = d * y
        rw [a1 i j hjn, if_pos ⟨rfl, hj⟩]
        unfold mask
        rw [if_neg (by omega)]
        obtain ⟨y, hy⟩ := mod_diff (v.getD j 0) d
        exact ⟨y, by omega⟩
    · refine hz _ (fun j hj hjn => ?_) fun j hj hjn => ?_
      · show mask i (addT n R v d i).2 j - (ent R i j - ent R i i / v.getD i 0 * mask i v j) = 0
        unfold mask
        by_cases e : j = i
        · subst e
          rw [if_neg (by omega), if_neg (by omega), a2 j hjn, if_neg (by omega), if_pos rfl]
          rw [Int.mul_comm] at hd2
          omega
        · rw [if_pos (by omega), if_pos (by omega), hT.zero i hi j (show j < i by omega)]
          omega
      · show ∃ y, mask i (addT n R v d i).2 j - (ent R i j - ent R i i / v.getD i 0 * mask i v j) = d * y
        unfold mask
        rw [if_neg (by omega), if_neg (by omega), a2 j hjn, if_pos hj]
        obtain ⟨y, hy⟩ := mod_diff (v.getD j 0) d
        obtain ⟨y2, hy2⟩ := mod_diff (ent R i j - ent R i i / v.getD i 0 * (v.getD j 0 % d)) d
        rw [hy2, hy]
        exact ⟨y2 - ent R i i / v.getD i 0 * y, by grind⟩
theorem addE_spec {n i : Nat} {d : Int} (hd : 0 < d) (hd9 : d ≤ 1000000000) (hi : i < n) : ∀ {t : Nat} {R : List (List Int)} {v : List Int}, LB R n d → VC v n → 0 ≤ v.getD i 0 → v.getD i 0 ≤ d → (v.getD i 0).toNat ≤ t → Tri (ent R) n → DZ (ent R) n i d →
    Tri (ent (addE n d i t R v).1) n ∧ (∀ k, k ≠ i → ∀ j, j < n → ent (addE n d i t R v).1 k j = ent R k j) ∧ ∀ g, Sp n (SV (ent (addE n d i t R v).1) n (mask i (addE n d i t R v).2)) g ↔ Sp n (SV (ent R) n (mask i v)) g
  | 0, R, v, h, hv, _, _, _, hT, _ => ⟨hT, fun _ _ _ _ => rfl, fun _ => Iff.rfl⟩
  | t + 1, R, v, h, hv, h0, h1, ht, hT, hz => by
    unfold addE
    by_cases hv0 : v.getD i 0 = 0
    · rw [if_pos hv0]
      exact ⟨hT, fun _ _ _ _ => rfl, fun _ => Iff.rfl⟩
    · rw [if_neg hv0]
      obtain ⟨a1, a2, a3, a4⟩ := LB.addT (n := n) hd hd9 h hv hi (by omega) h1
      obtain ⟨b1, b2, b3⟩ := addT_spec hd hd9 h hv hi (by omega) h1 hT hz
      obtain ⟨c1, c2, c3⟩ := addE_spec hd hd9 hi (t := t) a1 a2 a3 (by omega) (by omega) b1 (hz.same fun k hk _ j hj => b2 k (by omega) j hj)
      exact ⟨c1, fun k hk j hj => by rw [c2 k hk j hj, b2 k hk j hj], fun g => (c3 g).trans (b3 g)⟩
theorem SV_add {e : Nat → Nat → Int} {n : Nat} {w w' u : Nat → Int} {y : Int} (hu : Sp n (rowsP e n) u) (hw : ∀ j, j < n → w' j = w j + y * u j) (g : Nat → Int) : Sp n (SV e n w') g ↔ Sp n (SV e n w) g := by
  have hu' : ∀ w, Sp n (SV e n w) u := fun w => hu.mono fun g hg => .gen (.inl hg)
  constructor
  · refine fun hg => hg.mono fun g hg => ?_
    rcases hg with hg | rfl
    · exact .gen (.inl hg)
    · exact .add (.gen (.inr rfl)) ((hu' w).smul y (u := fun j => y * u j) fun _ _ => rfl) hw
  · refine fun hg => hg.mono fun g hg => ?_
    rcases hg with hg | rfl
    · exact .gen (.inl hg)
    · exact Sp.sub (.gen (.inr rfl)) ((hu' w').smul y (u := fun j => y * u j) fun _ _ => rfl) fun j hj => by rw [hw j hj]; omega
structure CI (n : Nat) (d : Int) (R0 : List (List Int)) (v0 : List Int) (i : Nat) (R : List (List Int)) (v : List Int) : Prop where
  tri : Tri (ent R) n
  rows : ∀ k, i ≤ k → k < n → ∀ j, j < n → ent R k j = ent R0 k j
  sp : ∀ g, Sp n (SV (ent R) n (mask i v)) g ↔ Sp n (SV (ent R0) n (mask 0 v0)) g
theorem CI.dz {n : Nat} {d : Int} {R0 R : List (List Int)} {v0 v : List Int} {i : Nat} (h : CI n d R0 v0 i R v) (hT : Tri (ent R0) n) (hF : Full (ent R0) n d) : DZ (ent R) n i d := DZ.same (fun z h1 h2 => hF.gt hT h1 h2) fun k hk hkn j hj => h.rows k (by omega) hkn j hj
theorem CI.unit {n : Nat} {d : Int} {R0 R : List (List Int)} {v0 v : List Int} {i : Nat} (h : CI n d R0 v0 i R v) (hT : Tri (ent R0) n) (hF : Full (ent R0) n d) (hi : i < n) : Sp n (rowsP (ent R) n) (unitV d i) := by
  refine (hT.ge_of (i := i) (hF i hi) fun j hj _ => if_neg (by omega)).mono fun g ⟨k, h1, h2, he⟩ => ?_
  subst he
  exact Sp.of_eq (Sp.row h2) fun j hj => (h.rows k h1 h2 j hj).symm
theorem mask_set {n : Nat} {d : Int} {v : List Int} {i : Nat} (hl : v.length = n) (hi : i < n) : ∃ y : Int, ∀ j, j < n → mask i (v.set i (v.getD i 0 % d)) j = mask i v j + y * unitV d i j := by
  obtain ⟨y, hy⟩ := mod_diff (v.getD i 0) d
  refine ⟨y, fun j hj => ?_⟩
  unfold mask unitV
  rw [getD_set_if (by omega)]
  by_cases e : j = i
  · subst e
    rw [if_neg (by omega), if_pos rfl, if_neg (by omega), if_pos rfl, hy, Int.mul_comm y]
  · rw [if_neg e, if_neg e]
    split <;> simp
theorem CI_addS {n : Nat} {d : Int} {R0 R : List (List Int)} {v0 v : List Int} {i : Nat} (hd : 0 < d) (hd9 : d ≤ 1000000000) (hT0 : Tri (ent R0) n) (hF0 : Full (ent R0) n d) (hLB : LB R n d) (hVC : VC v n) (hi : i < n) (h : CI n d R0 v0 i R v) : CI n d R0 v0 (i + 1) (addS n R v d i).1 (addS n R v d i).2 := by
  have hm := emod_in (x := v.getD i 0) hd
  have hl := hVC.1
  have hg : (v.set i (v.getD i 0 % d)).getD i 0 = v.getD i 0 % d := getD_set_self (by omega)
  have hV1 : VC (v.set i (v.getD i 0 % d)) n := hVC.set hi (x := v.getD i 0 % d) ⟨by omega, by omega⟩
  obtain ⟨b1, b2, b3⟩ := addE_spec (n := n) hd hd9 hi (t := (v.getD i 0 % d).toNat) hLB hV1 (by rw [hg]; omega) (by rw [hg]; omega) (by rw [hg]; omega) h.tri (h.dz hT0 hF0)
  obtain ⟨_, _, c3⟩ := LB.addE (n := n) hd hd9 hi (t := (v.getD i 0 % d).toNat) hLB hV1 (by rw [hg]; omega) (by rw [hg]; omega) (by rw [hg]; omega)
  obtain ⟨y, hy⟩ := mask_set (d := d) hl hi
  refine ⟨b1, fun k hk hkn j hj => ?_, fun g => ?_⟩
  · show ent (addE n d i _ R _).1 k j = _
    rw [b2 k (by omega) j hj, h.rows k (by omega) hkn j hj]
  · have e : mask (i + 1) (addS n R v d i).2 = mask i (addS n R v d i).2 := by
      funext j
      unfold mask
      by_cases hj : j < i
      · rw [if_pos (by omega), if_pos hj]
      · by_cases hj2 : j = i
        · subst hj2
          rw [if_pos (by omega), if_neg (by omega)]
          exact c3.symm
        · rw [if_neg (by omega), if_neg hj]
    rw [e]
    exact (b3 g).trans ((SV_add (h.unit hT0 hF0 hi) hy g).trans (h.sp g))
theorem CI.start {n : Nat} {d : Int} {R0 : List (List Int)} {v0 : List Int} (hT : Tri (ent R0) n) : CI n d R0 v0 0 R0 v0 := ⟨hT, fun _ _ _ _ _ => rfl, fun _ => Iff.rfl⟩
theorem CI_addI {n : Nat} {d : Int} {R0 : List (List Int)} {v0 : List Int} (hd : 0 < d) (hd9 : d ≤ 1000000000) (hT0 : Tri (ent R0) n) (hF0 : Full (ent R0) n d) (hLB : LB R0 n d) (hVC : VC v0 n) : ∀ {i : Nat}, i ≤ n → CI n d R0 v0 i (addI n R0 v0 d i).1 (addI n R0 v0 d i).2
  | 0, _ => CI.start hT0
  | i + 1, hi => by
    obtain ⟨h1, h2⟩ := LB.addI hd hd9 hLB hVC (i := i) (by omega)
    exact CI_addS hd hd9 hT0 hF0 h1 h2 (by omega) (CI_addI hd hd9 hT0 hF0 hLB hVC (i := i) (by omega))
theorem CI.done {n : Nat} {d : Int} {R0 R : List (List Int)} {v0 v : List Int} (h : CI n d R0 v0 n R v) (hF0 : Full (ent R0) n d) : Tri (ent R) n ∧ Full (ent R) n d ∧ ∀ g, Sp n (rowsP (ent R) n) g ↔ Sp n (SV (ent R0) n (mask 0 v0)) g := by
  have key : ∀ g, Sp n (rowsP (ent R) n) g ↔ Sp n (SV (ent R0) n (mask 0 v0)) g := fun g => by
    refine Iff.trans ⟨fun hg => hg.mono fun g hg => .gen (.inl hg), fun hg => hg.mono fun g hg => ?_⟩ (h.sp g)
    rcases hg with hg | rfl
    · exact .gen hg
    · exact .zero fun j hj => if_pos hj
  exact ⟨h.tri, fun j hj => (key _).2 ((hF0 j hj).mono fun g hg => .gen (.inl hg)), key⟩
theorem euclid_bez : ∀ (b a : Nat), ((euclidF a b).1 : Int) = (euclidF a b).2.1 * a + (euclidF a b).2.2 * b := by
  intro b
  induction b using Nat.strongRecOn with
  | ind b ih =>
    intro a
    by_cases hb : b = 0
    · subst hb
      rw [euclidF_zero]
      simp
    · rw [euclidF_pos hb]
      have h1 := ih (a % b) (Nat.mod_lt _ (by omega)) b
      have h2 := Nat.div_add_mod a b
      generalize euclidF b (a % b) = e at *
      show (e.1 : Int) = e.2.2 * a + (e.2.1 - ((a / b : Nat) : Int) * e.2.2) * b
      have h3 : (a : Int) = b * ((a / b : Nat) : Int) + ((a % b : Nat) : Int) := by omega
      rw [h1]
      generalize ((a / b : Nat) : Int) = q at *
      generalize ((a % b : Nat) : Int) = r at *
      rw [h3]
      grind
theorem CI_insS {n : Nat} {d : Int} {R0 R : List (List Int)} {v0 v : List Int} {i : Nat} (hd : 0 < d) (hT0 : Tri (ent R0) n) (hF0 : Full (ent R0) n d) (hLB : LB R n d) (hVB : VB v n d) (hi : i < n) (h : CI n d R0 v0 i R v) : CI n d R0 v0 (i + 1) (insS n R v d i).1 (insS n R v d i).2 := by
  have hm := emod_in (x := v.getD i 0) hd
  have hl := hVB.1
  have hg : (v.set i (v.getD i 0 % d)).getD i 0 = v.getD i 0 % d := getD_set_self (by omega)
  have hV1 : VB (v.set i (v.getD i 0 % d)) n d := hVB.set hi hm
  obtain ⟨y, hy⟩ := mask_set (d := d) hl hi
  have hsp1 := fun g => (SV_add (h.unit hT0 hF0 hi) hy g).trans (h.sp g)
  have hz := h.dz hT0 hF0
  unfold insS
  by_cases h0 : v.getD i 0 % d = 0
  · rw [if_pos h0]
    refine ⟨h.tri, fun k hk hkn j hj => h.rows k (by omega) hkn j hj, fun g => ?_⟩
    have e : mask (i + 1) (v.set i (v.getD i 0 % d)) = mask i (v.set i (v.getD i 0 % d)) := by
      funext j
      unfold mask
      by_cases hj : j < i
      · rw [if_pos (by omega), if_pos hj]
      · by_cases hj2 : j = i
        · subst hj2
          rw [if_pos (by omega), if_neg (by omega), hg, h0]
        · rw [if_neg (by omega), if_neg hj]
    show Sp n (SV (ent R) n (mask (i + 1) (v.set i (v.getD i 0 % d)))) g ↔ _
    rw [e]
    exact hsp1 g
  · rw [if_neg h0]
    have hdi := hLB.diag i hi
    have eA : ((ent R i i).toNat : Int) = ent R i i := Int.toNat_of_nonneg (by omega)
    have eZ : ((v.getD i 0 % d).toNat : Int) = v.getD i 0 % d := Int.toNat_of_nonneg hm.1
    have hbz := euclid_bez (v.getD i 0 % d).toNat (ent R i i).toNat
    have hgc := euclid_gcd (v.getD i 0 % d).toNat (ent R i i).toNat
    have hd1 := Nat.gcd_dvd_left (ent R i i).toNat (v.getD i 0 % d).toNat
    have hd2 := Nat.gcd_dvd_right (ent R i i).toNat (v.getD i 0 % d).toNat
    have hgp := Nat.gcd_pos_of_pos_left (v.getD i 0 % d).toNat (show 0 < (ent R i i).toNat by omega)
    rw [← hgc] at hd1 hd2 hgp
    rw [eA, eZ] at hbz
    generalize euclidF (ent R i i).toNat (v.getD i 0 % d).toNat = e at *
    obtain ⟨g0, X, Y⟩ := e
    simp only at hbz hd1 hd2 hgp ⊢
    obtain ⟨p, hp⟩ := hd1
    obtain ⟨q, hq⟩ := hd2
    have hpA : ent R i i = (g0 : Int) * (p : Int) := by rw [← eA, hp]; simp
    have hqZ : v.getD i 0 % d = (g0 : Int) * (q : Int) := by rw [← eZ, hq]; simp
    have hg0 : (g0 : Int) ≠ 0 := by omega
    have ea : ent R i i / (g0 : Int) = p := by rw [hpA]; exact Int.mul_ediv_cancel_left _ hg0
    have eb : v.getD i 0 % d / (g0 : Int) = q := by rw [hqZ]; exact Int.mul_ediv_cancel_left _ hg0
    have hdet : X * (p : Int) + Y * (q : Int) = 1 := by
      have h1 : (g0 : Int) * 1 = (g0 : Int) * (X * (p : Int) + Y * (q : Int)) := by
        rw [hpA, hqZ] at hbz
        grind
      exact (Int.eq_of_mul_eq_mul_left hg0 h1).symm
    rw [ea, eb]
    obtain ⟨a1, a2⟩ := insJ_ent (i := i) (X := X) (Y := Y) (a := (p : Int)) (b := (q : Int)) hd hLB hV1 (n - (i + 1)) (by omega)
    obtain ⟨c1, c2⟩ := LB.insJ (i := i) (X := X) (Y := Y) (a := (p : Int)) (b := (q : Int)) hd (t := n - (i + 1)) hLB hV1 (by omega)
    have b1 := fun k j => ent_setE (x := (g0 : Int)) (i' := k) (j' := j) c1.len c1.row hi hi
    have r1 : ∀ k j, j < n → ent (setE (insJ R (v.set i (v.getD i 0 % d)) i X Y (p : Int) (q : Int) d (n - (i + 1))).1 i i (g0 : Int)) k j = if k = i ∧ j = i then (g0 : Int) else if k = i ∧ i < j then (X * ent R i j + Y * v.getD j 0) % d else ent R k j := fun k j hj => by
      rw [b1, a1]
      by_cases hc : k = i ∧ j = i
      · rw [if_pos hc, if_pos hc]
      · rw [if_neg hc, if_neg hc]
        by_cases hc2 : k = i ∧ i < j
        · rw [if_pos (by omega), if_pos hc2, getD_set_ne (by omega)]
        · rw [if_neg (by omega), if_neg hc2]
    have r2 : ∀ j, i < j → j < n → (insJ R (v.set i (v.getD i 0 % d)) i X Y (p : Int) (q : Int) d (n - (i + 1))).2.getD j 0 = ((p : Int) * v.getD j 0 - (q : Int) * ent R i j) % d := fun j h1 h2 => by
      rw [a2, if_pos (by omega), getD_set_ne (by omega)]
    generalize setE (insJ R (v.set i (v.getD i 0 % d)) i X Y (p : Int) (q : Int) d (n - (i + 1))).1 i i (g0 : Int) = R' at *
    generalize (insJ R (v.set i (v.getD i 0 % d)) i X Y (p : Int) (q : Int) d (n - (i + 1))).2 = v' at *
    have hrow : ∀ k, k ≠ i → ∀ j, j < n → ent R' k j = ent R k j := fun k hk j hj => by
      rw [r1 k j hj, if_neg (by omega), if_neg (by omega)]
    refine ⟨Tri.mk (fun k hk => ?_) fun k j hk hj => ?_, fun k hk hkn j hj => by rw [hrow k (by omega) j hj, h.rows k (by omega) hkn j hj], fun g => ?_⟩
    · rw [r1 k k hk]
      split
      · omega
      · rw [if_neg (by omega)]
        exact h.tri.pos k hk
    · rw [r1 k j (by omega), if_neg (by omega), if_neg (by omega)]
      exact h.tri.zero k hk j hj
    · refine Iff.trans (two_step (n := n) (i := i) (e := ent R) (w := mask i (v.set i (v.getD i 0 % d))) (A := X) (B := Y) (C := -(q : Int)) (E := p) (s := 1) (z := fun j => ent R' i j - (X * ent R i j + Y * mask i (v.set i (v.getD i 0 % d)) j)) (z' := fun j => mask (i + 1) v' j - ((p : Int) * mask i (v.set i (v.getD i 0 % d)) j - (q : Int) * ent R i j)) hi (fun k _ hk j hj => hrow k hk j hj) (fun j hj => by grind) (fun j hj => by grind) ?_ ?_ (by grind) g) (hsp1 g)
      · refine hz _ (fun j hj hjn => ?_) fun j hj hjn => ?_
        · show ent R' i j - (X * ent R i j + Y * mask i (v.set i (v.getD i 0 % d)) j) = 0
          rw [r1 i j hjn]
          unfold mask
          by_cases e : j = i
          · subst e
            rw [if_pos ⟨rfl, rfl⟩, if_neg (by omega), hg]
            omega
          · rw [if_neg (by omega), if_neg (by omega), if_pos (by omega), h.tri.zero i hi j (show j < i by omega)]
            simp
        · show ∃ y, ent R' i j - (X * ent R i j + Y * mask i (v.set i (v.getD i 0 % d)) j) = d * y
          rw [r1 i j hjn, if_neg (by omega), if_pos ⟨rfl, hj⟩]
          unfold mask
          rw [if_neg (by omega), getD_set_ne (by omega)]
          obtain ⟨y, hy⟩ := mod_diff (X * ent R i j + Y * v.getD j 0) d
          exact ⟨y, by omega⟩
      · refine hz _ (fun j hj hjn => ?_) fun j hj hjn => ?_
        · show mask (i + 1) v' j - ((p : Int) * mask i (v.set i (v.getD i 0 % d)) j - (q : Int) * ent R i j) = 0
          unfold mask
          rw [if_pos (by omega)]
          by_cases e : j = i
          · subst e
            rw [if_neg (by omega), hg, hpA, hqZ]
            grind
          · rw [if_pos (by omega), h.tri.zero i hi j (show j < i by omega)]
            simp
        · show ∃ y, mask (i + 1) v' j - ((p : Int) * mask i (v.set i (v.getD i 0 % d)) j - (q : Int) * ent R i j) = d * y
          unfold mask
          rw [if_neg (by omega), if_neg (by omega), r2 j hj hjn, getD_set_ne (by omega)]
          obtain ⟨y, hy⟩ := mod_diff ((p : Int) * v.getD j 0 - (q : Int) * ent R i j) d
          exact ⟨y, by omega⟩
theorem CI_insI {n : Nat} {d : Int} {R0 : List (List Int)} {v0 : List Int} (hd : 0 < d) (hT0 : Tri (ent R0) n) (hF0 : Full (ent R0) n d) (hLB : LB R0 n d) (hVB : VB v0 n d) : ∀ {i : Nat}, i ≤ n → CI n d R0 v0 i (insI n R0 v0 d i).1 (insI n R0 v0 d i).2
  | 0, _ => CI.start hT0
  | i + 1, hi => by
    obtain ⟨h1, h2⟩ := LB.insI hd hLB hVB (i := i) (by omega)
    exact CI_insS hd hT0 hF0 h1 h2 (by omega) (CI_insI hd hT0 hF0 hLB hVB (i := i) (by omega))
end Go.Proofs.Ytnilimjkibimcaa

