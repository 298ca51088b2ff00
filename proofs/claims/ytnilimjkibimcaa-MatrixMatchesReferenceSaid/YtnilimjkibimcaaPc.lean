import Derived.Test.YtnilimjkibimcaaPa
set_option linter.unusedSimpArgs false
set_option linter.unusedVariables false

namespace Go.Proofs.Ytnilimjkibimcaa
open Go.Zz
inductive Sp (N : Nat) (S : (Nat → Int) → Prop) : (Nat → Int) → Prop
  | gen {v : Nat → Int} : S v → Sp N S v
  | zero {v : Nat → Int} : (∀ j, j < N → v j = 0) → Sp N S v
  | add {u v w : Nat → Int} : Sp N S v → Sp N S w → (∀ j, j < N → u j = v j + w j) → Sp N S u
  | neg {u v : Nat → Int} : Sp N S v → (∀ j, j < N → u j = -v j) → Sp N S u
theorem Sp.of_eq {N : Nat} {S : (Nat → Int) → Prop} {v w : Nat → Int} (h : Sp N S v) (he : ∀ j, j < N → w j = v j) : Sp N S w := .add h (.zero (v := fun _ => 0) fun _ _ => rfl) fun j hj => by rw [he j hj, Int.add_zero]
theorem Sp.mono {N : Nat} {S S' : (Nat → Int) → Prop} (h : ∀ g, S g → Sp N S' g) {v : Nat → Int} (hv : Sp N S v) : Sp N S' v := by
  induction hv with
  | gen hg => exact h _ hg
  | zero hz => exact .zero hz
  | add _ _ he i1 i2 => exact .add i1 i2 he
  | neg _ he i1 => exact .neg i1 he
theorem Sp.sub {N : Nat} {S : (Nat → Int) → Prop} {u v w : Nat → Int} (hv : Sp N S v) (hw : Sp N S w) (he : ∀ j, j < N → u j = v j - w j) : Sp N S u :=
  .add hv (.neg (u := fun j => -w j) hw fun j _ => rfl) fun j hj => by rw [he j hj]; rfl
theorem Sp.nsmul {N : Nat} {S : (Nat → Int) → Prop} {v : Nat → Int} (hv : Sp N S v) : ∀ k : Nat, Sp N S fun j => (k : Int) * v j
  | 0 => .zero fun j _ => by simp
  | k + 1 => .add (Sp.nsmul hv k) hv fun j _ => by
    rw [Int.natCast_add, Int.add_mul]
    simp
theorem Sp.smul {N : Nat} {S : (Nat → Int) → Prop} {u v : Nat → Int} (hv : Sp N S v) (c : Int) (he : ∀ j, j < N → u j = c * v j) : Sp N S u := by
  rcases Int.le_total 0 c with h | h
  · exact (hv.nsmul c.toNat).of_eq fun j hj => by rw [he j hj, Int.toNat_of_nonneg h]
  · refine .neg (hv.nsmul (-c).toNat) fun j hj => ?_
    rw [he j hj, Int.toNat_of_nonneg (by omega), Int.neg_mul, Int.neg_neg]
theorem Sp.sum {N m : Nat} {S : (Nat → Int) → Prop} {f : Nat → Nat → Int} {c : Nat → Int} {u : Nat → Int} (h : ∀ i, i < m → Sp N S (f i)) (he : ∀ j, j < N → u j = psumF (fun i => c i * f i j) m) : Sp N S u := by
  have key : ∀ k, k ≤ m → Sp N S fun j => psumF (fun i => c i * f i j) k := fun k => by
    induction k with
    | zero => exact fun _ => .zero fun j _ => rfl
    | succ k ih => exact fun hk => .add (ih (by omega)) ((h k (by omega)).smul (c k) (u := fun j => c k * f k j) fun _ _ => rfl) fun j _ => rfl
  exact (key m (Nat.le_refl _)).of_eq he
def rowsP (e : Nat → Nat → Int) (m : Nat) (g : Nat → Int) : Prop := ∃ i, i < m ∧ g = e i
theorem Sp.row {N m : Nat} {e : Nat → Nat → Int} {i : Nat} (hi : i < m) : Sp N (rowsP e m) (e i) := .gen ⟨i, hi, rfl⟩
theorem Sp.coef {N m : Nat} {e : Nat → Nat → Int} {v : Nat → Int} (h : Sp N (rowsP e m) v) : ∃ c : Nat → Int, ∀ j, j < N → v j = psumF (fun i => c i * e i j) m := by
  induction h with
  | gen hg =>
    obtain ⟨i, hi, rfl⟩ := hg
    refine ⟨fun k => if k = i then 1 else 0, fun j _ => ?_⟩
    rw [psumF_one (k := i) hi fun t _ ht => by
      show (if t = i then (1 : Int) else 0) * e t j = 0
      rw [if_neg ht, Int.zero_mul]]
    show e i j = (if i = i then (1 : Int) else 0) * e i j
    rw [if_pos rfl, Int.one_mul]
  | zero hz => exact ⟨fun _ => 0, fun j hj => by rw [hz j hj]; simp only [Int.zero_mul]; exact (psumF_zero m).symm⟩
  | add _ _ he i1 i2 =>
    obtain ⟨c1, h1⟩ := i1
    obtain ⟨c2, h2⟩ := i2
    refine ⟨fun k => c1 k + c2 k, fun j hj => ?_⟩
    rw [he j hj, h1 j hj, h2 j hj, ← psumF_add]
    exact psumF_congr fun k _ => (Int.add_mul _ _ _).symm
  | neg _ he i1 =>
    obtain ⟨c1, h1⟩ := i1
    refine ⟨fun k => -c1 k, fun j hj => ?_⟩
    rw [he j hj, h1 j hj, ← psumF_neg]
    exact psumF_congr fun k _ => (Int.neg_mul _ _).symm
structure TF (N : Nat) (h : Nat → Nat → Int) (m : Nat) (p : Nat → Nat) : Prop where
  plt : ∀ i, i < m → p i < N
  up : ∀ i k, i < k → k < m → p i < p k
  pos : ∀ i, i < m → 0 < h i (p i)
  zero : ∀ i, i < m → ∀ j, j < p i → h i j = 0
structure HF (N : Nat) (h : Nat → Nat → Int) (m : Nat) (p : Nat → Nat) : Prop extends TF N h m p where
  red : ∀ i k, i < k → k < m → 0 ≤ h i (p k) ∧ h i (p k) < h k (p k)
theorem TF.lead {N m : Nat} {h : Nat → Nat → Int} {p : Nat → Nat} (hT : TF N h m p) {c : Nat → Int} {k : Nat} (hk : k < m) (hc : ∀ i, i < k → c i = 0) : psumF (fun i => c i * h i (p k)) m = c k * h k (p k) :=
  psumF_one hk fun t ht hne => by
    by_cases hlt : t < k
    · rw [hc t hlt, Int.zero_mul]
    · rw [hT.zero t ht (p k) (hT.up k t (by omega) ht), Int.mul_zero]
theorem TF.early {N m : Nat} {h : Nat → Nat → Int} {p : Nat → Nat} (hT : TF N h m p) {c : Nat → Int} {k j : Nat} (hj : ∀ i, k ≤ i → i < m → j < p i) (hc : ∀ i, i < k → c i = 0) : psumF (fun i => c i * h i j) m = 0 := by
  rw [← psumF_zero m]
  refine psumF_congr fun i hi => ?_
  by_cases hlt : i < k
  · rw [hc i hlt, Int.zero_mul]
  · rw [hT.zero i hi j (hj i (by omega) hi), Int.mul_zero]
theorem TF.coef0 {N m : Nat} {h : Nat → Nat → Int} {p : Nat → Nat} (hT : TF N h m p) {v c : Nat → Int} (hv : ∀ j, j < N → v j = psumF (fun i => c i * h i j) m) {t : Nat} (ht : ∀ i, i < t → i < m → v (p i) = 0) : ∀ i, i < t → i < m → c i = 0 := by
  intro i
  induction i using Nat.strongRecOn with
  | ind i ih =>
    intro hi him
    have h1 := ht i hi him
    rw [hv _ (hT.plt i him), hT.lead him fun k hk => ih k hk (by omega) (by omega)] at h1
    rcases Int.mul_eq_zero.1 h1 with h | h
    · exact h
    · have := hT.pos i him; omega
theorem TF.mono_p {N m : Nat} {h : Nat → Nat → Int} {p : Nat → Nat} (hT : TF N h m p) {i k : Nat} (hik : i ≤ k) (hk : k < m) : p i ≤ p k := by
  by_cases e : i = k
  · subst e; exact Nat.le_refl _
  · exact Nat.le_of_lt (hT.up i k (by omega) hk)
theorem TF.leads {N m : Nat} {h : Nat → Nat → Int} {p : Nat → Nat} (hT : TF N h m p) {v : Nat → Int} (hv : Sp N (rowsP h m) v) {q : Nat} (hq : q < N) (h0 : ∀ j, j < q → v j = 0) (hne : v q ≠ 0) : ∃ k, k < m ∧ p k = q ∧ ∃ c : Int, v q = c * h k q := by
  obtain ⟨c, hc⟩ := hv.coef
  by_cases hex : ∃ k, k < m ∧ q ≤ p k
  · obtain ⟨k, hk, hmin⟩ : ∃ k, (k < m ∧ q ≤ p k) ∧ ∀ i, i < k → ¬ (i < m ∧ q ≤ p i) := by
      obtain ⟨k0, hk0⟩ := hex
      have key : ∀ n, (n < m ∧ q ≤ p n) → ∃ k, (k < m ∧ q ≤ p k) ∧ ∀ i, i < k → ¬ (i < m ∧ q ≤ p i) := by
        intro n
        induction n using Nat.strongRecOn with
        | ind n ih =>
          intro hn
          by_cases hs : ∃ i, i < n ∧ (i < m ∧ q ≤ p i)
          · obtain ⟨i, h1, h2⟩ := hs
            exact ih i h1 h2
          · exact ⟨n, hn, fun i hi hq => hs ⟨i, hi, hq⟩⟩
      exact key k0 hk0
    have hc0 := hT.coef0 hc (t := k) fun i hi him => h0 _ (by
      have := hmin i hi
      apply Decidable.byContradiction
      intro hge
      exact this ⟨him, by omega⟩)
    by_cases he : p k = q
    · refine ⟨k, hk.1, he, c k, ?_⟩
      rw [hc q hq, ← he]
      exact hT.lead hk.1 fun i hi => hc0 i hi (by have := hk.1; omega)
    · exfalso
      apply hne
      rw [hc q hq]
      exact hT.early (k := k) (fun i hi him => by have := hT.mono_p hi him; have := hk.2; omega) fun i hi => hc0 i hi (by have := hk.1; omega)
  · exfalso
    apply hne
    have hc0 := hT.coef0 hc (t := m) fun i hi him => h0 _ (by
      apply Decidable.byContradiction
      intro hge
      exact hex ⟨i, him, by omega⟩)
    rw [hc q hq, ← psumF_zero m]
    exact psumF_congr fun i hi => by rw [hc0 i hi hi, Int.zero_mul]
theorem pos_dvd_eq {a b x y : Int} (ha : 0 < a) (hb : 0 < b) (h1 : a = x * b) (h2 : b = y * a) : a = b := by
  have hx : 0 < x := by
    apply Decidable.byContradiction
    intro h
    have := Int.mul_nonpos_of_nonpos_of_nonneg (show x ≤ 0 by omega) (show 0 ≤ b by omega)
    omega
  have hy : 0 < y := by
    apply Decidable.byContradiction
    intro h
    have := Int.mul_nonpos_of_nonpos_of_nonneg (show y ≤ 0 by omega) (show 0 ≤ a by omega)
    omega
  have h3 := Int.mul_le_mul_of_nonneg_right (show 1 ≤ x by omega) (show 0 ≤ b by omega)
  have h4 := Int.mul_le_mul_of_nonneg_right (show 1 ≤ y by omega) (show 0 ≤ a by omega)
  omega
theorem TF.pivots {N m m' : Nat} {h h' : Nat → Nat → Int} {p p' : Nat → Nat} (hT : TF N h m p) (hT' : TF N h' m' p') (h1 : ∀ i, i < m → Sp N (rowsP h' m') (h i)) (h2 : ∀ i, i < m' → Sp N (rowsP h m) (h' i)) : m = m' ∧ ∀ i, i < m → p i = p' i ∧ h i (p i) = h' i (p i) := by
  have e1 : ∀ k, k < m → ∃ k', k' < m' ∧ p' k' = p k := fun k hk => by
    obtain ⟨k', a1, a2, _⟩ := hT'.leads (h1 k hk) (hT.plt k hk) (hT.zero k hk) (by have := hT.pos k hk; omega)
    exact ⟨k', a1, a2⟩
  have e2 : ∀ k, k < m' → ∃ k', k' < m ∧ p k' = p' k := fun k hk => by
    obtain ⟨k', a1, a2, _⟩ := hT.leads (h2 k hk) (hT'.plt k hk) (hT'.zero k hk) (by have := hT'.pos k hk; omega)
    exact ⟨k', a1, a2⟩
  have key : ∀ k, (k < m → k < m' ∧ p k = p' k) ∧ (k < m' → k < m) := by
    intro k
    induction k using Nat.strongRecOn with
    | ind k ih =>
      have a1 : k < m → k < m' := fun hk => by
        obtain ⟨k', b1, b2⟩ := e1 k hk
        apply Decidable.byContradiction
        intro hge
        have h3 := ((ih k' (by omega)).2 b1)
        have h4 := ((ih k' (by omega)).1 h3).2
        have := hT.up k' k (by omega) hk
        omega
      have a2 : k < m' → k < m := fun hk => by
        obtain ⟨k', b1, b2⟩ := e2 k hk
        apply Decidable.byContradiction
        intro hge
        have h3 := ((ih k' (by omega)).1 b1)
        have := hT'.up k' k (by omega) hk
        omega
      refine ⟨fun hk => ⟨a1 hk, ?_⟩, a2⟩
      have hk' := a1 hk
      obtain ⟨s, b1, b2⟩ := e1 k hk
      obtain ⟨t, c1, c2⟩ := e2 k hk'
      have d1 : k ≤ s := by
        apply Decidable.byContradiction
        intro hlt
        have h4 := ((ih s (by omega)).1 ((ih s (by omega)).2 b1)).2
        have := hT.up s k (by omega) hk
        omega
      have d2 : k ≤ t := by
        apply Decidable.byContradiction
        intro hlt
        have h4 := ((ih t (by omega)).1 c1).2
        have := hT'.up t k (by omega) hk'
        omega
      have := hT'.mono_p d1 b1
      have := hT.mono_p d2 c1
      omega
  have hm : m = m' := by
    apply Nat.le_antisymm
    · apply Decidable.byContradiction
      intro hlt
      have := ((key m').1 (by omega)).1
      omega
    · apply Decidable.byContradiction
      intro hlt
      have := (key m).2 (by omega)
      omega
  refine ⟨hm, fun i hi => ?_⟩
  obtain ⟨hi', hp⟩ := (key i).1 hi
  refine ⟨hp, ?_⟩
  obtain ⟨s, b1, b2, x, hx⟩ := hT'.leads (h1 i hi) (hT.plt i hi) (hT.zero i hi) (by have := hT.pos i hi; omega)
  obtain ⟨t, c1, c2, y, hy⟩ := hT.leads (h2 i hi') (hT'.plt i hi') (hT'.zero i hi') (by have := hT'.pos i hi'; omega)
  have es : s = i := by
    rcases Nat.lt_trichotomy s i with h | h | h
    · have := hT'.up s i h hi'; omega
    · exact h
    · have := hT'.up i s h b1; omega
  have et : t = i := by
    rcases Nat.lt_trichotomy t i with h | h | h
    · have := hT.up t i h hi; omega
    · exact h
    · have := hT.up i t h c1; omega
  subst es
  subst et
  have p2 := hT'.pos t hi'
  rw [← hp] at p2 hy
  exact pos_dvd_eq (hT.pos t hi) p2 hx hy
theorem HF.unique {N m m' : Nat} {h h' : Nat → Nat → Int} {p p' : Nat → Nat} (hT : HF N h m p) (hT' : HF N h' m' p') (h1 : ∀ i, i < m → Sp N (rowsP h' m') (h i)) (h2 : ∀ i, i < m' → Sp N (rowsP h m) (h' i)) : m = m' ∧ ∀ i, i < m → p i = p' i ∧ ∀ j, j < N → h i j = h' i j := by
  obtain ⟨hm, hp⟩ := hT.toTF.pivots hT'.toTF h1 h2
  refine ⟨hm, fun i hi => ⟨(hp i hi).1, ?_⟩⟩
  have hd : Sp N (rowsP h m) fun j => h i j - h' i j := Sp.sub (Sp.row hi) (h2 i (by omega)) fun j _ => rfl
  obtain ⟨c, hc⟩ := hd.coef
  have hz : ∀ k, k < m → k ≤ i → c k = 0 := fun k hk hki => hT.toTF.coef0 hc (t := i + 1) (fun k hk' hkm => by
    show h i (p k) - h' i (p k) = 0
    by_cases e : k = i
    · subst e
      rw [(hp k hi).2]
      omega
    · rw [hT.zero i hi (p k) (hT.up k i (by omega) hi), hT'.zero i (by omega) (p k) (by rw [← (hp i hi).1]; exact hT.up k i (by omega) hi)]
      rfl) k (by omega) hk
  have hall : ∀ k, k < m → c k = 0 := by
    intro k
    induction k using Nat.strongRecOn with
    | ind k ih =>
      intro hk
      by_cases hki : k ≤ i
      · exact hz k hk hki
      · have h3 := hc (p k) (hT.plt k hk)
        rw [hT.toTF.lead hk fun s hs => ih s hs (by omega)] at h3
        have h4 := hT.red i k (by omega) hk
        have h5 := hT'.red i k (by omega) (by omega)
        rw [← (hp k hk).1, ← (hp k hk).2] at h5
        have h6 := hT.pos k hk
        have h7 : h i (p k) - h' i (p k) = c k * h k (p k) := h3
        have h8 : -(h k (p k)) < c k * h k (p k) ∧ c k * h k (p k) < h k (p k) := by omega
        rcases Int.lt_trichotomy (c k) 0 with hh | hh | hh
        · have := Int.mul_le_mul_of_nonneg_right (show c k ≤ -1 by omega) (show 0 ≤ h k (p k) by omega)
          omega
        · exact hh
        · have := Int.mul_le_mul_of_nonneg_right (show 1 ≤ c k by omega) (show 0 ≤ h k (p k) by omega)
          omega
  intro j hj
  have h3 := hc j hj
  have h4 : psumF (fun i => c i * h i j) m = 0 := by
    rw [← psumF_zero m]
    exact psumF_congr fun k hk => by rw [hall k hk, Int.zero_mul]
  rw [h4] at h3
  have h5 : h i j - h' i j = 0 := h3
  omega
end Go.Proofs.Ytnilimjkibimcaa

