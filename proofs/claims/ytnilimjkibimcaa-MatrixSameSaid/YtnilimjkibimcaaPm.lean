import Derived.Test.YtnilimjkibimcaaPl

set_option linter.unusedSimpArgs false
set_option linter.unusedVariables false
namespace Go.Proofs.Ytnilimjkibimcaa
open Go.Zz

/-! ### Rows changed have the lattice of the rows -/
def SixR (R : List (List Int)) : Prop := ∀ r ∈ R, r.length = 6
theorem SixR.six {R : List (List Int)} (h : SixR R) : Six R := fun i hi => h _ (row_mem hi)
theorem swap_ent {R : List (List Int)} {i k : Nat} (hi : i < R.length) (hk : k < R.length) (t j : Nat) : ent (swapR R i k) t j = if t = k then ent R i j else if t = i then ent R k j else ent R t j := by
  unfold ent rw_
  rw [swap_row hi hk]
  split
  · rfl
  · split <;> rfl
theorem neg_ent {R : List (List Int)} (h6 : SixR R) {i k : Nat} (hi : i < R.length) (hk : k < R.length) : (negC (swapR R i k) k 6).length = R.length ∧ SixR (negC (swapR R i k) k 6) ∧ ∀ t j, j < 6 → ent (negC (swapR R i k) k 6) t j = if t = k then -ent R i j else if t = i then ent R k j else ent R t j := by
  obtain ⟨a1, a2, a3⟩ := negC_all (swap_six h6 hi hk) (k := k) (by rw [swap_len]; exact hk) 6 (Nat.le_refl _)
  refine ⟨a1.trans swap_len, a2, fun t j hj => ?_⟩
  rw [a3]
  by_cases e : t = k
  · rw [if_pos ⟨e, hj⟩, if_pos e, swap_ent hi hk, if_pos rfl]
  · rw [if_neg fun h => e h.1, if_neg e, swap_ent hi hk, if_neg e]
theorem changed_all {R : List (List Int)} (h6 : SixR R) {i k : Nat} {f : Int} (hi : i < R.length) (hk : k < R.length) : (changedR R i k f).length = R.length ∧ SixR (changedR R i k f) ∧ ∀ t j, j < 6 → ent (changedR R i k f) t j = if t = k then -ent R i j else if t = i then ent R k j - f * ent R i j else ent R t j := by
  obtain ⟨a1, a2, a3⟩ := neg_ent h6 hi hk
  unfold changedR
  by_cases hik : i = k
  · rw [if_pos hik]
    refine ⟨a1, a2, fun t j hj => ?_⟩
    rw [a3 t j hj]
    by_cases e : t = k
    · rw [if_pos e, if_pos e]
    · rw [if_neg e, if_neg e, if_neg (by omega), if_neg (by omega)]
  · rw [if_neg hik]
    obtain ⟨b1, b2, b3⟩ := mulC_all a2 (i := i) (k := k) (f := f) (by omega) hik 6 (Nat.le_refl _)
    refine ⟨b1.trans a1, b2, fun t j hj => ?_⟩
    rw [b3]
    by_cases e : t = i
    · subst e
      rw [if_pos ⟨rfl, hj⟩, a3 _ j hj, a3 _ j hj, if_neg hik, if_pos rfl, if_neg hik, if_pos rfl, if_pos rfl]
      grind
    · rw [if_neg fun h => e h.1, a3 _ j hj, if_neg e, if_neg e]
theorem changed_same {R : List (List Int)} (h6 : SixR R) {i k : Nat} {f : Int} (hi : i < R.length) (hk : k < R.length) : SameL R (changedR R i k f) := by
  obtain ⟨a1, a2, a3⟩ := changed_all h6 hi hk (f := f)
  have hl1 := a1
  generalize changedR R i k f = O at *
  have r0 : ∀ t, t < R.length → RowL (ent R) R.length (ent R t) := fun t ht => Sp.row ht
  have o0 : ∀ t, t < R.length → RowL (ent O) O.length (ent O t) := fun t ht => Sp.row (by omega)
  have hOk : RowL (ent O) O.length (ent R i) := .neg (o0 k hk) fun j hj => by rw [a3 k j hj, if_pos rfl]; omega
  refine SameL.of (fun t ht => ?_) fun t ht => ?_
  · by_cases e1 : t = i
    · subst e1; exact hOk
    · by_cases e2 : t = k
      · subst e2
        refine .add (v := ent O i) (w := fun j => f * ent R i j) (o0 i hi) (hOk.smul f fun _ _ => rfl) fun j hj => ?_
        rw [a3 i j hj, if_neg (Ne.symm e1), if_pos rfl]
        omega
      · exact Sp.of_eq (o0 t ht) fun j hj => by rw [a3 t j hj, if_neg e2, if_neg e1]
  · by_cases e2 : t = k
    · subst e2
      exact .neg (r0 i hi) fun j hj => by rw [a3 t j hj, if_pos rfl]
    · by_cases e1 : t = i
      · subst e1
        exact Sp.sub (w := fun j => f * ent R t j) (r0 k hk) ((r0 t hi).smul f fun _ _ => rfl) fun j hj => by rw [a3 t j hj, if_neg e2, if_pos rfl]
      · exact Sp.of_eq (r0 t (by omega)) fun j hj => by rw [a3 t j hj, if_neg e2, if_neg e1]
/-! Without a multiple the other matrix is valid too. -/
theorem rsum_psumF {r : List Int} (h : r.length = 6) : rsum r = psumF (fun j => absI (r.getD j 0)) 6 := by
  unfold rsum
  have key : ∀ t, t ≤ 6 → psum r t = psumF (fun j => absI (r.getD j 0)) t := fun t => by
    induction t with
    | zero => exact fun _ => rfl
    | succ t ih =>
      intro ht
      rw [psum_succ (by omega), ih (by omega)]
      rfl
  exact key 6 (Nat.le_refl _)
def lprod (f : Nat → Int) : List Nat → Int
  | [] => 1
  | x :: l => lprod f l * f x
theorem lprod_perm {f : Nat → Int} {a b : List Nat} (h : a.Perm b) : lprod f a = lprod f b := by
  induction h with
  | nil => rfl
  | cons x _ ih => exact congrArg (· * f x) ih
  | swap x y l => show lprod f l * f x * f y = lprod f l * f y * f x; grind
  | trans _ _ h1 h2 => exact h1.trans h2
theorem lprod_map {f : Nat → Int} {σ : Nat → Nat} : ∀ l, lprod (fun i => f (σ i)) l = lprod f (l.map σ)
  | [] => rfl
  | x :: l => by
    show lprod (fun i => f (σ i)) l * f (σ x) = lprod f (l.map σ) * f (σ x)
    rw [lprod_map l]
theorem lprod_congr {f g : Nat → Int} : ∀ {l : List Nat}, (∀ x ∈ l, f x = g x) → lprod f l = lprod g l
  | [], _ => rfl
  | x :: l, h => by
    show lprod f l * f x = lprod g l * g x
    rw [lprod_congr fun y hy => h y (by simp [hy]), h x (by simp)]
theorem volN_lprod (R : List (List Int)) : ∀ n, volN R n = lprod (fun i => max (rsum (rw_ R i)) 1) (List.range n)
  | 0 => rfl
  | n + 1 => by
    have hp : (List.range (n + 1)).Perm (n :: List.range n) := by
      rw [List.range_succ]
      exact List.perm_append_comm
    rw [lprod_perm hp]
    show volN R n * _ = lprod _ (List.range n) * _
    rw [volN_lprod R n]
theorem changed_VM {R : List (List Int)} (h6 : SixR R) (hv : VM R) {i k : Nat} (hi : i < R.length) (hk : k < R.length) : VM (changedR R i k 0) := by
  obtain ⟨a1, a2, a3⟩ := changed_all h6 hi hk (f := 0)
  generalize changedR R i k 0 = O at *
  have hent : ∀ t j, j < 6 → ent O t j = if t = k then -ent R i j else if t = i then ent R k j else ent R t j := fun t j hj => by
    rw [a3 t j hj]
    split
    · rfl
    · split
      · omega
      · rfl
  refine ⟨by rw [a1]; exact hv.1, fun t ht j hj => ?_, ?_⟩
  · have h1 := hv.2.1 i hi j hj
    have h2 := hv.2.1 k hk j hj
    have h3 := hv.2.1 t (by omega) j hj
    have e := hent t j hj
    unfold ent at e
    rw [e]
    split
    · omega
    · split
      · exact h2
      · exact h3
  · have hσ : ∀ t, t < R.length → rsum (rw_ O t) = rsum (rw_ R (if t = k then i else if t = i then k else t)) := fun t ht => by
      have hτ : (if t = k then i else if t = i then k else t) < R.length := by
        split
        · exact hi
        · split
          · exact hk
          · exact ht
      rw [rsum_psumF (a2.six t (by omega)), rsum_psumF (h6.six _ hτ)]
      refine psumF_congr fun j hj => ?_
      have e := hent t j hj
      unfold ent at e
      rw [e]
      split
      · unfold absI
        unfold rw_
        split <;> split <;> omega
      · split <;> rfl
    rw [a1, volN_lprod]
    have e1 : lprod (fun t => max (rsum (rw_ O t)) 1) (List.range R.length) = lprod (fun t => (fun t => max (rsum (rw_ R t)) 1) ((fun t => if t = k then i else if t = i then k else t) t)) (List.range R.length) := lprod_congr fun t ht => by
      show max (rsum (rw_ O t)) 1 = max (rsum (rw_ R (if t = k then i else if t = i then k else t))) 1
      rw [hσ t (List.mem_range.1 ht)]
    rw [e1, lprod_map (f := fun t => max (rsum (rw_ R t)) 1) (σ := fun t => if t = k then i else if t = i then k else t)]
    have hp : ((List.range R.length).map fun t => if t = k then i else if t = i then k else t).Perm (List.range R.length) := by
      have hinj : ∀ a b, (if a = k then i else if a = i then k else a) = (if b = k then i else if b = i then k else b) → a = b := fun a b h => by
        by_cases c1 : a = k <;> by_cases c2 : b = k <;> by_cases c3 : a = i <;> by_cases c4 : b = i <;> simp only [c1, c2, c3, c4, if_true, if_false] at h <;> (try split at h) <;> (try split at h) <;> omega
      refine (List.perm_ext_iff_of_nodup ?_ List.nodup_range).2 fun x => ?_
      · exact List.Pairwise.map _ (fun a b hab h => hab (hinj a b h)) List.nodup_range
      · rw [List.mem_map, List.mem_range]
        constructor
        · rintro ⟨t, ht, rfl⟩
          have := List.mem_range.1 ht
          split
          · exact hi
          · split
            · exact hk
            · exact this
        · intro hx
          by_cases c1 : x = i
          · exact ⟨k, List.mem_range.2 hk, by rw [if_pos rfl, c1]⟩
          · by_cases c2 : x = k
            · exact ⟨i, List.mem_range.2 hi, by rw [if_neg (by omega), if_pos rfl, c2]⟩
            · exact ⟨x, List.mem_range.2 hx, by rw [if_neg c2, if_neg c1]⟩
    rw [lprod_perm hp, ← volN_lprod]
    exact hv.2.2
end Go.Proofs.Ytnilimjkibimcaa

