import Derived.Test.YtnilimjkibimcaaPk
set_option linter.unusedSimpArgs false
set_option linter.unusedVariables false

namespace Go.Proofs.Ytnilimjkibimcaa
open Go.Zz
def subs : Nat → Nat → List (List Nat)
  | _, 0 => [[]]
  | 0, _ + 1 => []
  | n + 1, k + 1 => subs n (k + 1) ++ (subs n k).map (· ++ [n])
theorem Inc.pair {n : Nat} : ∀ {s : Nat} {l : List Nat}, Inc n s l → l.Pairwise (· < ·)
  | _, [], _ => List.Pairwise.nil
  | s, a :: t, h => List.Pairwise.cons (fun x hx => by have := h.2.2.lt x hx; omega) h.2.2.pair
theorem inc_iff {n : Nat} {l : List Nat} : Inc n 0 l ↔ l.Pairwise (· < ·) ∧ ∀ x ∈ l, x < n :=
  ⟨fun h => ⟨h.pair, fun x hx => (h.lt x hx).2⟩, fun h => inc_of h.1 fun x hx => ⟨Nat.zero_le _, h.2 x hx⟩⟩
theorem subs_mem : ∀ {n k : Nat} {l : List Nat}, l ∈ subs n k ↔ Inc n 0 l ∧ l.length = k
  | n, 0, l => by
    have e : subs n 0 = [[]] := by cases n <;> rfl
    rw [e, List.mem_singleton]
    constructor
    · rintro rfl
      exact ⟨trivial, rfl⟩
    · exact fun h => List.length_eq_zero_iff.1 h.2
  | 0, k + 1, l => by
    constructor
    · intro h; cases h
    · rintro ⟨h1, h2⟩
      cases l with
      | nil => simp at h2
      | cons a t => have := h1.2.1; omega
  | n + 1, k + 1, l => by
    show l ∈ subs n (k + 1) ++ (subs n k).map (· ++ [n]) ↔ _
    rw [List.mem_append, subs_mem, List.mem_map]
    constructor
    · rintro (⟨h1, h2⟩ | ⟨l', h1, rfl⟩)
      · exact ⟨inc_iff.2 ⟨h1.pair, fun x hx => by have := (h1.lt x hx).2; omega⟩, h2⟩
      · obtain ⟨h2, h3⟩ := subs_mem.1 h1
        refine ⟨inc_iff.2 ⟨?_, fun x hx => ?_⟩, by simp [h3]⟩
        · rw [List.pairwise_append]
          exact ⟨h2.pair, List.pairwise_singleton _ _, fun a ha b hb => by
            simp at hb
            have := (h2.lt a ha).2
            omega⟩
        · rcases List.mem_append.1 hx with h | h
          · have := (h2.lt x h).2; omega
          · simp at h; omega
    · rintro ⟨h1, h2⟩
      obtain ⟨p1, p2⟩ := inc_iff.1 h1
      have hne : l ≠ [] := fun h => by rw [h] at h2; simp at h2
      have hl := List.dropLast_concat_getLast hne
      by_cases hn : l.getLast hne = n
      · refine .inr ⟨l.dropLast, subs_mem.2 ⟨inc_iff.2 ⟨?_, fun x hx => ?_⟩, by simp [h2]⟩, by rw [← hn]; exact hl⟩
        · exact List.Pairwise.sublist (List.dropLast_sublist l) p1
        · rw [← hl, List.pairwise_append] at p1
          have := p1.2.2 x hx (l.getLast hne) (by simp)
          omega
      · refine .inl ⟨inc_iff.2 ⟨p1, fun x hx => ?_⟩, h2⟩
        have hlast : l.getLast hne < n := by
          have := p2 _ (List.getLast_mem hne)
          omega
        rw [← hl] at hx
        rcases List.mem_append.1 hx with h | h
        · rw [← hl, List.pairwise_append] at p1
          have := p1.2.2 x h (l.getLast hne) (by simp)
          omega
        · simp at h; omega
def dRow (rows : List (List Int)) (k : Nat) (g : Nat) (is : List Nat) : Nat := (subs 6 k).foldl (gStep rows is) g
def divRK (rows : List (List Int)) (k : Nat) : Nat := (subs rows.length k).foldl (dRow rows k) 0
theorem dRow_dvd {rows : List (List Int)} {k g : Nat} (a : Nat) (is : List Nat) : g ∣ dRow rows k a is ↔ g ∣ a ∧ ∀ js ∈ subs 6 k, (g : Int) ∣ minorF (ent rows) is js :=
  foldl_dvd (P := fun js => (g : Int) ∣ minorF (ent rows) is js) (fun a js => by
    show g ∣ Nat.gcd a (absI (minorF (ent rows) is js)).toNat ↔ _
    rw [Nat.dvd_gcd_iff, abs_dvd]) _ _
theorem divRK_dvd {rows : List (List Int)} {k g : Nat} : g ∣ divRK rows k ↔ DvM (ent rows) rows.length k g := by
  unfold divRK
  rw [foldl_dvd (P := fun is => ∀ js ∈ subs 6 k, (g : Int) ∣ minorF (ent rows) is js) (fun a is => dRow_dvd a is)]
  constructor
  · exact fun h => DvM.of_inc fun is js h1 h2 h3 h4 => h.2 is (subs_mem.2 ⟨h3, h1⟩) js (subs_mem.2 ⟨h4, h2⟩)
  · intro h
    refine ⟨Nat.dvd_zero _, fun is hi js hj => ?_⟩
    obtain ⟨a1, a2⟩ := subs_mem.1 hi
    obtain ⟨b1, b2⟩ := subs_mem.1 hj
    exact h is js a2 b2 (fun i hi => (a1.lt i hi).2) fun j hj => (b1.lt j hj).2
theorem divRK_same {A B : List (List Int)} (h : SameL A B) (k : Nat) : divRK A k = divRK B k := by
  have key : ∀ g : Nat, g ∣ divRK A k ↔ g ∣ divRK B k := fun g => by
    rw [divRK_dvd, divRK_dvd]
    exact ⟨fun hg => hg.comb fun b hb => (h _).2 (Sp.row hb), fun hg => hg.comb fun b hb => (h _).1 (Sp.row hb)⟩
  exact Nat.dvd_antisymm ((key _).1 (Nat.dvd_refl _)) ((key _).2 (Nat.dvd_refl _))
end Go.Proofs.Ytnilimjkibimcaa

