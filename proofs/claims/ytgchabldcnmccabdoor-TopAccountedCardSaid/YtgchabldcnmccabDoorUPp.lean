import Derived.Test.YtgchabldcnmccabDoorUPk

set_option linter.unusedSimpArgs false
set_option linter.unusedVariables false

namespace Go.Proofs.YtgchabldcnmccabDoor
open Go.Zz
def zoE : Nat -> Nat -> List (List Nat)
 | _, 0 => [[]]
 | 0, _ + 1 => []
 | n + 1, k + 1 => zoE n (k + 1) ++ (zoE n k).map (· ++ [n])
theorem Inc.pair {n : Nat} : ∀ {s : Nat} {l : List Nat}, Inc n s l -> l.Pairwise (· < ·)
 | _, [], _ => List.Pairwise.nil
 | s, a :: t, h => List.Pairwise.cons (fun x hx => by have := h.2.2.lt x hx; omega) h.2.2.pair
theorem zeA {n : Nat} {l : List Nat} : Inc n 0 l ↔ l.Pairwise (· < ·) /\ ∀ x ∈ l, x < n :=
 ⟨fun h => ⟨h.pair, fun x hx => (h.lt x hx).2⟩, fun h => znM h.1 fun x hx => ⟨Nat.zero_le _, h.2 x hx⟩⟩
theorem zdf : ∀ {n k : Nat} {l : List Nat}, l ∈ zoE n k ↔ Inc n 0 l /\ l.length = k
 | n, 0, l => by
  have e : zoE n 0 = [[]] := by cases n <;> rfl
  rw [e, List.mem_singleton]
  constructor
  ·rintro rfl;exact ⟨trivial, rfl⟩
  ·exact fun h => List.length_eq_zero_iff.1 h.2
 | 0, k + 1, l => by
  constructor
  ·intro h; cases h
  ·rintro ⟨h1, h2⟩
   cases l with
   | nil => simp at h2
   | cons a t => have := h1.2.1; omega
 | n + 1, k + 1, l => by
  show l ∈ zoE n (k + 1) ++ (zoE n k).map (· ++ [n]) ↔ _
  rw [List.mem_append, zdf, List.mem_map]
  constructor
  ·rintro (⟨h1, h2⟩ | ⟨l', h1, rfl⟩)
   ·exact ⟨zeA.2 ⟨h1.pair, fun x hx => by have := (h1.lt x hx).2; omega⟩, h2⟩
   ·obtain ⟨h2, h3⟩ := zdf.1 h1;refine ⟨zeA.2 ⟨?_, fun x hx => ?_⟩, by simp [h3]⟩
    ·rw [List.pairwise_append]
     exact ⟨h2.pair, List.pairwise_singleton _ _, fun a ha b hb => by
      simp at hb;have := (h2.lt a ha).2
      omega⟩
    ·rcases List.mem_append.1 hx with h | h
     ·have := (h2.lt x h).2; omega
     ·simp at h; omega
  ·rintro ⟨h1, h2⟩;obtain ⟨p1, p2⟩ := zeA.1 h1
   have hne : l ≠ [] := fun h => by rw [h] at h2; simp at h2
   have hl := List.dropLast_concat_getLast hne
   by_cases hn : l.getLast hne = n
   ·refine .inr ⟨l.dropLast, zdf.2 ⟨zeA.2 ⟨?_, fun x hx => ?_⟩, by simp [h2]⟩, by rw [<- hn]; exact hl⟩
    ·exact List.Pairwise.sublist (List.dropLast_sublist l) p1
    ·rw [<- hl, List.pairwise_append] at p1;have := p1.2.2 x hx (l.getLast hne) (by simp);omega
   ·refine .inl ⟨zeA.2 ⟨p1, fun x hx => ?_⟩, h2⟩
    have hlast : l.getLast hne < n := by
     have := p2 _ (List.getLast_mem hne);omega
    rw [<- hl] at hx
    rcases List.mem_append.1 hx with h | h
    ·rw [<- hl, List.pairwise_append] at p1;have := p1.2.2 x h (l.getLast hne) (by simp);omega
    ·simp at h; omega
def dRow (rows : List (List Int)) (k : Nat) (g : Nat) (is : List Nat) : Nat := (zoE 6 k).foldl (zso rows is) g
def zi0 (rows : List (List Int)) (k : Nat) : Nat := (zoE rows.length k).foldl (dRow rows k) 0
theorem zpc {rows : List (List Int)} {k g : Nat} (a : Nat) (is : List Nat) : g ∣ dRow rows k a is ↔ g ∣ a /\ ∀ js ∈ zoE 6 k, (g : Int) ∣ zab (ent rows) is js :=
 zgh (P := fun js => (g : Int) ∣ zab (ent rows) is js) (fun a js => by
  show g ∣ Nat.gcd a (zbm (zab (ent rows) is js)).toNat ↔ _
  rw [Nat.dvd_gcd_iff, zqu]) _ _
theorem zg1 {rows : List (List Int)} {k g : Nat} : g ∣ zi0 rows k ↔ DvM (ent rows) rows.length k g := by
 unfold zi0;rw [zgh (P := fun is => ∀ js ∈ zoE 6 k, (g : Int) ∣ zab (ent rows) is js) (fun a is => zpc a is)]
 constructor
 ·exact fun h => DvM.of_inc fun is js h1 h2 h3 h4 => h.2 is (zdf.2 ⟨h3, h1⟩) js (zdf.2 ⟨h4, h2⟩)
 ·intro h;refine ⟨Nat.dvd_zero _, fun is hi js hj => ?_⟩;obtain ⟨a1, a2⟩ := zdf.1 hi;obtain ⟨b1, b2⟩ := zdf.1 hj
  exact h is js a2 b2 (fun i hi => (a1.lt i hi).2) fun j hj => (b1.lt j hj).2
theorem zme {A B : List (List Int)} (h : SameL A B) (k : Nat) : zi0 A k = zi0 B k := by
 have key : ∀ g : Nat, g ∣ zi0 A k ↔ g ∣ zi0 B k := fun g => by
  rw [zg1, zg1];exact ⟨fun hg => hg.comb fun b hb => (h _).2 (Sp.row hb), fun hg => hg.comb fun b hb => (h _).1 (Sp.row hb)⟩
 exact Nat.dvd_antisymm ((key _).1 (Nat.dvd_refl _)) ((key _).2 (Nat.dvd_refl _))
end Go.Proofs.YtgchabldcnmccabDoor

