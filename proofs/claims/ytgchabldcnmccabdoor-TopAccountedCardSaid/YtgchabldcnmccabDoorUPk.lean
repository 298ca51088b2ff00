import Derived.Test.YtgchabldcnmccabDoorUPA
import Derived.Test.YtgchabldcnmccabDoorUND

set_option linter.unusedSimpArgs false
set_option linter.unusedVariables false

namespace Go.Proofs.YtgchabldcnmccabDoor
open Go.Zz
theorem zeN {e e' : Nat -> Nat -> Int} : ∀ {is us : List Nat}, (∀ i ∈ is, ∀ j ∈ us, e i j = e' i j) -> zab e is us = zab e' is us
 | [], us, _ => rfl
 | i :: is, us, h => by
  rw [zaY, zaY]
  refine zac fun p hp => ?_
  rw [h i (by simp) _ (zbg hp), zeN fun a ha j hj => h a (by simp [ha]) j (List.mem_of_mem_eraseIdx hj)]
theorem zjE {e : Nat -> Nat -> Int} {σ : Nat -> Nat} : ∀ {is us : List Nat}, zab (fun i => e (σ i)) is us = zab e (is.map σ) us
 | [], us => rfl
 | i :: is, us => by
  rw [List.map_cons, zaY, zaY]
  exact zac fun p hp => by rw [zjE]
theorem zfE {e : Nat -> Nat -> Int} {is is' : List Nat} (h : is.Perm is') : ∃ s : Int, ∀ us, zab e is us = s * zab e is' us := by
 induction h with
 | nil => exact ⟨1, fun us => (Int.one_mul _).symm⟩
 | cons x _ ih =>
  obtain ⟨s, hs⟩ := ih;refine ⟨s, fun us => ?_⟩;rw [zaY, zaY, <- zaG]
  refine zac fun p _ => ?_
  rw [hs]
  grind
 | swap x y l => exact ⟨-1, fun us => by rw [zhz]; omega⟩
 | trans _ _ h1 h2 =>
  obtain ⟨s, hs⟩ := h1;obtain ⟨t, ht⟩ := h2;exact ⟨s * t, fun us => by rw [hs, ht, Int.mul_assoc]⟩
theorem znM {n : Nat} : ∀ {s : Nat} {l : List Nat}, l.Pairwise (· < ·) -> (∀ x ∈ l, s <= x /\ x < n) -> Inc n s l
 | s, [], _, _ => trivial
 | s, a :: t, h, hx => by
  rw [List.pairwise_cons] at h;exact ⟨(hx a (by simp)).1, (hx a (by simp)).2, znM h.2 fun x hxt => ⟨h.1 x hxt, (hx x (by simp [hxt])).2⟩⟩
theorem ziF {n : Nat} {l : List Nat} (hn : l.Nodup) (h : ∀ x ∈ l, x < n) : ∃ l', l.Perm l' /\ Inc n 0 l' := by
 refine ⟨(List.range n).filter fun x => decide (x ∈ l), (List.perm_ext_iff_of_nodup hn (List.Nodup.sublist List.filter_sublist List.nodup_range)).2 fun x => ?_, znM (List.Pairwise.sublist List.filter_sublist List.pairwise_lt_range) fun x hx => ⟨Nat.zero_le _, List.mem_range.1 (List.mem_filter.1 hx).1⟩⟩;rw [List.mem_filter, List.mem_range]
 constructor
 ·intro hx;exact ⟨h x hx, by simpa using hx⟩
 ·rintro ⟨_, hx⟩;simpa using hx
def DvM (e : Nat -> Nat -> Int) (m k : Nat) (g : Int) : Prop := ∀ is js : List Nat, is.length = k -> js.length = k -> (∀ i ∈ is, i < m) -> (∀ j ∈ js, j < 6) -> g ∣ zab e is js
theorem DvM.of_inc {e : Nat -> Nat -> Int} {m k : Nat} {g : Int} (h : ∀ is js : List Nat, is.length = k -> js.length = k -> Inc m 0 is -> Inc 6 0 js -> g ∣ zab e is js) : DvM e m k g := by
 intro is js h1 h2 h3 h4
 by_cases h0 : zab e is js = 0
 ·rw [h0]; exact Int.dvd_zero _
 ·have hn1 : is.Nodup := zeq h0
  have hn2 : js.Nodup := by
   apply Decidable.byContradiction;intro hn;exact h0 (zdW (by omega) hn)
  obtain ⟨is', p1, q1⟩ := ziF hn1 h3;obtain ⟨js', p2, q2⟩ := ziF hn2 h4;obtain ⟨s, hs⟩ := zfE (e := e) p1;obtain ⟨t, ht⟩ := zfE (e := fun j i => e i j) p2;rw [hs, zco e js is' (by have := p1.length_eq; omega), ht, <- zco e js' is' (by have := p1.length_eq; have := p2.length_eq; omega)];exact Int.dvd_mul_of_dvd_right (Int.dvd_mul_of_dvd_right (h is' js' (by have := p1.length_eq; omega) (by have := p2.length_eq; omega) q1 q2))
theorem DvM.rows {e : Nat -> Nat -> Int} {m k : Nat} {g : Int} (h : DvM e m k g) : ∀ {n : Nat} {pre post us : List Nat}, post.length = n -> (∀ i ∈ pre, i < m) -> (∀ i ∈ post, zd5 e m (e i)) -> us.length = k -> pre.length + n = k -> (∀ j ∈ us, j < 6) -> g ∣ zab e (pre ++ post) us
 | 0, pre, post, us, h0, h1, h2, h3, h4, h5 => by
  have : post = [] := List.length_eq_zero_iff.1 h0;subst this;rw [List.append_nil]
  exact h pre us (by omega) h3 h1 h5
 | n + 1, pre, [], us, h0, _, _, _, _, _ => by simp at h0
 | n + 1, pre, b :: post, us, h0, h1, h2, h3, h4, h5 => by
  obtain ⟨c, hc⟩ := (h2 b (by simp)).coef
  have e1 := zdL (e := e) (D := 1) (b := b) (m := m) (c := c) (a := fun l => l) (post := post) (pre := pre) (us := us) fun j hj => by rw [Int.one_mul]; exact hc j (h5 j hj)
  rw [Int.one_mul] at e1;rw [e1]
  have key : ∀ t, t <= m -> g ∣ zag (fun l => c l * zab e (pre ++ l :: post) us) t := fun t => by
   induction t with
   | zero => exact fun _ => Int.dvd_zero _
   | succ t ih =>
    intro ht;refine Int.dvd_add (ih (by omega)) (Int.dvd_mul_of_dvd_right ?_)
    have := DvM.rows h (n := n) (pre := pre ++ [t]) (post := post) (us := us) (by simpa using h0) (fun i hi => by
     rcases List.mem_append.1 hi with hi | hi
     ·exact h1 i hi
     ·simp at hi; omega) (fun i hi => h2 i (by simp [hi])) h3 (by simp; omega) h5
    simpa using this
  exact key m (Nat.le_refl _)
theorem zpC {e e' : Nat -> Nat -> Int} {m : Nat} {v : Nat -> Int} (he : ∀ i, i < m -> ∀ j, j < 6 -> e' i j = e i j) (h : zd5 e m v) : zd5 e' m v := h.mono fun g ⟨k, hk, hg⟩ => by
 subst hg
 exact Sp.of_eq (Sp.row hk) fun j hj => (he k hk j hj).symm
theorem DvM.comb {e e' : Nat -> Nat -> Int} {m m' k : Nat} {g : Int} (h : DvM e m k g) (hr : ∀ b, b < m' -> zd5 e m (e' b)) : DvM e' m' k g := by
 intro is js h1 h2 h3 h4
 have e1 : zab e' is js = zab (fun i => (fun i => if i < m then e i else e' (i - m)) (i + m)) is js := zeN fun i _ j _ => by
  show e' i j = (if i + m < m then e (i + m) else e' (i + m - m)) j
  rw [if_neg (by omega), Nat.add_sub_cancel]
 rw [e1, zjE (e := fun i => if i < m then e i else e' (i - m)) (σ := fun i => i + m)]
 have hD : DvM (fun i => if i < m then e i else e' (i - m)) m k g := fun is js a1 a2 a3 a4 => by
  rw [zeN (e' := e) fun i hi j _ => by rw [if_pos (a3 i hi)]];exact h is js a1 a2 a3 a4
 refine hD.rows (n := k) (pre := []) (by rw [List.length_map]; exact h1) (fun i hi => by cases hi) (fun i hi => ?_) h2 (by simp) h4;obtain ⟨b, hb, rfl⟩ := List.mem_map.1 hi
 have e2 : (if b + m < m then e (b + m) else e' (b + m - m)) = e' b := by
  rw [if_neg (by omega), Nat.add_sub_cancel]
 rw [e2];exact zpC (fun i hi j hj => by rw [if_pos hi]) (hr b (h3 b hb))
theorem zgh {α : Type} {f : Nat -> α -> Nat} {P : α -> Prop} {g : Nat} (hf : ∀ a x, g ∣ f a x ↔ g ∣ a /\ P x) : ∀ (l : List α) (a : Nat), g ∣ l.foldl f a ↔ g ∣ a /\ ∀ x ∈ l, P x
 | [], a => by simp
 | x :: l, a => by
  rw [List.foldl_cons, zgh hf l, hf]
  constructor
  ·rintro ⟨⟨h1, h2⟩, h3⟩;refine ⟨h1, fun y hy => ?_⟩
   rcases List.mem_cons.1 hy with rfl | hy
   ·exact h2
   ·exact h3 y hy
  ·rintro ⟨h1, h2⟩;exact ⟨⟨h1, h2 x (by simp)⟩, fun y hy => h2 y (by simp [hy])⟩
theorem zqu {g : Nat} {x : Int} : g ∣ (zbm x).toNat ↔ (g : Int) ∣ x := by
 have h0 := zhh x;have e : ((zbm x).toNat : Int) = zbm x := Int.toNat_of_nonneg h0;rw [<- Int.natCast_dvd_natCast, e];unfold zbm
 split
 ·exact Int.dvd_neg
 ·exact Iff.rfl
def SameL (A B : List (List Int)) : Prop := ∀ g, zd5 (ent A) A.length g ↔ zd5 (ent B) B.length g
theorem SameL.of {A B : List (List Int)} (h1 : ∀ i, i < A.length -> zd5 (ent B) B.length (ent A i)) (h2 : ∀ i, i < B.length -> zd5 (ent A) A.length (ent B i)) : SameL A B := fun g => ⟨fun h => h.mono fun g ⟨k, hk, hg⟩ => by subst hg; exact h1 k hk, fun h => h.mono fun g ⟨k, hk, hg⟩ => by subst hg; exact h2 k hk⟩
abbrev Six (rows : List (List Int)) : Prop := ∀ i, i < rows.length -> (rw_ rows i).length = 6
end Go.Proofs.YtgchabldcnmccabDoor

