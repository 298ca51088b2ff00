import Derived.Test.YtnilimjkibimcaaPA
import Derived.Test.YtnilimjkibimcaaND
set_option linter.unusedSimpArgs false
set_option linter.unusedVariables false

namespace Go.Proofs.Ytnilimjkibimcaa
open Go.Zz
theorem minor_eqs {e e' : Nat → Nat → Int} : ∀ {is us : List Nat}, (∀ i ∈ is, ∀ j ∈ us, e i j = e' i j) → minorF e is us = minorF e' is us
  | [], us, _ => rfl
  | i :: is, us, h => by
    rw [minor_cons, minor_cons]
    refine psumF_congr fun p hp => ?_
    rw [h i (by simp) _ (getD_mem hp), minor_eqs fun a ha j hj => h a (by simp [ha]) j (List.mem_of_mem_eraseIdx hj)]
theorem minor_map {e : Nat → Nat → Int} {σ : Nat → Nat} : ∀ {is us : List Nat}, minorF (fun i => e (σ i)) is us = minorF e (is.map σ) us
  | [], us => rfl
  | i :: is, us => by
    rw [List.map_cons, minor_cons, minor_cons]
    exact psumF_congr fun p hp => by rw [minor_map]
theorem minor_perm {e : Nat → Nat → Int} {is is' : List Nat} (h : is.Perm is') : ∃ s : Int, ∀ us, minorF e is us = s * minorF e is' us := by
  induction h with
  | nil => exact ⟨1, fun us => (Int.one_mul _).symm⟩
  | cons x _ ih =>
    obtain ⟨s, hs⟩ := ih
    refine ⟨s, fun us => ?_⟩
    rw [minor_cons, minor_cons, ← psumF_mul]
    refine psumF_congr fun p _ => ?_
    rw [hs]
    grind
  | swap x y l => exact ⟨-1, fun us => by rw [minor_swap]; omega⟩
  | trans _ _ h1 h2 =>
    obtain ⟨s, hs⟩ := h1
    obtain ⟨t, ht⟩ := h2
    exact ⟨s * t, fun us => by rw [hs, ht, Int.mul_assoc]⟩
theorem inc_of {n : Nat} : ∀ {s : Nat} {l : List Nat}, l.Pairwise (· < ·) → (∀ x ∈ l, s ≤ x ∧ x < n) → Inc n s l
  | s, [], _, _ => trivial
  | s, a :: t, h, hx => by
    rw [List.pairwise_cons] at h
    exact ⟨(hx a (by simp)).1, (hx a (by simp)).2, inc_of h.2 fun x hxt => ⟨h.1 x hxt, (hx x (by simp [hxt])).2⟩⟩
theorem sorted_of {n : Nat} {l : List Nat} (hn : l.Nodup) (h : ∀ x ∈ l, x < n) : ∃ l', l.Perm l' ∧ Inc n 0 l' := by
  refine ⟨(List.range n).filter fun x => decide (x ∈ l), (List.perm_ext_iff_of_nodup hn (List.Nodup.sublist List.filter_sublist List.nodup_range)).2 fun x => ?_, inc_of (List.Pairwise.sublist List.filter_sublist List.pairwise_lt_range) fun x hx => ⟨Nat.zero_le _, List.mem_range.1 (List.mem_filter.1 hx).1⟩⟩
  rw [List.mem_filter, List.mem_range]
  constructor
  · intro hx
    exact ⟨h x hx, by simpa using hx⟩
  · rintro ⟨_, hx⟩
    simpa using hx
def DvM (e : Nat → Nat → Int) (m k : Nat) (g : Int) : Prop := ∀ is js : List Nat, is.length = k → js.length = k → (∀ i ∈ is, i < m) → (∀ j ∈ js, j < 6) → g ∣ minorF e is js
theorem DvM.of_inc {e : Nat → Nat → Int} {m k : Nat} {g : Int} (h : ∀ is js : List Nat, is.length = k → js.length = k → Inc m 0 is → Inc 6 0 js → g ∣ minorF e is js) : DvM e m k g := by
  intro is js h1 h2 h3 h4
  by_cases h0 : minorF e is js = 0
  · rw [h0]; exact Int.dvd_zero _
  · have hn1 : is.Nodup := minor_nodup h0
    have hn2 : js.Nodup := by
      apply Decidable.byContradiction
      intro hn
      exact h0 (minor_cdup (by omega) hn)
    obtain ⟨is', p1, q1⟩ := sorted_of hn1 h3
    obtain ⟨js', p2, q2⟩ := sorted_of hn2 h4
    obtain ⟨s, hs⟩ := minor_perm (e := e) p1
    obtain ⟨t, ht⟩ := minor_perm (e := fun j i => e i j) p2
    rw [hs, minor_tr e js is' (by have := p1.length_eq; omega), ht, ← minor_tr e js' is' (by have := p1.length_eq; have := p2.length_eq; omega)]
    exact Int.dvd_mul_of_dvd_right (Int.dvd_mul_of_dvd_right (h is' js' (by have := p1.length_eq; omega) (by have := p2.length_eq; omega) q1 q2))
theorem DvM.rows {e : Nat → Nat → Int} {m k : Nat} {g : Int} (h : DvM e m k g) : ∀ {n : Nat} {pre post us : List Nat}, post.length = n → (∀ i ∈ pre, i < m) → (∀ i ∈ post, RowL e m (e i)) → us.length = k → pre.length + n = k → (∀ j ∈ us, j < 6) → g ∣ minorF e (pre ++ post) us
  | 0, pre, post, us, h0, h1, h2, h3, h4, h5 => by
    have : post = [] := List.length_eq_zero_iff.1 h0
    subst this
    rw [List.append_nil]
    exact h pre us (by omega) h3 h1 h5
  | n + 1, pre, [], us, h0, _, _, _, _, _ => by simp at h0
  | n + 1, pre, b :: post, us, h0, h1, h2, h3, h4, h5 => by
    obtain ⟨c, hc⟩ := (h2 b (by simp)).coef
    have e1 := minor_lin (e := e) (D := 1) (b := b) (m := m) (c := c) (a := fun l => l) (post := post) (pre := pre) (us := us) fun j hj => by rw [Int.one_mul]; exact hc j (h5 j hj)
    rw [Int.one_mul] at e1
    rw [e1]
    have key : ∀ t, t ≤ m → g ∣ psumF (fun l => c l * minorF e (pre ++ l :: post) us) t := fun t => by
      induction t with
      | zero => exact fun _ => Int.dvd_zero _
      | succ t ih =>
        intro ht
        refine Int.dvd_add (ih (by omega)) (Int.dvd_mul_of_dvd_right ?_)
        have := DvM.rows h (n := n) (pre := pre ++ [t]) (post := post) (us := us) (by simpa using h0) (fun i hi => by
          rcases List.mem_append.1 hi with hi | hi
          · exact h1 i hi
          · simp at hi; omega) (fun i hi => h2 i (by simp [hi])) h3 (by simp; omega) h5
        simpa using this
    exact key m (Nat.le_refl _)
theorem rowl_eqs {e e' : Nat → Nat → Int} {m : Nat} {v : Nat → Int} (he : ∀ i, i < m → ∀ j, j < 6 → e' i j = e i j) (h : RowL e m v) : RowL e' m v := h.mono fun g ⟨k, hk, hg⟩ => by
  subst hg
  exact Sp.of_eq (Sp.row hk) fun j hj => (he k hk j hj).symm
theorem DvM.comb {e e' : Nat → Nat → Int} {m m' k : Nat} {g : Int} (h : DvM e m k g) (hr : ∀ b, b < m' → RowL e m (e' b)) : DvM e' m' k g := by
  intro is js h1 h2 h3 h4
  have e1 : minorF e' is js = minorF (fun i => (fun i => if i < m then e i else e' (i - m)) (i + m)) is js := minor_eqs fun i _ j _ => by
    show e' i j = (if i + m < m then e (i + m) else e' (i + m - m)) j
    rw [if_neg (by omega), Nat.add_sub_cancel]
  rw [e1, minor_map (e := fun i => if i < m then e i else e' (i - m)) (σ := fun i => i + m)]
  have hD : DvM (fun i => if i < m then e i else e' (i - m)) m k g := fun is js a1 a2 a3 a4 => by
    rw [minor_eqs (e' := e) fun i hi j _ => by rw [if_pos (a3 i hi)]]
    exact h is js a1 a2 a3 a4
  refine hD.rows (n := k) (pre := []) (by rw [List.length_map]; exact h1) (fun i hi => by cases hi) (fun i hi => ?_) h2 (by simp) h4
  obtain ⟨b, hb, rfl⟩ := List.mem_map.1 hi
  have e2 : (if b + m < m then e (b + m) else e' (b + m - m)) = e' b := by
    rw [if_neg (by omega), Nat.add_sub_cancel]
  rw [e2]
  exact rowl_eqs (fun i hi j hj => by rw [if_pos hi]) (hr b (h3 b hb))
theorem foldl_dvd {α : Type} {f : Nat → α → Nat} {P : α → Prop} {g : Nat} (hf : ∀ a x, g ∣ f a x ↔ g ∣ a ∧ P x) : ∀ (l : List α) (a : Nat), g ∣ l.foldl f a ↔ g ∣ a ∧ ∀ x ∈ l, P x
  | [], a => by simp
  | x :: l, a => by
    rw [List.foldl_cons, foldl_dvd hf l, hf]
    constructor
    · rintro ⟨⟨h1, h2⟩, h3⟩
      refine ⟨h1, fun y hy => ?_⟩
      rcases List.mem_cons.1 hy with rfl | hy
      · exact h2
      · exact h3 y hy
    · rintro ⟨h1, h2⟩
      exact ⟨⟨h1, h2 x (by simp)⟩, fun y hy => h2 y (by simp [hy])⟩
theorem abs_dvd {g : Nat} {x : Int} : g ∣ (absI x).toNat ↔ (g : Int) ∣ x := by
  have h0 := absI_nn x
  have e : ((absI x).toNat : Int) = absI x := Int.toNat_of_nonneg h0
  rw [← Int.natCast_dvd_natCast, e]
  unfold absI
  split
  · exact Int.dvd_neg
  · exact Iff.rfl
def SameL (A B : List (List Int)) : Prop := ∀ g, RowL (ent A) A.length g ↔ RowL (ent B) B.length g
abbrev Six (rows : List (List Int)) : Prop := ∀ i, i < rows.length → (rw_ rows i).length = 6
end Go.Proofs.Ytnilimjkibimcaa

