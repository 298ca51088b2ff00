import Derived.Test.YtnilimjkibimcaaPA
import Derived.Test.YtnilimjkibimcaaND
import Derived.Test.YtnilimjkibimcaaNk
import Derived.Test.YtnilimjkibimcaaMB

set_option linter.unusedSimpArgs false
set_option linter.unusedVariables false

namespace Go.Proofs.Ytnilimjkibimcaa
open Go.Zz
theorem minor_eqs {e e' : Nat → Nat → Int} : ∀ {is us : List Nat}, (∀ i ∈ is, ∀ j ∈ us, e i j = e' i j) → minorF e is us = minorF e' is us
 | [], us, _ => rfl
 | i :: is, us, h => by
  rw [minor_cons, minor_cons]
  refine psumF_congr fun p hp => ?_
  rw [h i (by simp) _ (getD_mem hp), minor_eqs fun a ha j hj => h a (by simp [ha]) j (List.mem_of_mem_eraseIdx hj)]
theorem minor_map {e : Nat → Nat → Int} {σ : Nat → Nat} : ∀ {is us : List Nat}, minorF (fun i => e (σ i)) is us = minorF e (is.map σ) us
 | [], us => rfl
 | i :: is, us => by
  rw [List.map_cons, minor_cons, minor_cons]
  exact psumF_congr fun p hp => by rw [minor_map]
theorem minor_perm {e : Nat → Nat → Int} {is is' : List Nat} (h : is.Perm is') : ∃ s : Int, ∀ us, minorF e is us = s * minorF e is' us := by
 induction h with
 | nil => exact ⟨1, fun us => (Int.one_mul _).symm⟩
 | cons x _ ih =>
  obtain ⟨s, hs⟩ := ih
  refine ⟨s, fun us => ?_⟩
  rw [minor_cons, minor_cons, ← psumF_mul]
  refine psumF_congr fun p _ => ?_
  rw [hs]
  grind
 | swap x y l => exact ⟨-1, fun us => by rw [minor_swap]; omega⟩
 | trans _ _ h1 h2 =>
  obtain ⟨s, hs⟩ := h1
  obtain ⟨t, ht⟩ := h2
  exact ⟨s * t, fun us => by rw [hs, ht, Int.mul_assoc]⟩
theorem inc_of {n : Nat} : ∀ {s : Nat} {l : List Nat}, l.Pairwise (· < ·) → (∀ x ∈ l, s ≤ x ∧ x < n) → Inc n s l
 | s, [], _, _ => trivial
 | s, a :: t, h, hx => by
  rw [List.pairwise_cons] at h
  exact ⟨(hx a (by simp)).1, (hx a (by simp)).2, inc_of h.2 fun x hxt => ⟨h.1 x hxt, (hx x (by simp [hxt])).2⟩⟩
theorem sorted_of {n : Nat} {l : List Nat} (hn : l.Nodup) (h : ∀ x ∈ l, x < n) : ∃ l', l.Perm l' ∧ Inc n 0 l' := by
 refine ⟨(List.range n).filter fun x => decide (x ∈ l), (List.perm_ext_iff_of_nodup hn (List.Nodup.sublist List.filter_sublist List.nodup_range)).2 fun x => ?_, inc_of (List.Pairwise.sublist List.filter_sublist List.pairwise_lt_range) fun x hx => ⟨Nat.zero_le _, List.mem_range.1 (List.mem_filter.1 hx).1⟩⟩
 rw [List.mem_filter, List.mem_range]
 constructor
 ·intro hx
  exact ⟨h x hx, by simpa using hx⟩
 ·rintro ⟨_, hx⟩
  simpa using hx
def DvM (e : Nat → Nat → Int) (m k : Nat) (g : Int) : Prop := ∀ is js : List Nat, is.length = k → js.length = k → (∀ i ∈ is, i < m) → (∀ j ∈ js, j < 6) → g ∣ minorF e is js
theorem DvM.of_inc {e : Nat → Nat → Int} {m k : Nat} {g : Int} (h : ∀ is js : List Nat, is.length = k → js.length = k → Inc m 0 is → Inc 6 0 js → g ∣ minorF e is js) : DvM e m k g := by
 intro is js h1 h2 h3 h4
 by_cases h0 : minorF e is js = 0
 ·rw [h0]; exact Int.dvd_zero _
 ·have hn1 : is.Nodup := minor_nodup h0
  have hn2 : js.Nodup := by
   apply Decidable.byContradiction
   intro hn
   exact h0 (minor_cdup (by omega) hn)
  obtain ⟨is', p1, q1⟩ := sorted_of hn1 h3
  obtain ⟨js', p2, q2⟩ := sorted_of hn2 h4
  obtain ⟨s, hs⟩ := minor_perm (e := e) p1
  obtain ⟨t, ht⟩ := minor_perm (e := fun j i => e i j) p2
  rw [hs, minor_tr e js is' (by have := p1.length_eq; omega), ht, ← minor_tr e js' is' (by have := p1.length_eq; have := p2.length_eq; omega)]
  exact Int.dvd_mul_of_dvd_right (Int.dvd_mul_of_dvd_right (h is' js' (by have := p1.length_eq; omega) (by have := p2.length_eq; omega) q1 q2))
theorem DvM.rows {e : Nat → Nat → Int} {m k : Nat} {g : Int} (h : DvM e m k g) : ∀ {n : Nat} {pre post us : List Nat}, post.length = n → (∀ i ∈ pre, i < m) → (∀ i ∈ post, RowL e m (e i)) → us.length = k → pre.length + n = k → (∀ j ∈ us, j < 6) → g ∣ minorF e (pre ++ post) us
 | 0, pre, post, us, h0, h1, h2, h3, h4, h5 => by
  have : post = [] := List.length_eq_zero_iff.1 h0
  subst this
  rw [List.append_nil]
  exact h pre us (by omega) h3 h1 h5
 | n + 1, pre, [], us, h0, _, _, _, _, _ => by simp at h0
 | n + 1, pre, b :: post, us, h0, h1, h2, h3, h4, h5 => by
  obtain ⟨c, hc⟩ := (h2 b (by simp)).coef
  have e1 := minor_lin (e := e) (D := 1) (b := b) (m := m) (c := c) (a := fun l => l) (post := post) (pre := pre) (us := us) fun j hj => by rw [Int.one_mul]; exact hc j (h5 j hj)
  rw [Int.one_mul] at e1
  rw [e1]
  have key : ∀ t, t ≤ m → g ∣ psumF (fun l => c l * minorF e (pre ++ l :: post) us) t := fun t => by
   induction t with
   | zero => exact fun _ => Int.dvd_zero _
   | succ t ih =>
    intro ht
    refine Int.dvd_add (ih (by omega)) (Int.dvd_mul_of_dvd_right ?_)
    have := DvM.rows h (n := n) (pre := pre ++ [t]) (post := post) (us := us) (by simpa using h0) (fun i hi => by
     rcases List.mem_append.1 hi with hi | hi
     ·exact h1 i hi
     ·simp at hi; omega) (fun i hi => h2 i (by simp [hi])) h3 (by simp; omega) h5
    simpa using this
  exact key m (Nat.le_refl _)
theorem rowl_eqs {e e' : Nat → Nat → Int} {m : Nat} {v : Nat → Int} (he : ∀ i, i < m → ∀ j, j < 6 → e' i j = e i j) (h : RowL e m v) : RowL e' m v := h.mono fun g ⟨k, hk, hg⟩ => by
 subst hg
 exact Sp.of_eq (Sp.row hk) fun j hj => (he k hk j hj).symm
theorem DvM.comb {e e' : Nat → Nat → Int} {m m' k : Nat} {g : Int} (h : DvM e m k g) (hr : ∀ b, b < m' → RowL e m (e' b)) : DvM e' m' k g := by
 intro is js h1 h2 h3 h4
 have e1 : minorF e' is js = minorF (fun i => (fun i => if i < m then e i else e' (i - m)) (i + m)) is js := minor_eqs fun i _ j _ => by
  show e' i j = (if i + m < m then e (i + m) else e' (i + m - m)) j
  rw [if_neg (by omega), Nat.add_sub_cancel]
 rw [e1, minor_map (e := fun i => if i < m then e i else e' (i - m)) (σ := fun i => i + m)]
 have hD : DvM (fun i => if i < m then e i else e' (i - m)) m k g := fun is js a1 a2 a3 a4 => by
  rw [minor_eqs (e' := e) fun i hi j _ => by rw [if_pos (a3 i hi)]]
  exact h is js a1 a2 a3 a4
 refine hD.rows (n := k) (pre := []) (by rw [List.length_map]; exact h1) (fun i hi => by cases hi) (fun i hi => ?_) h2 (by simp) h4
 obtain ⟨b, hb, rfl⟩ := List.mem_map.1 hi
 have e2 : (if b + m < m then e (b + m) else e' (b + m - m)) = e' b := by
  rw [if_neg (by omega), Nat.add_sub_cancel]
 rw [e2]
 exact rowl_eqs (fun i hi j hj => by rw [if_pos hi]) (hr b (h3 b hb))
theorem foldl_dvd {α : Type} {f : Nat → α → Nat} {P : α → Prop} {g : Nat} (hf : ∀ a x, g ∣ f a x ↔ g ∣ a ∧ P x) : ∀ (l : List α) (a : Nat), g ∣ l.foldl f a ↔ g ∣ a ∧ ∀ x ∈ l, P x
 | [], a => by simp
 | x :: l, a => by
  rw [List.foldl_cons, foldl_dvd hf l, hf]
  constructor
  ·rintro ⟨⟨h1, h2⟩, h3⟩
   refine ⟨h1, fun y hy => ?_⟩
   rcases List.mem_cons.1 hy with rfl | hy
   ·exact h2
   ·exact h3 y hy
  ·rintro ⟨h1, h2⟩
   exact ⟨⟨h1, h2 x (by simp)⟩, fun y hy => h2 y (by simp [hy])⟩
theorem abs_dvd {g : Nat} {x : Int} : g ∣ (absI x).toNat ↔ (g : Int) ∣ x := by
 have h0 := absI_nn x
 have e : ((absI x).toNat : Int) = absI x := Int.toNat_of_nonneg h0
 rw [← Int.natCast_dvd_natCast, e]
 unfold absI
 split
 ·exact Int.dvd_neg
 ·exact Iff.rfl
def SameL (A B : List (List Int)) : Prop := ∀ g, RowL (ent A) A.length g ↔ RowL (ent B) B.length g
abbrev Six (rows : List (List Int)) : Prop := ∀ i, i < rows.length → (rw_ rows i).length = 6
theorem set_same {R : List (List Int)} {i : Nat} (hi : i < R.length) : R.set i (R.getD i []) = R := by
 rw [List.getD_eq_getElem?_getD, List.getElem?_eq_getElem hi]
 exact List.set_getElem_self hi
def swapR (R : List (List Int)) (i k : Nat) : List (List Int) := (R.set i (R.getD k [])).set k (R.getD i [])
def negC (R : List (List Int)) (k : Nat) : Nat → List (List Int)
 | 0 => R
 | t + 1 => setE (negC R k t) k t (-(ent (negC R k t) k t))
def mulC (R : List (List Int)) (i k : Nat) (f : Int) : Nat → List (List Int)
 | 0 => R
 | t + 1 => setE (mulC R i k f t) i t (ent (mulC R i k f t) i t + f * ent (mulC R i k f t) k t)
def changedR (R : List (List Int)) (i k : Nat) (f : Int) : List (List Int) := if i = k then negC (swapR R i k) k 6 else mulC (negC (swapR R i k) k 6) i k f 6
def SixR (R : List (List Int)) : Prop := ∀ r ∈ R, r.length = 6
def lprod (f : Nat → Int) : List Nat → Int
 | [] => 1
 | x :: l => lprod f l * f x
def subs : Nat → Nat → List (List Nat)
 | _, 0 => [[]]
 | 0, _ + 1 => []
 | n + 1, k + 1 => subs n (k + 1) ++ (subs n k).map (· ++ [n])
theorem Inc.pair {n : Nat} : ∀ {s : Nat} {l : List Nat}, Inc n s l → l.Pairwise (· < ·)
 | _, [], _ => List.Pairwise.nil
 | s, a :: t, h => List.Pairwise.cons (fun x hx => by have := h.2.2.lt x hx; omega) h.2.2.pair
theorem inc_iff {n : Nat} {l : List Nat} : Inc n 0 l ↔ l.Pairwise (· < ·) ∧ ∀ x ∈ l, x < n :=
 ⟨fun h => ⟨h.pair, fun x hx => (h.lt x hx).2⟩, fun h => inc_of h.1 fun x hx => ⟨Nat.zero_le _, h.2 x hx⟩⟩
theorem subs_mem : ∀ {n k : Nat} {l : List Nat}, l ∈ subs n k ↔ Inc n 0 l ∧ l.length = k
 | n, 0, l => by
  have e : subs n 0 = [[]] := by cases n <;> rfl
  rw [e, List.mem_singleton]
  constructor
  ·rintro rfl
   exact ⟨trivial, rfl⟩
  ·exact fun h => List.length_eq_zero_iff.1 h.2
 | 0, k + 1, l => by
  constructor
  ·intro h; cases h
  ·rintro ⟨h1, h2⟩
   cases l with
   | nil => simp at h2
   | cons a t => have := h1.2.1; omega
 | n + 1, k + 1, l => by
  show l ∈ subs n (k + 1) ++ (subs n k).map (· ++ [n]) ↔ _
  rw [List.mem_append, subs_mem, List.mem_map]
  constructor
  ·rintro (⟨h1, h2⟩ | ⟨l', h1, rfl⟩)
   ·exact ⟨inc_iff.2 ⟨h1.pair, fun x hx => by have := (h1.lt x hx).2; omega⟩, h2⟩
   ·obtain ⟨h2, h3⟩ := subs_mem.1 h1
    refine ⟨inc_iff.2 ⟨?_, fun x hx => ?_⟩, by simp [h3]⟩
    ·rw [List.pairwise_append]
     exact ⟨h2.pair, List.pairwise_singleton _ _, fun a ha b hb => by
      simp at hb
      have := (h2.lt a ha).2
      omega⟩
    ·rcases List.mem_append.1 hx with h | h
     ·have := (h2.lt x h).2; omega
     ·simp at h; omega
  ·rintro ⟨h1, h2⟩
   obtain ⟨p1, p2⟩ := inc_iff.1 h1
   have hne : l ≠ [] := fun h => by rw [h] at h2; simp at h2
   have hl := List.dropLast_concat_getLast hne
   by_cases hn : l.getLast hne = n
   ·refine .inr ⟨l.dropLast, subs_mem.2 ⟨inc_iff.2 ⟨?_, fun x hx => ?_⟩, by simp [h2]⟩, by rw [← hn]; exact hl⟩
    ·exact List.Pairwise.sublist (List.dropLast_sublist l) p1
    ·rw [← hl, List.pairwise_append] at p1
     have := p1.2.2 x hx (l.getLast hne) (by simp)
     omega
   ·refine .inl ⟨inc_iff.2 ⟨p1, fun x hx => ?_⟩, h2⟩
    have hlast : l.getLast hne < n := by
     have := p2 _ (List.getLast_mem hne)
     omega
    rw [← hl] at hx
    rcases List.mem_append.1 hx with h | h
    ·rw [← hl, List.pairwise_append] at p1
     have := p1.2.2 x h (l.getLast hne) (by simp)
     omega
    ·simp at h; omega
def dRow (rows : List (List Int)) (k : Nat) (g : Nat) (is : List Nat) : Nat := (subs 6 k).foldl (gStep rows is) g
def divRK (rows : List (List Int)) (k : Nat) : Nat := (subs rows.length k).foldl (dRow rows k) 0
theorem dRow_dvd {rows : List (List Int)} {k g : Nat} (a : Nat) (is : List Nat) : g ∣ dRow rows k a is ↔ g ∣ a ∧ ∀ js ∈ subs 6 k, (g : Int) ∣ minorF (ent rows) is js :=
 foldl_dvd (P := fun js => (g : Int) ∣ minorF (ent rows) is js) (fun a js => by
  show g ∣ Nat.gcd a (absI (minorF (ent rows) is js)).toNat ↔ _
  rw [Nat.dvd_gcd_iff, abs_dvd]) _ _
theorem divRK_dvd {rows : List (List Int)} {k g : Nat} : g ∣ divRK rows k ↔ DvM (ent rows) rows.length k g := by
 unfold divRK
 rw [foldl_dvd (P := fun is => ∀ js ∈ subs 6 k, (g : Int) ∣ minorF (ent rows) is js) (fun a is => dRow_dvd a is)]
 constructor
 ·exact fun h => DvM.of_inc fun is js h1 h2 h3 h4 => h.2 is (subs_mem.2 ⟨h3, h1⟩) js (subs_mem.2 ⟨h4, h2⟩)
 ·intro h
  refine ⟨Nat.dvd_zero _, fun is hi js hj => ?_⟩
  obtain ⟨a1, a2⟩ := subs_mem.1 hi
  obtain ⟨b1, b2⟩ := subs_mem.1 hj
  exact h is js a2 b2 (fun i hi => (a1.lt i hi).2) fun j hj => (b1.lt j hj).2
theorem divRK_same {A B : List (List Int)} (h : SameL A B) (k : Nat) : divRK A k = divRK B k := by
 have key : ∀ g : Nat, g ∣ divRK A k ↔ g ∣ divRK B k := fun g => by
  rw [divRK_dvd, divRK_dvd]
  exact ⟨fun hg => hg.comb fun b hb => (h _).2 (Sp.row hb), fun hg => hg.comb fun b hb => (h _).1 (Sp.row hb)⟩
 exact Nat.dvd_antisymm ((key _).1 (Nat.dvd_refl _)) ((key _).2 (Nat.dvd_refl _))
def JQ (N : Nat) (H : Hp) (q : Nat) (x : AV) (l : List Nat) : Prop := ∀ H' : Hp, H.length ≤ H'.length → (∀ j, N ≤ j → j < H.length → j ≠ q → H'[j]? = H[j]?) → JS H' x l
structure SS (N : Nat) (H : Hp) (v : AV) (q : Nat) (xs : List AV) (L : List (List Nat)) : Prop where
 gs : GS 1 H v q xs
 len : xs.length = L.length
 fr : v = .snil ∨ N ≤ q ∧ q < H.length
 el : ∀ i, i < L.length → JQ N H q (gt xs i) (L.getD i [])
theorem gs_keep {sz : Nat} {H H' : Hp} {v : AV} {q : Nat} {c : List AV} (h : GS sz H v q c) (he : v = .snil ∨ H'[q]? = H[q]?) : GS sz H' v q c := by
 rcases h with ⟨rfl, h⟩ | ⟨g, rfl, h1, h2⟩ | ⟨g, n, rfl, h1, h2, h3⟩
 ·exact .inl ⟨rfl, h⟩
 ·rcases he with he | he
  ·cases he
  ·exact .inr (.inl ⟨g, rfl, h1, (look_of_get he).trans h2⟩)
 ·rcases he with he | he
  ·cases he
  ·exact .inr (.inr ⟨g, n, rfl, h1, h2, (look_of_get he).trans h3⟩)
theorem SS.nil {N : Nat} {H : Hp} {q : Nat} : SS N H .snil q [] [] := ⟨.inl ⟨rfl, rfl⟩, rfl, .inl rfl, fun i hi => by simp at hi⟩
theorem SS.at {N : Nat} {H : Hp} {v : AV} {q : Nat} {xs : List AV} {L : List (List Nat)} (h : SS N H v q xs L) {i : Nat} (hi : i < L.length) : ∃ g, indexAddrAV 1 v (.int .i64 (i : Nat)) = some (.pref q g i) ∧ Zz.look H q g = some xs ∧ xs[i]? = some (gt xs i) := by
 have hl := h.len
 obtain ⟨g, n, rfl, h1, h2, _⟩ := h.gs.ref (by intro e; rw [e] at hl; simp at hl; omega)
 refine ⟨g, by rw [ia_sref, idx_nat (show i < n by omega)]; simp, h2, ?_⟩
 rw [gt_eq, List.getD_eq_getElem?_getD, List.getElem?_eq_getElem (by omega)]
 rfl
end Go.Proofs.Ytnilimjkibimcaa

