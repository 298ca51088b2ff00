import Derived.Test.YtnilimjkibimcaaPQ
import Derived.Test.YtnilimjkibimcaaPo

set_option linter.unusedSimpArgs false
set_option linter.unusedVariables false

namespace Go.Proofs.Ytnilimjkibimcaa
open Go.Zz
def maskE (e : Nat → Nat → Int) (J : List Nat) (i j : Nat) : Int := if j ∈ J then e i j else 0
theorem mask_minor {e : Nat → Nat → Int} {is J : List Nat} : minorF (maskE e J) is J = minorF e is J := minor_eqs fun i _ j hj => if_pos hj
theorem mask_row {e : Nat → Nat → Int} {J : List Nat} {m : Nat} {v : Nat → Int} (h : RowL e m v) : RowL (maskE e J) m fun j => if j ∈ J then v j else 0 := by
 obtain ⟨c, hc⟩ := h.coef
 refine Sp.sum (f := maskE e J) (c := c) (m := m) (fun t ht => Sp.row ht) fun j hj => ?_
 show (if j ∈ J then v j else 0) = psumF (fun i => c i * maskE e J i j) m
 by_cases h1 : j ∈ J
 ·rw [if_pos h1, hc j hj]
  exact psumF_congr fun k _ => by unfold maskE; rw [if_pos h1]
 ·rw [if_neg h1, ← psumF_zero m]
  exact psumF_congr fun k _ => by unfold maskE; rw [if_neg h1, Int.mul_zero]
theorem sub_sorted : ∀ {a b : List Nat}, a.Pairwise (· < ·) → b.Pairwise (· < ·) → (∀ x ∈ a, x ∈ b) → a.Sublist b
 | [], b, _, _, _ => List.nil_sublist b
 | x :: a, [], _, _, h => by have := h x (by simp); simp at this
 | x :: a, y :: b, h1, h2, h => by
  rw [List.pairwise_cons] at h1 h2
  by_cases hxy : x = y
  ·subst hxy
   refine (sub_sorted h1.2 h2.2 fun z hz => ?_).cons_cons x
   have := h1.1 z hz
   rcases List.mem_cons.1 (h z (by simp [hz])) with rfl | hb
   ·omega
   ·exact hb
  ·have hx : x ∈ b := by
    rcases List.mem_cons.1 (h x (by simp)) with e | hb
    ·exact absurd e hxy
    ·exact hb
   have hyx := h2.1 x hx
   refine (sub_sorted (List.pairwise_cons.2 h1) h2.2 fun z hz => ?_).cons y
   rcases List.mem_cons.1 (h z hz) with rfl | hb
   ·rcases List.mem_cons.1 hz with e | hz
    ·omega
    ·have := h1.1 z hz; omega
   ·exact hb
theorem minor_row0 {e : Nat → Nat → Int} {is us : List Nat} {b : Nat} (hb : b ∈ is) (h : ∀ j ∈ us, e b j = 0) : minorF e is us = 0 := by
 obtain ⟨pre, post, rfl⟩ := List.append_of_mem hb
 have := minor_lin (e := e) (D := 1) (b := b) (m := 0) (c := fun _ => 0) (a := fun l => l) (post := post) (pre := pre) (us := us) fun j hj => by rw [h j hj]; rfl
 rw [Int.one_mul] at this
 exact this
theorem minor_col0 {e : Nat → Nat → Int} {is us : List Nat} {j : Nat} (hl : is.length = us.length) (hj : j ∈ us) (h : ∀ i ∈ is, e i j = 0) : minorF e is us = 0 := by
 rw [minor_tr e us is hl]
 exact minor_row0 hj h
theorem mask_dv {e : Nat → Nat → Int} {m k : Nat} {J : List Nat} {g : Int} (hJ : Inc 6 0 J) (hk : J.length = k) (h : ∀ is, is.length = k → Inc m 0 is → g ∣ minorF e is J) : DvM (maskE e J) m k g := by
 refine DvM.of_inc fun is js h1 h2 h3 h4 => ?_
 by_cases hs : ∀ x ∈ js, x ∈ J
 ·have e1 : js = J := (sub_sorted h4.pair hJ.pair hs).eq_of_length (by omega)
  rw [e1, mask_minor]
  exact h is h1 h3
 ·obtain ⟨x, hx⟩ := Classical.not_forall.1 hs
  obtain ⟨hx1, hx2⟩ := Classical.not_imp.1 hx
  rw [minor_col0 (by omega) hx1 fun i _ => by unfold maskE; rw [if_neg hx2]]
  exact Int.dvd_zero _
theorem inc_range {m k : Nat} {is : List Nat} (h : Inc m 0 is) (hk : is.length = m) : is = List.range m :=
 (sub_sorted h.pair List.pairwise_lt_range fun x hx => List.mem_range.2 (h.lt x hx).2).eq_of_length (by rw [List.length_range]; exact hk)
theorem nab_le {a b : Int} (h : a ∣ b) (hb : b ≠ 0) : a.natAbs ≤ b.natAbs := Nat.le_of_dvd (by omega) (Int.natAbs_dvd_natAbs.2 h)
theorem minor_le {e e' : Nat → Nat → Int} {k m' : Nat} {J : List Nat} {B : Int} (hB : 0 ≤ B) (hk : J.length = k) (hJ : Inc 6 0 J) (h1 : ∀ b, b < k → RowL e' m' (e b)) (h2 : ∀ b, b < m' → RowL e k (e' b))
  (hb : ∀ is, is.length = k → Inc m' 0 is → -B ≤ minorF e' is J ∧ minorF e' is J ≤ B) : -B ≤ minorF e (List.range k) J ∧ minorF e (List.range k) J ≤ B := by
 have hrow : ∀ {e e' : Nat → Nat → Int} {m b : Nat}, RowL e m (e' b) → RowL (maskE e J) m (maskE e' J b) := fun h => mask_row h
 have hD : DvM (maskE e J) k k (minorF e (List.range k) J) := mask_dv hJ hk fun is a1 a2 => by
  rw [inc_range (k := k) a2 a1]
  exact Int.dvd_refl _
 have hD' : DvM (maskE e' J) m' k (minorF e (List.range k) J) := hD.comb fun b hb => hrow (h2 b hb)
 by_cases hex : ∃ is, is.length = k ∧ Inc m' 0 is ∧ minorF e' is J ≠ 0
 ·obtain ⟨is, a1, a2, a3⟩ := hex
  have hd := hD' is J a1 hk (fun i hi => (a2.lt i hi).2) fun j hj => (hJ.lt j hj).2
  rw [mask_minor] at hd
  have := nab_le hd a3
  have hbb := hb is a1 a2
  omega
 ·have hZ : DvM (maskE e' J) m' k 0 := mask_dv hJ hk fun is a1 a2 => by
   have : minorF e' is J = 0 := Decidable.byContradiction fun h => hex ⟨is, a1, a2, h⟩
   rw [this]
   exact Int.dvd_refl _
  have hZ' : DvM (maskE e J) k k 0 := hZ.comb fun b hb => hrow (h1 b hb)
  have hd := hZ' (List.range k) J (by simp) hk (fun i hi => List.mem_range.1 hi) fun j hj => (hJ.lt j hj).2
  rw [mask_minor] at hd
  have := Int.zero_dvd.1 hd
  omega
theorem herm_same {rows : List (List Int)} (hv : VM rows) (h6 : Six rows) : SameL (hermF rows) rows := (herm_lat hv h6).sp
theorem herm_minor {rows : List (List Int)} (hv : VM rows) (h6 : Six rows) {is js : List Nat} (hi : Inc (hermF rows).length 0 is) (hil : is.length = (hermF rows).length) (hj : Inc 6 0 js) (hjl : js.length = is.length) :
  -1000000000 ≤ minorF (ent (hermF rows)) is js ∧ minorF (ent (hermF rows)) is js ≤ 1000000000 := by
 rw [inc_range (k := (hermF rows).length) hi hil]
 have hS := herm_same hv h6
 refine minor_le (e' := ent rows) (m' := rows.length) (by decide) (by omega) hj (fun b hb => (hS _).1 (Sp.row hb)) (fun b hb => (hS _).2 (Sp.row hb)) fun is a1 a2 => ?_
 obtain ⟨_, _, _, b1, b2⟩ := minor_1 hv h6 a2 hj
 exact ⟨b1, b2⟩
def Eq6 (e e' : Nat → Nat → Int) : Prop := ∀ k g, DvM e 6 k g ↔ DvM e' 6 k g
theorem Eq6.trans {a b c : Nat → Nat → Int} (h : Eq6 a b) (h' : Eq6 b c) : Eq6 a c := fun k g => (h k g).trans (h' k g)
def tr6 (e : Nat → Nat → Int) (i j : Nat) : Int := e j i
def addRw (e : Nat → Nat → Int) (t a : Nat) (c : Int) (i j : Nat) : Int := if i = t then e t j + c * e a j else e i j
def swapRw (e : Nat → Nat → Int) (t a : Nat) (i j : Nat) : Int := e (if i = t then a else if i = a then t else i) j
def clrRw (e : Nat → Nat → Int) (i j : Nat) : Int := if i = 0 then e 0 j else e i j - e i 0 / e 0 0 * e 0 j
theorem least {P : Nat → Prop} {a : Nat} (h : P a) : ∃ a, P a ∧ ∀ b, b < a → ¬ P b := by
 induction a using Nat.strongRecOn with
 | ind a ih =>
  by_cases hx : ∃ b, b < a ∧ P b
  ·obtain ⟨b, hb, hp⟩ := hx
   exact ih b hb hp
  ·exact ⟨a, h, fun b hb hp => hx ⟨b, hb, hp⟩⟩
def rest6 (e : Nat → Nat → Int) (i j : Nat) : Int := if i = 0 ∨ j = 0 then 0 else e i j
def IsG (e : Nat → Nat → Int) (k : Nat) (d : Int) : Prop := ∀ x, DvM e 6 k x ↔ x ∣ d
def pad6 (H : List (List Int)) (i j : Nat) : Int := if i < H.length then ent H i j else 0
def pprodF (f : Nat → Int) : Nat → Int
 | 0 => 1
 | n + 1 => pprodF f n * f n
theorem pprod_cons (f : Nat → Int) : ∀ n, pprodF f (n + 1) = f 0 * pprodF (fun t => f (t + 1)) n
 | 0 => by simp [pprodF]
 | n + 1 => by
  show pprodF f (n + 1) * f (n + 1) = f 0 * (pprodF (fun t => f (t + 1)) n * f (n + 1))
  rw [pprod_cons f n, Int.mul_assoc]
theorem pprod_congr {f g : Nat → Int} : ∀ {n : Nat}, (∀ k, k < n → f k = g k) → pprodF f n = pprodF g n
 | 0, _ => rfl
 | n + 1, h => by
  show pprodF f n * f n = pprodF g n * g n
  rw [pprod_congr (n := n) fun k hk => h k (by omega), h n (by omega)]
theorem minor_tri {e : Nat → Nat → Int} : ∀ {is us : List Nat}, is.length = us.length → (∀ a b, b < a → a < is.length → e (is.getD a 0) (us.getD b 0) = 0) → minorF e is us = pprodF (fun t => e (is.getD t 0) (us.getD t 0)) is.length
 | [], [], _, _ => rfl
 | [], _ :: _, h, _ => by simp at h
 | _ :: _, [], h, _ => by simp at h
 | i :: is, u :: us, hl, h => by
  rw [minor_col e u (i :: is) us (by simpa using hl), psumF_one (k := 0) (by simp) fun t ht ht0 => ?_]
  ·show sg 0 * (e i u * minorF e is us) = pprodF _ (is.length + 1)
   rw [minor_tri (by simpa using hl) fun a b hba ha => by
    have := h (a + 1) (b + 1) (by omega) (by simpa using ha)
    simpa using this, pprod_cons]
   show 1 * _ = _
   rw [Int.one_mul]
   rfl
  ·have := h t 0 (by omega) (by simpa using ht)
   rw [List.getD_cons_zero] at this
   rw [this, Int.zero_mul, Int.mul_zero]
theorem pprod_mono {f : Nat → Int} (n : Nat) (h : ∀ k, k < n → 1 ≤ f k) : ∀ i, i ≤ n → 1 ≤ pprodF f i ∧ ∀ k, k ≤ i → pprodF f k ≤ pprodF f i
 | 0, _ => ⟨Int.le_refl (1 : Int), fun k hk => by
  have e : k = 0 := by omega
  rw [e]
  exact Int.le_refl _⟩
 | i + 1, hi => by
  obtain ⟨h1, h2⟩ := pprod_mono n h i (by omega)
  have h3 := h i (by omega)
  have h4 : pprodF f i ≤ pprodF f (i + 1) := by
   have := Int.mul_le_mul_of_nonneg_left h3 (show 0 ≤ pprodF f i by omega)
   rw [Int.mul_one] at this
   exact this
  refine ⟨by omega, fun k hk => ?_⟩
  by_cases hki : k = i + 1
  ·subst hki; exact Int.le_refl _
  ·have := h2 k (by omega); omega
theorem getD_range {n a : Nat} (h : a < n) : (List.range n).getD a 0 = a := by
 rw [List.getD_eq_getElem?_getD, List.getElem?_eq_getElem (by rw [List.length_range]; exact h), List.getElem_range]
 rfl
def pivP (rows : List (List Int)) (i : Nat) : Int := ent (hermF rows) i ((fwdF rows).js.getD i 0)
theorem pivP_all {rows : List (List Int)} (hv : VM rows) (h6 : Six rows) : (∀ i, i < (hermF rows).length → 1 ≤ pivP rows i) ∧ pprodF (pivP rows) (hermF rows).length ≤ 1000000000 ∧ ((divRK rows (hermF rows).length : Nat) : Int) ∣ pprodF (pivP rows) (hermF rows).length := by
 have hH := herm_lat hv h6
 have hl := hH.len
 have hf := hH.hf
 have hB := fwd_B hv h6
 have hs := fwd_sorted rows
 have hj : Inc 6 0 (fwdF rows).js := inc_iff.2 ⟨hs, hB.j.2⟩
 have e1 : minorF (ent (hermF rows)) (List.range (hermF rows).length) (fwdF rows).js = pprodF (pivP rows) (hermF rows).length := by
  rw [minor_tri (by rw [List.length_range]; exact hl) fun a b hba ha => by
   rw [List.length_range] at ha
   rw [getD_range ha]
   exact hf.zero a (by omega) _ (hf.up b a hba (by omega)), List.length_range]
  exact pprod_congr fun k hk => by rw [getD_range hk]; rfl
 refine ⟨fun i hi => hf.pos i (by omega), ?_, ?_⟩
 ·rw [← e1]
  exact (herm_minor hv h6 (inc_iff.2 ⟨List.pairwise_lt_range, fun x hx => List.mem_range.1 hx⟩) (by simp) hj (by rw [List.length_range]; omega)).2
 ·have hd := divRK_dvd.1 (Nat.dvd_refl (divRK (hermF rows) (hermF rows).length))
  rw [divRK_same (herm_same hv h6)] at hd
  have := hd (List.range (hermF rows).length) (fwdF rows).js (by simp) hl.symm (fun i hi => List.mem_range.1 hi) hB.j.2
  rw [e1] at this
  exact this
end Go.Proofs.Ytnilimjkibimcaa

