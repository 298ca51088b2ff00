import Derived.Test.YtgchabldcnmccabDoorUPp
import Derived.Test.YtgchabldcnmccabDoorUPo

set_option linter.unusedSimpArgs false
set_option linter.unusedVariables false

namespace Go.Proofs.YtgchabldcnmccabDoor
open Go.Zz
def zeZ (e : Nat -> Nat -> Int) (J : List Nat) (i j : Nat) : Int := if j ∈ J then e i j else 0
theorem zfn {e : Nat -> Nat -> Int} {is J : List Nat} : zab (zeZ e J) is J = zab e is J := zeN fun i _ j hj => if_pos hj
theorem zpb {e : Nat -> Nat -> Int} {J : List Nat} {m : Nat} {v : Nat -> Int} (h : zd5 e m v) : zd5 (zeZ e J) m fun j => if j ∈ J then v j else 0 := by
 obtain ⟨c, hc⟩ := h.coef
 refine Sp.sum (f := zeZ e J) (c := c) (m := m) (fun t ht => Sp.row ht) fun j hj => ?_
 show (if j ∈ J then v j else 0) = zag (fun i => c i * zeZ e J i j) m
 by_cases h1 : j ∈ J
 ·rw [if_pos h1, hc j hj]
  exact zac fun k _ => by unfold zeZ; rw [if_pos h1]
 ·rw [if_neg h1, <- za7 m]
  exact zac fun k _ => by unfold zeZ; rw [if_neg h1, Int.mul_zero]
theorem zd7 : ∀ {a b : List Nat}, a.Pairwise (· < ·) -> b.Pairwise (· < ·) -> (∀ x ∈ a, x ∈ b) -> a.Sublist b
 | [], b, _, _, _ => List.nil_sublist b
 | x :: a, [], _, _, h => by have := h x (by simp); simp at this
 | x :: a, y :: b, h1, h2, h => by
  rw [List.pairwise_cons] at h1 h2
  by_cases hxy : x = y
  ·subst hxy;refine (zd7 h1.2 h2.2 fun z hz => ?_).cons_cons x;have := h1.1 z hz
   rcases List.mem_cons.1 (h z (by simp [hz])) with rfl | hb
   ·omega
   ·exact hb
  ·have hx : x ∈ b := by
    rcases List.mem_cons.1 (h x (by simp)) with e | hb
    ·exact absurd e hxy
    ·exact hb
   have hyx := h2.1 x hx;refine (zd7 (List.pairwise_cons.2 h1) h2.2 fun z hz => ?_).cons y
   rcases List.mem_cons.1 (h z hz) with rfl | hb
   ·rcases List.mem_cons.1 hz with e | hz
    ·omega
    ·have := h1.1 z hz; omega
   ·exact hb
theorem zlC {e : Nat -> Nat -> Int} {is us : List Nat} {b : Nat} (hb : b ∈ is) (h : ∀ j ∈ us, e b j = 0) : zab e is us = 0 := by
 obtain ⟨pre, post, rfl⟩ := List.append_of_mem hb
 have := zdL (e := e) (D := 1) (b := b) (m := 0) (c := fun _ => 0) (a := fun l => l) (post := post) (pre := pre) (us := us) fun j hj => by rw [h j hj]; rfl
 rw [Int.one_mul] at this;exact this
theorem zlS {e : Nat -> Nat -> Int} {is us : List Nat} {j : Nat} (hl : is.length = us.length) (hj : j ∈ us) (h : ∀ i ∈ is, e i j = 0) : zab e is us = 0 := by
 rw [zco e us is hl];exact zlC hj h
theorem znE {e : Nat -> Nat -> Int} {m k : Nat} {J : List Nat} {g : Int} (hJ : Inc 6 0 J) (hk : J.length = k) (h : ∀ is, is.length = k -> Inc m 0 is -> g ∣ zab e is J) : DvM (zeZ e J) m k g := by
 refine DvM.of_inc fun is js h1 h2 h3 h4 => ?_
 by_cases hs : ∀ x ∈ js, x ∈ J
 ·have e1 : js = J := (zd7 h4.pair hJ.pair hs).eq_of_length (by omega);rw [e1, zfn];exact h is h1 h3
 ·obtain ⟨x, hx⟩ := Classical.not_forall.1 hs;obtain ⟨hx1, hx2⟩ := Classical.not_imp.1 hx;rw [zlS (by omega) hx1 fun i _ => by unfold zeZ; rw [if_neg hx2]];exact Int.dvd_zero _
theorem ziR {m k : Nat} {is : List Nat} (h : Inc m 0 is) (hk : is.length = m) : is = List.range m :=
 (zd7 h.pair List.pairwise_lt_range fun x hx => List.mem_range.2 (h.lt x hx).2).eq_of_length (by rw [List.length_range]; exact hk)
theorem ztW {a b : Int} (h : a ∣ b) (hb : b ≠ 0) : a.natAbs <= b.natAbs := Nat.le_of_dvd (by omega) (Int.natAbs_dvd_natAbs.2 h)
theorem zpk {e e' : Nat -> Nat -> Int} {k m' : Nat} {J : List Nat} {B : Int} (hB : 0 <= B) (hk : J.length = k) (hJ : Inc 6 0 J) (h1 : ∀ b, b < k -> zd5 e' m' (e b)) (h2 : ∀ b, b < m' -> zd5 e k (e' b))
  (hb : ∀ is, is.length = k -> Inc m' 0 is -> -B <= zab e' is J /\ zab e' is J <= B) : -B <= zab e (List.range k) J /\ zab e (List.range k) J <= B := by
 have hrow : ∀ {e e' : Nat -> Nat -> Int} {m b : Nat}, zd5 e m (e' b) -> zd5 (zeZ e J) m (zeZ e' J b) := fun h => zpb h
 have hD : DvM (zeZ e J) k k (zab e (List.range k) J) := znE hJ hk fun is a1 a2 => by
  rw [ziR (k := k) a2 a1];exact Int.dvd_refl _
 have hD' : DvM (zeZ e' J) m' k (zab e (List.range k) J) := hD.comb fun b hb => hrow (h2 b hb)
 by_cases hex : ∃ is, is.length = k /\ Inc m' 0 is /\ zab e' is J ≠ 0
 ·obtain ⟨is, a1, a2, a3⟩ := hex
  have hd := hD' is J a1 hk (fun i hi => (a2.lt i hi).2) fun j hj => (hJ.lt j hj).2
  rw [zfn] at hd;have := ztW hd a3;have hbb := hb is a1 a2;omega
 ·have hZ : DvM (zeZ e' J) m' k 0 := znE hJ hk fun is a1 a2 => by
   have : zab e' is J = 0 := Decidable.byContradiction fun h => hex ⟨is, a1, a2, h⟩
   rw [this];exact Int.dvd_refl _
  have hZ' : DvM (zeZ e J) k k 0 := hZ.comb fun b hb => hrow (h1 b hb)
  have hd := hZ' (List.range k) J (by simp) hk (fun i hi => List.mem_range.1 hi) fun j hj => (hJ.lt j hj).2
  rw [zfn] at hd;have := Int.zero_dvd.1 hd;omega
theorem zjx {rows : List (List Int)} (hv : VM rows) (h6 : Six rows) : SameL (zaI rows) rows := (zd8 hv h6).sp
theorem zmk {rows : List (List Int)} (hv : VM rows) (h6 : Six rows) {is js : List Nat} (hi : Inc (zaI rows).length 0 is) (hil : is.length = (zaI rows).length) (hj : Inc 6 0 js) (hjl : js.length = is.length) :
  -1000000000 <= zab (ent (zaI rows)) is js /\ zab (ent (zaI rows)) is js <= 1000000000 := by
 rw [ziR (k := (zaI rows).length) hi hil];have hS := zjx hv h6
 refine zpk (e' := ent rows) (m' := rows.length) (by decide) (by omega) hj (fun b hb => (hS _).1 (Sp.row hb)) (fun b hb => (hS _).2 (Sp.row hb)) fun is a1 a2 => ?_
 obtain ⟨_, _, _, b1, b2⟩ := zqE hv h6 a2 hj;exact ⟨b1, b2⟩
def Eq6 (e e' : Nat -> Nat -> Int) : Prop := ∀ k g, DvM e 6 k g ↔ DvM e' 6 k g
def tr6 (e : Nat -> Nat -> Int) (i j : Nat) : Int := e j i
def addRw (e : Nat -> Nat -> Int) (t a : Nat) (c : Int) (i j : Nat) : Int := if i = t then e t j + c * e a j else e i j
def swapRw (e : Nat -> Nat -> Int) (t a : Nat) (i j : Nat) : Int := e (if i = t then a else if i = a then t else i) j
def clrRw (e : Nat -> Nat -> Int) (i j : Nat) : Int := if i = 0 then e 0 j else e i j - e i 0 / e 0 0 * e 0 j
theorem least {P : Nat -> Prop} {a : Nat} (h : P a) : ∃ a, P a /\ ∀ b, b < a -> ¬ P b := by
 induction a using Nat.strongRecOn with
 | ind a ih =>
  by_cases hx : ∃ b, b < a /\ P b
  ·obtain ⟨b, hb, hp⟩ := hx;exact ih b hb hp
  ·exact ⟨a, h, fun b hb hp => hx ⟨b, hb, hp⟩⟩
def rest6 (e : Nat -> Nat -> Int) (i j : Nat) : Int := if i = 0 \/ j = 0 then 0 else e i j
def IsG (e : Nat -> Nat -> Int) (k : Nat) (d : Int) : Prop := ∀ x, DvM e 6 k x ↔ x ∣ d
def pad6 (H : List (List Int)) (i j : Nat) : Int := if i < H.length then ent H i j else 0
def zaP (f : Nat -> Int) : Nat -> Int
 | 0 => 1
 | n + 1 => zaP f n * f n
theorem zhW (f : Nat -> Int) : ∀ n, zaP f (n + 1) = f 0 * zaP (fun t => f (t + 1)) n
 | 0 => by simp [zaP]
 | n + 1 => by
  show zaP f (n + 1) * f (n + 1) = f 0 * (zaP (fun t => f (t + 1)) n * f (n + 1))
  rw [zhW f n, Int.mul_assoc]
theorem zgo {f g : Nat -> Int} : ∀ {n : Nat}, (∀ k, k < n -> f k = g k) -> zaP f n = zaP g n
 | 0, _ => rfl
 | n + 1, h => by
  show zaP f n * f n = zaP g n * g n
  rw [zgo (n := n) fun k hk => h k (by omega), h n (by omega)]
theorem zjq {e : Nat -> Nat -> Int} : ∀ {is us : List Nat}, is.length = us.length -> (∀ a b, b < a -> a < is.length -> e (is.getD a 0) (us.getD b 0) = 0) -> zab e is us = zaP (fun t => e (is.getD t 0) (us.getD t 0)) is.length
 | [], [], _, _ => rfl
 | [], _ :: _, h, _ => by simp at h
 | _ :: _, [], h, _ => by simp at h
 | i :: is, u :: us, hl, h => by
  rw [ze9 e u (i :: is) us (by simpa using hl), zbe (k := 0) (by simp) fun t ht ht0 => ?_]
  ·show sg 0 * (e i u * zab e is us) = zaP _ (is.length + 1)
   rw [zjq (by simpa using hl) fun a b hba ha => by
    have := h (a + 1) (b + 1) (by omega) (by simpa using ha)
    simpa using this, zhW]
   show 1 * _ = _
   rw [Int.one_mul];rfl
  ·have := h t 0 (by omega) (by simpa using ht);rw [List.getD_cons_zero] at this;rw [this, Int.zero_mul, Int.mul_zero]
theorem zd1 {f : Nat -> Int} (n : Nat) (h : ∀ k, k < n -> 1 <= f k) : ∀ i, i <= n -> 1 <= zaP f i /\ ∀ k, k <= i -> zaP f k <= zaP f i
 | 0, _ => ⟨Int.le_refl (1 : Int), fun k hk => by
  have e : k = 0 := by omega
  rw [e]
  exact Int.le_refl _⟩
 | i + 1, hi => by
  obtain ⟨h1, h2⟩ := zd1 n h i (by omega);have h3 := h i (by omega)
  have h4 : zaP f i <= zaP f (i + 1) := by
   have := Int.mul_le_mul_of_nonneg_left h3 (show 0 <= zaP f i by omega);rw [Int.mul_one] at this;exact this
  refine ⟨by omega, fun k hk => ?_⟩
  by_cases hki : k = i + 1
  ·subst hki; exact Int.le_refl _
  ·have := h2 k (by omega); omega
theorem zhT {n a : Nat} (h : a < n) : (List.range n).getD a 0 = a := by
 rw [List.getD_eq_getElem?_getD, List.getElem?_eq_getElem (by rw [List.length_range]; exact h), List.getElem_range];rfl
def zls (rows : List (List Int)) (i : Nat) : Int := ent (zaI rows) i ((zbx rows).js.getD i 0)
theorem zkY {rows : List (List Int)} (hv : VM rows) (h6 : Six rows) : (∀ i, i < (zaI rows).length -> 1 <= zls rows i) /\ zaP (zls rows) (zaI rows).length <= 1000000000 /\ ((zi0 rows (zaI rows).length : Nat) : Int) ∣ zaP (zls rows) (zaI rows).length := by
 have hH := zd8 hv h6;have hl := hH.len;have hf := hH.hf;have hB := ziT hv h6;have hs := zhG rows;have hj : Inc 6 0 (zbx rows).js := zeA.2 ⟨hs, hB.j.2⟩
 have e1 : zab (ent (zaI rows)) (List.range (zaI rows).length) (zbx rows).js = zaP (zls rows) (zaI rows).length := by
  rw [zjq (by rw [List.length_range]; exact hl) fun a b hba ha => by
   rw [List.length_range] at ha;rw [zhT ha]
   exact hf.zero a (by omega) _ (hf.up b a hba (by omega)), List.length_range]
  exact zgo fun k hk => by rw [zhT hk]; rfl
 refine ⟨fun i hi => hf.pos i (by omega), ?_, ?_⟩
 ·rw [<- e1];exact (zmk hv h6 (zeA.2 ⟨List.pairwise_lt_range, fun x hx => List.mem_range.1 hx⟩) (by simp) hj (by rw [List.length_range]; omega)).2
 ·have hd := zg1.1 (Nat.dvd_refl (zi0 (zaI rows) (zaI rows).length));rw [zme (zjx hv h6)] at hd;have := hd (List.range (zaI rows).length) (zbx rows).js (by simp) hl.symm (fun i hi => List.mem_range.1 hi) hB.j.2;rw [e1] at this;exact this
end Go.Proofs.YtgchabldcnmccabDoor

