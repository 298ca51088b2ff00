import Derived.Test.YtnilimjkibimcaaPp
import Derived.Test.YtnilimjkibimcaaPo
set_option linter.unusedSimpArgs false
set_option linter.unusedVariables false

namespace Go.Proofs.Ytnilimjkibimcaa
open Go.Zz
def maskE (e : Nat → Nat → Int) (J : List Nat) (i j : Nat) : Int := if j ∈ J then e i j else 0
theorem sub_sorted : ∀ {a b : List Nat}, a.Pairwise (· < ·) → b.Pairwise (· < ·) → (∀ x ∈ a, x ∈ b) → a.Sublist b
  | [], b, _, _, _ => List.nil_sublist b
  | x :: a, [], _, _, h => by have := h x (by simp); simp at this
  | x :: a, y :: b, h1, h2, h => by
    rw [List.pairwise_cons] at h1 h2
    by_cases hxy : x = y
    · subst hxy
      refine (sub_sorted h1.2 h2.2 fun z hz => ?_).cons_cons x
      have := h1.1 z hz
      rcases List.mem_cons.1 (h z (by simp [hz])) with rfl | hb
      · omega
      · exact hb
    · have hx : x ∈ b := by
        rcases List.mem_cons.1 (h x (by simp)) with e | hb
        · exact absurd e hxy
        · exact hb
      have hyx := h2.1 x hx
      refine (sub_sorted (List.pairwise_cons.2 h1) h2.2 fun z hz => ?_).cons y
      rcases List.mem_cons.1 (h z hz) with rfl | hb
      · rcases List.mem_cons.1 hz with e | hz
        · omega
        · have := h1.1 z hz; omega
      · exact hb
theorem minor_row0 {e : Nat → Nat → Int} {is us : List Nat} {b : Nat} (hb : b ∈ is) (h : ∀ j ∈ us, e b j = 0) : minorF e is us = 0 := by
  obtain ⟨pre, post, rfl⟩ := List.append_of_mem hb
  have := minor_lin (e := e) (D := 1) (b := b) (m := 0) (c := fun _ => 0) (a := fun l => l) (post := post) (pre := pre) (us := us) fun j hj => by rw [h j hj]; rfl
  rw [Int.one_mul] at this
  exact this
theorem inc_range {m k : Nat} {is : List Nat} (h : Inc m 0 is) (hk : is.length = m) : is = List.range m :=
  (sub_sorted h.pair List.pairwise_lt_range fun x hx => List.mem_range.2 (h.lt x hx).2).eq_of_length (by rw [List.length_range]; exact hk)
theorem nab_le {a b : Int} (h : a ∣ b) (hb : b ≠ 0) : a.natAbs ≤ b.natAbs := Nat.le_of_dvd (by omega) (Int.natAbs_dvd_natAbs.2 h)
theorem psum_dvd {g : Int} {f : Nat → Int} : ∀ {n : Nat}, (∀ k, k < n → g ∣ f k) → g ∣ psumF f n
  | 0, _ => Int.dvd_zero _
  | n + 1, h => Int.dvd_add (psum_dvd (n := n) fun k hk => h k (by omega)) (h n (by omega))
def Eq6 (e e' : Nat → Nat → Int) : Prop := ∀ k g, DvM e 6 k g ↔ DvM e' 6 k g
def tr6 (e : Nat → Nat → Int) (i j : Nat) : Int := e j i
def addRw (e : Nat → Nat → Int) (t a : Nat) (c : Int) (i j : Nat) : Int := if i = t then e t j + c * e a j else e i j
def swapRw (e : Nat → Nat → Int) (t a : Nat) (i j : Nat) : Int := e (if i = t then a else if i = a then t else i) j
def clrRw (e : Nat → Nat → Int) (i j : Nat) : Int := if i = 0 then e 0 j else e i j - e i 0 / e 0 0 * e 0 j
theorem least {P : Nat → Prop} {a : Nat} (h : P a) : ∃ a, P a ∧ ∀ b, b < a → ¬ P b := by
  induction a using Nat.strongRecOn with
  | ind a ih =>
    by_cases hx : ∃ b, b < a ∧ P b
    · obtain ⟨b, hb, hp⟩ := hx
      exact ih b hb hp
    · exact ⟨a, h, fun b hb hp => hx ⟨b, hb, hp⟩⟩
def rest6 (e : Nat → Nat → Int) (i j : Nat) : Int := if i = 0 ∨ j = 0 then 0 else e i j
def IsG (e : Nat → Nat → Int) (k : Nat) (d : Int) : Prop := ∀ x, DvM e 6 k x ↔ x ∣ d
def pad6 (H : List (List Int)) (i j : Nat) : Int := if i < H.length then ent H i j else 0
def pprodF (f : Nat → Int) : Nat → Int
  | 0 => 1
  | n + 1 => pprodF f n * f n
theorem pprod_cons (f : Nat → Int) : ∀ n, pprodF f (n + 1) = f 0 * pprodF (fun t => f (t + 1)) n
  | 0 => by simp [pprodF]
  | n + 1 => by
    show pprodF f (n + 1) * f (n + 1) = f 0 * (pprodF (fun t => f (t + 1)) n * f (n + 1))
    rw [pprod_cons f n, Int.mul_assoc]
theorem pprod_congr {f g : Nat → Int} : ∀ {n : Nat}, (∀ k, k < n → f k = g k) → pprodF f n = pprodF g n
  | 0, _ => rfl
  | n + 1, h => by
    show pprodF f n * f n = pprodF g n * g n
    rw [pprod_congr (n := n) fun k hk => h k (by omega), h n (by omega)]
theorem minor_tri {e : Nat → Nat → Int} : ∀ {is us : List Nat}, is.length = us.length → (∀ a b, b < a → a < is.length → e (is.getD a 0) (us.getD b 0) = 0) → minorF e is us = pprodF (fun t => e (is.getD t 0) (us.getD t 0)) is.length
  | [], [], _, _ => rfl
  | [], _ :: _, h, _ => by simp at h
  | _ :: _, [], h, _ => by simp at h
  | i :: is, u :: us, hl, h => by
    rw [minor_col e u (i :: is) us (by simpa using hl), psumF_one (k := 0) (by simp) fun t ht ht0 => ?_]
    · show sg 0 * (e i u * minorF e is us) = pprodF _ (is.length + 1)
      rw [minor_tri (by simpa using hl) fun a b hba ha => by
        have := h (a + 1) (b + 1) (by omega) (by simpa using ha)
        simpa using this, pprod_cons]
      show 1 * _ = _
      rw [Int.one_mul]
      rfl
    · have := h t 0 (by omega) (by simpa using ht)
      rw [List.getD_cons_zero] at this
      rw [this, Int.zero_mul, Int.mul_zero]
theorem pprod_mono {f : Nat → Int} (n : Nat) (h : ∀ k, k < n → 1 ≤ f k) : ∀ i, i ≤ n → 1 ≤ pprodF f i ∧ ∀ k, k ≤ i → pprodF f k ≤ pprodF f i
  | 0, _ => ⟨Int.le_refl (1 : Int), fun k hk => by
    have e : k = 0 := by omega
    rw [e]
    exact Int.le_refl _⟩
  | i + 1, hi => by
    obtain ⟨h1, h2⟩ := pprod_mono n h i (by omega)
    have h3 := h i (by omega)
    have h4 : pprodF f i ≤ pprodF f (i + 1) := by
      have := Int.mul_le_mul_of_nonneg_left h3 (show 0 ≤ pprodF f i by omega)
      rw [Int.mul_one] at this
      exact this
    refine ⟨by omega, fun k hk => ?_⟩
    by_cases hki : k = i + 1
    · subst hki; exact Int.le_refl _
    · have := h2 k (by omega); omega
theorem getD_range {n a : Nat} (h : a < n) : (List.range n).getD a 0 = a := by
  rw [List.getD_eq_getElem?_getD, List.getElem?_eq_getElem (by rw [List.length_range]; exact h), List.getElem_range]
  rfl
def pivP (rows : List (List Int)) (i : Nat) : Int := ent (hermF rows) i ((fwdF rows).js.getD i 0)
theorem TF.indep {N m : Nat} {h : Nat → Nat → Int} {p : Nat → Nat} (hT : TF N h m p) {c : Nat → Int} (hz : ∀ j, j < N → psumF (fun i => c i * h i j) m = 0) : ∀ k, k < m → c k = 0 := by
  intro k
  induction k using Nat.strongRecOn with
  | ind k ih =>
    intro hk
    have h1 := hz (p k) (hT.plt k hk)
    rw [hT.lead hk fun i hi => ih i hi (by omega)] at h1
    have := hT.pos k hk
    rcases Int.mul_eq_zero.1 h1 with h | h
    · exact h
    · omega
def colT (K : List (List Int)) (j l : Nat) : Int := ent K l j
theorem unit_mul {a b : Int} {i t : Nat} : unitV (a * b) i t = b * unitV a i t := by
  unfold unitV
  split
  · exact Int.mul_comm _ _
  · exact (Int.mul_zero _).symm
theorem col_units {K : List (List Int)} {m : Nat} {p : Nat → Nat} (hf : HF 6 (ent K) m p) : ∀ j, j ≤ m → ∀ i, i < j → Sp m (rowsP (colT K) 6) (unitV (pprodF (fun t => ent K t (p t)) j) i)
  | 0, _, i, h => absurd h (Nat.not_lt_zero _)
  | j + 1, hj, i, hi => by
    have ih := col_units hf j (by omega)
    by_cases h : i = j
    · subst h
      have hs : Sp m (rowsP (colT K) 6) fun l => psumF (fun t => ent K t (p i) * unitV (pprodF (fun t => ent K t (p t)) i) t l) i := Sp.sum (f := fun t => unitV (pprodF (fun t => ent K t (p t)) i) t) (c := fun t => ent K t (p i)) (m := i) (fun t ht => ih t ht) fun _ _ => rfl
      refine Sp.sub ((Sp.row (e := colT K) (hf.plt i (by omega))).smul (pprodF (fun t => ent K t (p t)) i) (u := fun l => pprodF (fun t => ent K t (p t)) i * colT K (p i) l) fun _ _ => rfl) hs fun l hl => ?_
      show unitV (pprodF (fun t => ent K t (p t)) i * ent K i (p i)) i l = pprodF (fun t => ent K t (p t)) i * ent K l (p i) - _
      generalize pprodF (fun t => ent K t (p t)) i = P
      by_cases h1 : l < i
      · rw [psumF_one (k := l) h1 fun t ht hne => by
          show ent K t (p i) * unitV P t l = 0
          unfold unitV
          rw [if_neg (Ne.symm hne), Int.mul_zero]]
        unfold unitV
        rw [if_neg (by omega), if_pos rfl, Int.mul_comm]
        omega
      · have e0 : psumF (fun t => ent K t (p i) * unitV P t l) i = 0 := by
          rw [← psumF_zero i]
          exact psumF_congr fun t ht => by
            unfold unitV
            rw [if_neg (by omega), Int.mul_zero]
        rw [e0]
        unfold unitV
        by_cases h2 : l = i
        · rw [if_pos h2, h2]; omega
        · rw [if_neg h2, hf.zero l hl _ (hf.up i l (by omega) hl), Int.mul_zero]
          rfl
    · exact (ih i (by omega)).smul (ent K j (p j)) fun t _ => unit_mul
theorem tri_units {e : Nat → Nat → Int} {m : Nat} (hT : Tri e m) (h1 : ∀ i, i < m → e i i = 1) : ∀ s, s ≤ m → ∀ i, m - s ≤ i → i < m → Sp m (rowsP e m) (unitV 1 i)
  | 0, _, i, h, h' => by omega
  | s + 1, hs, i, h, hi => by
    have ih := tri_units hT h1 s (by omega)
    by_cases hlt : m - s ≤ i
    · exact ih i hlt hi
    · have hsum : Sp m (rowsP e m) fun l => psumF (fun k => e i k * (if i < k then unitV 1 k else fun _ => 0) l) m := Sp.sum (f := fun k => if i < k then unitV 1 k else fun _ => 0) (c := fun k => e i k) (m := m) (fun k hk => by
        show Sp m _ (if i < k then unitV 1 k else fun _ => 0)
        split
        · exact ih k (by omega) hk
        · exact .zero fun _ _ => rfl) fun _ _ => rfl
      refine Sp.sub (Sp.row hi) hsum fun l hl => ?_
      rw [psumF_one (k := l) hl fun t ht hne => by
        show e i t * (if i < t then unitV 1 t else fun _ => 0) l = 0
        split
        · unfold unitV; rw [if_neg (Ne.symm hne), Int.mul_zero]
        · rw [Int.mul_zero]]
      show unitV 1 i l = e i l - e i l * (if i < l then unitV 1 l else fun _ => 0) l
      by_cases hil : i < l
      · rw [if_pos hil]
        unfold unitV
        rw [if_neg (by omega), if_pos rfl]
        omega
      · rw [if_neg hil, Int.mul_zero]
        unfold unitV
        by_cases hle : l = i
        · rw [if_pos hle, hle, h1 i hi]; rfl
        · rw [if_neg hle, hT.zero i hi l (by show l < i; omega)]; rfl
theorem dual_vec {e : Nat → Nat → Int} {m j : Nat} (hT : Tri e m) (hj : j < m) (h1 : ∀ i, i < j → e i i = 1) : ∀ s, s ≤ j → ∃ u : Nat → Int, u j = 1 ∧ (∀ k, j < k → u k = 0) ∧ (∀ k, k < j - s → u k = 0) ∧ ∀ i, j - s ≤ i → i < j → psumF (fun k => u k * e i k) m = 0
  | 0, _ => ⟨fun k => if k = j then 1 else 0, if_pos rfl, fun k hk => if_neg (by omega), fun k hk => if_neg (by omega), fun i a b => by omega⟩
  | s + 1, hs => by
    obtain ⟨u, u1, u2, u3, u4⟩ := dual_vec hT hj h1 s (by omega)
    have key : ∀ (x : Int) i, psumF (fun k => (u k + if k = j - (s + 1) then x else 0) * e i k) m = psumF (fun k => u k * e i k) m + x * e i (j - (s + 1)) := fun x i => by
      have a1 : psumF (fun k => (if k = j - (s + 1) then x else 0) * e i k) m = x * e i (j - (s + 1)) := by
        rw [psumF_one (k := j - (s + 1)) (by omega) fun t _ hne => by
          show (if t = j - (s + 1) then x else 0) * e i t = 0
          rw [if_neg hne, Int.zero_mul]]
        show (if j - (s + 1) = j - (s + 1) then x else 0) * e i (j - (s + 1)) = _
        rw [if_pos rfl]
      rw [← a1, ← psumF_add]
      exact psumF_congr fun k _ => Int.add_mul _ _ _
    refine ⟨fun k => u k + if k = j - (s + 1) then -psumF (fun k => u k * e (j - (s + 1)) k) m else 0, ?_, fun k hk => ?_, fun k hk => ?_, fun i a b => ?_⟩
    · show u j + (if j = j - (s + 1) then _ else 0) = 1
      rw [if_neg (by omega), u1]; rfl
    · show u k + (if k = j - (s + 1) then _ else 0) = 0
      rw [if_neg (by omega), u2 k hk]; rfl
    · show u k + (if k = j - (s + 1) then _ else 0) = 0
      rw [if_neg (by omega), u3 k (by omega)]; rfl
    · rw [key]
      by_cases hi : i = j - (s + 1)
      · rw [hi, h1 _ (by omega)]; omega
      · rw [u4 i (by omega) b, hT.zero i (by omega) _ (show j - (s + 1) < i by omega), Int.mul_zero]
        rfl
theorem ker_onto {rows K : List (List Int)} {p : List Nat} (hK : KerL rows K p) : ∀ i, i < K.length → Sp K.length (rowsP (colT K) 6) (unitV 1 i) := by
  have hf := hK.hf
  rw [← hK.len] at hf
  have hpos := (pprod_mono (f := fun t => ent K t (p.getD t 0)) K.length (fun k hk => by have := hf.pos k hk; omega) K.length (Nat.le_refl _)).1
  have hU := col_units hf K.length (Nat.le_refl _)
  generalize hd : pprodF (fun t => ent K t (p.getD t 0)) K.length = d at *
  have hd0 : 0 < d := by omega
  have hLL : ∀ k, ∃ R, LL K.length d (fun j l => ent K l j % d) k R := fun k => by
    induction k with
    | zero => exact ⟨_, LL.mult hd0⟩
    | succ k ih =>
      obtain ⟨R, hR⟩ := ih
      have hg : ∀ l, l < K.length → ((List.range K.length).map fun l => ent K l k % d).getD l 0 = ent K l k % d := fun l hl => by simp [List.getD_eq_getElem?_getD, hl]
      exact ⟨_, hR.ins hd0 (v := (List.range K.length).map fun l => ent K l k % d) ⟨by simp, fun j hj => by
        rw [hg j hj]
        have := Int.emod_nonneg (ent K j k) (show d ≠ 0 by omega)
        have := Int.emod_lt_of_pos (ent K j k) hd0
        omega⟩ fun j hj => hg j hj⟩
  obtain ⟨R, hR⟩ := hLL 6
  have hmod : ∀ c l, ∃ y, colT K c l - ent K l c % d = d * y := fun c l => ⟨ent K l c / d, by
    have := Int.mul_ediv_add_emod (ent K l c) d
    show ent K l c - ent K l c % d = _
    omega⟩
  have f1 : ∀ c, c < 6 → Sp K.length (rowsP (ent R) K.length) (colT K c) := fun c hc => (hR.sp _).2 (.add (.gen (.inr ⟨c, hc, rfl⟩)) (Sp.mults (z := fun l => colT K c l - ent K l c % d) (fun j hj => .gen (.inl ⟨j, hj, rfl⟩)) fun j hj => hmod c j) fun l _ => by
    show colT K c l = ent K l c % d + (colT K c l - ent K l c % d)
    omega)
  have f2 : ∀ g, Sp K.length (rowsP (ent R) K.length) g → Sp K.length (rowsP (colT K) 6) g := fun g hg => ((hR.sp _).1 hg).mono fun g hg => by
    rcases hg with ⟨j, hj, rfl⟩ | ⟨k, hk, rfl⟩
    · exact hU j hj
    · exact Sp.sub (Sp.row hk) (Sp.mults (z := fun l => colT K k l - ent K l k % d) (fun j hj => hU j hj) fun j _ => hmod k j) fun l _ => by
        show ent K l k % d = colT K k l - (colT K k l - ent K l k % d)
        omega
  have hT := hR.tri
  have hone : ∀ i, i < K.length → ent R i i = 1 := by
    apply Decidable.byContradiction
    intro hn
    obtain ⟨i0, hi0⟩ := Classical.not_forall.1 hn
    obtain ⟨j, ⟨hj, hjne⟩, hmin⟩ := least (P := fun i => i < K.length ∧ ent R i i ≠ 1) (a := i0) (Classical.not_imp.1 hi0)
    have hb : ∀ i, i < j → ent R i i = 1 := fun i hi => Decidable.byContradiction fun h => hmin i hi ⟨by omega, h⟩
    obtain ⟨u, u1, u2, _, u4⟩ := dual_vec hT hj hb j (Nat.le_refl _)
    have htp : 0 < ent R j j := hT.pos j hj
    have hrow : ∀ i, i < K.length → ent R j j ∣ psumF (fun l => u l * ent R i l) K.length := fun i hi => by
      by_cases h1 : i < j
      · rw [u4 i (by omega) h1]; exact Int.dvd_zero _
      · refine psum_dvd fun l hl => ?_
        by_cases h2 : j < l
        · rw [u2 l h2, Int.zero_mul]; exact Int.dvd_zero _
        · by_cases h3 : l < i
          · rw [hT.zero i hi l h3, Int.mul_zero]; exact Int.dvd_zero _
          · have e1 : i = j := by omega
            have e2 : l = j := by omega
            rw [e1, e2]
            exact Int.dvd_mul_of_dvd_right (Int.dvd_refl _)
    have hcol : ∀ c, c < 6 → ent R j j ∣ psumF (fun l => u l * ent K l c) K.length := fun c hc => by
      obtain ⟨a, ha⟩ := (f1 c hc).coef
      have e1 : psumF (fun l => u l * ent K l c) K.length = psumF (fun i => a i * psumF (fun l => u l * ent R i l) K.length) K.length := by
        have e2 : psumF (fun l => u l * ent K l c) K.length = psumF (fun l => psumF (fun i => u l * (a i * ent R i l)) K.length) K.length := psumF_congr fun l hl => by
          rw [psumF_mul]
          congr 1
          exact ha l hl
        rw [e2, psumF_comm]
        refine psumF_congr fun i _ => ?_
        rw [← psumF_mul]
        exact psumF_congr fun l _ => by grind
      rw [e1]
      exact psum_dvd fun i hi => Int.dvd_mul_of_dvd_right (hrow i hi)
    have hy : KerP (ent rows) rows.length fun c => psumF (fun l => u l * ent K l c) K.length := (hK.sp _).1 (Sp.of_coef (c := u) fun _ _ => rfl)
    have hyt : KerP (ent rows) rows.length fun c => psumF (fun l => u l * ent K l c) K.length / ent R j j := fun i hi => by
      have h1 := hy i hi
      have h2 : psumF (fun c => ent rows i c * psumF (fun l => u l * ent K l c) K.length) 6 = ent R j j * psumF (fun c => ent rows i c * (psumF (fun l => u l * ent K l c) K.length / ent R j j)) 6 := by
        rw [← psumF_mul]
        refine psumF_congr fun c hc => ?_
        have h3 := Int.mul_ediv_cancel' (hcol c hc)
        rw [Int.mul_left_comm, h3]
      have h3 : ent R j j * psumF (fun c => ent rows i c * (psumF (fun l => u l * ent K l c) K.length / ent R j j)) 6 = 0 := h2.symm.trans h1
      rcases Int.mul_eq_zero.1 h3 with h | h
      · omega
      · exact h
    obtain ⟨c', hc'⟩ := ((hK.sp _).2 hyt).coef
    have hz := hf.toTF.indep (c := fun l => u l - ent R j j * c' l) (fun c hc => by
      have h1 := hc' c hc
      have h3 := Int.mul_ediv_cancel' (hcol c hc)
      rw [h1, ← psumF_mul] at h3
      have h4 : psumF (fun i => (u i - ent R j j * c' i) * ent K i c) K.length = psumF (fun l => u l * ent K l c) K.length - psumF (fun i => ent R j j * (c' i * ent K i c)) K.length := by
        rw [Int.sub_eq_add_neg, ← psumF_neg, ← psumF_add]
        exact psumF_congr fun l _ => by grind
      rw [h4, h3]
      omega) j hj
    have hz' : u j - ent R j j * c' j = 0 := hz
    rw [u1] at hz'
    have hdv : ent R j j ∣ 1 := ⟨c' j, by omega⟩
    have := Int.le_of_dvd (by decide) hdv
    omega
  exact fun i hi => f2 _ (tri_units hT hone K.length (Nat.le_refl _) i (by omega) hi)
theorem ker_prim {rows K : List (List Int)} {p : List Nat} (hK : KerL rows K p) (hk : K.length ≤ 6) : divRK K K.length = 1 := by
  have h1 := divRK_dvd.1 (Nat.dvd_refl (divRK K K.length))
  have h2 : DvM (colT K) 6 K.length (divRK K K.length : Nat) := fun is js a b c d => by
    have e1 : minorF (colT K) is js = minorF (ent K) js is := minor_tr (colT K) js is (by omega)
    rw [e1]
    by_cases hx : ∀ x ∈ js, x < K.length
    · exact h1 js is b a hx c
    · obtain ⟨x, hx⟩ := Classical.not_forall.1 hx
      obtain ⟨hx1, hx2⟩ := Classical.not_imp.1 hx
      rw [minor_row0 hx1 fun j _ => ?_]
      · exact Int.dvd_zero _
      · unfold ent rw_
        simp [List.getD_eq_getElem?_getD, List.getElem?_eq_none (Nat.le_of_not_lt hx2)]
  have h3 : DvM (fun i l => unitV 1 i l) K.length K.length (divRK K K.length : Nat) := h2.comb fun b hb => by
    obtain ⟨c, hc⟩ := (ker_onto hK b hb).coef
    refine Sp.of_coef (c := c) fun l hl => ?_
    by_cases hlk : l < K.length
    · exact hc l hlk
    · have e1 : psumF (fun i => c i * colT K i l) 6 = 0 := by
        rw [← psumF_zero 6]
        refine psumF_congr fun i _ => ?_
        have : colT K i l = 0 := by
          unfold colT ent rw_
          simp [List.getD_eq_getElem?_getD, List.getElem?_eq_none (Nat.le_of_not_lt hlk)]
        rw [this, Int.mul_zero]
      rw [e1]
      exact if_neg (by omega)
  have h4 := h3 (List.range K.length) (List.range K.length) (by simp) (by simp) (fun i hi => List.mem_range.1 hi) fun j hj => by have := List.mem_range.1 hj; omega
  rw [minor_tri rfl fun a b hba ha => by
    rw [List.length_range] at ha
    rw [getD_range ha, getD_range (by omega)]
    exact if_neg (by omega), List.length_range, pprod_congr (g := fun _ => 1) fun k hk => by
    show unitV 1 ((List.range K.length).getD k 0) ((List.range K.length).getD k 0) = 1
    exact if_pos rfl] at h4
  have e1 : ∀ n, pprodF (fun _ => 1) n = 1 := fun n => by
    induction n with
    | zero => rfl
    | succ n ih => show pprodF _ n * 1 = 1; rw [ih]; rfl
  rw [e1] at h4
  exact Nat.dvd_one.1 (by exact_mod_cast h4)
theorem psum_at {f : Nat → Int} {M : Nat} {cs : List Nat} (hn : cs.Nodup) (hc : ∀ x ∈ cs, x < M) (h0 : ∀ l, l < M → l ∉ cs → f l = 0) : psumF f M = psumF (fun p => f (cs.getD p 0)) cs.length := by
  rw [← lsum_psum f cs, psumF_range]
  have hp : (List.range M).Perm (cs ++ (List.range M).filter fun l => !decide (l ∈ cs)) := (List.perm_ext_iff_of_nodup List.nodup_range (List.nodup_append.2 ⟨hn, List.nodup_range.sublist List.filter_sublist, fun a ha b hb => by
    have := (List.mem_filter.1 hb).2
    intro e
    subst e
    simp [ha] at this⟩)).2 fun x => by
    rw [List.mem_append, List.mem_filter, List.mem_range]
    constructor
    · intro hx
      by_cases h : x ∈ cs
      · exact .inl h
      · exact .inr ⟨hx, by simp [h]⟩
    · rintro (h | h)
      · exact hc x h
      · exact h.1
  rw [lsum_perm hp, lsum_app]
  have hz : ∀ l : List Nat, (∀ x ∈ l, f x = 0) → lsum f l = 0 := by
    intro l
    induction l with
    | nil => exact fun _ => rfl
    | cons x l ih =>
      intro h
      show f x + lsum f l = 0
      rw [h x (by simp), ih fun y hy => h y (by simp [hy])]
      rfl
  rw [hz _ fun x hx => h0 x (List.mem_range.1 (List.mem_filter.1 hx).1) (by have := (List.mem_filter.1 hx).2; simpa using this)]
  omega
theorem minor_comp {e V : Nat → Nat → Int} {us : List Nat} {M : Nat} {a : Nat → Nat} {D : Int} : ∀ {bs cs pre : List Nat}, bs.length = cs.length → cs.Nodup → (∀ x ∈ cs, x < M) → (∀ l, l < M → l ∉ cs → a l ∈ pre) → (∀ b ∈ bs, ∀ j ∈ us, D * e b j = psumF (fun l => V b l * e (a l) j) M) →
    D ^ bs.length * minorF e (pre ++ bs) us = minorF V bs cs * minorF e (pre ++ cs.map a) us
  | [], [], pre, _, _, _, _, _ => by simp [minorF]
  | [], _ :: _, _, h, _, _, _, _ => by simp at h
  | b :: bs, cs, pre, hl, hn, hc, hp, he => by
    have h1 := minor_lin (e := e) (D := D) (b := b) (m := M) (c := V b) (a := a) (post := bs) (pre := pre) (us := us) fun j hj => he b (by simp) j hj
    have h2 : psumF (fun l => V b l * minorF e (pre ++ a l :: bs) us) M = psumF (fun p => V b (cs.getD p 0) * minorF e (pre ++ a (cs.getD p 0) :: bs) us) cs.length := psum_at hn hc fun l hl hlc => by
      have hm := hp l hl hlc
      obtain ⟨s, t, rfl⟩ := List.append_of_mem hm
      rw [List.append_assoc, List.cons_append, minor_rep, Int.mul_zero]
    rw [List.length_cons, Int.pow_succ, Int.mul_assoc, h1, h2, minor_cons, ← psumF_mul, Int.mul_comm (psumF _ _), ← psumF_mul]
    refine psumF_congr fun p hpl => ?_
    have hl' : bs.length = (cs.eraseIdx p).length := by rw [List.length_eraseIdx, if_pos hpl]; simp at hl; omega
    have ih := minor_comp (e := e) (V := V) (us := us) (M := M) (a := a) (D := D) (bs := bs) (cs := cs.eraseIdx p) (pre := pre ++ [a (cs.getD p 0)]) hl' (hn.sublist (List.eraseIdx_sublist _ _)) (fun x hx => hc x (List.mem_of_mem_eraseIdx hx)) (fun l hl hlc => by
      by_cases h : l ∈ cs
      · have : l = cs.getD p 0 := by
          apply Decidable.byContradiction
          intro hne
          apply hlc
          rw [List.eraseIdx_eq_take_drop_succ]
          obtain ⟨q, hq, rfl⟩ := List.getElem_of_mem h
          rw [List.getD_eq_getElem?_getD, List.getElem?_eq_getElem hpl] at hne
          have hqp : q ≠ p := fun e => hne (by subst e; rfl)
          rw [List.mem_append]
          by_cases hlt : q < p
          · left
            rw [List.mem_take_iff_getElem]
            exact ⟨q, by omega, rfl⟩
          · right
            rw [List.mem_drop_iff_getElem]
            exact ⟨q - (p + 1), by omega, by congr 1; omega⟩
        rw [this]
        simp
      · have := hp l hl h
        simp [this]) fun b' hb' => he b' (by simp [hb'])
    rw [List.append_assoc] at ih
    have hmv := minor_move e (a (cs.getD p 0)) us ((cs.take p).map a) pre ((cs.drop (p + 1)).map a)
    have e3 : (cs.take p).map a ++ (cs.drop (p + 1)).map a = (cs.eraseIdx p).map a := by rw [← List.map_append, List.eraseIdx_eq_take_drop_succ]
    have e4 : (cs.take p).map a ++ a (cs.getD p 0) :: (cs.drop (p + 1)).map a = cs.map a := by
      rw [← List.map_cons, ← List.map_append]
      congr 1
      have h5 := set_split hpl (cs.getD p 0)
      rw [set_self hpl] at h5
      exact h5.symm
    have e5 : ((cs.take p).map a).length = p := by simp; omega
    rw [e3, e4, e5] at hmv
    have e6 : pre ++ ([a (cs.getD p 0)] ++ bs) = pre ++ a (cs.getD p 0) :: bs := rfl
    have e7 : pre ++ [a (cs.getD p 0)] ++ (cs.eraseIdx p).map a = pre ++ a (cs.getD p 0) :: (cs.eraseIdx p).map a := by simp
    rw [e6, e7, hmv] at ih
    generalize minorF e (pre ++ a (cs.getD p 0) :: bs) us = X at *
    generalize minorF e (pre ++ cs.map a) us = Z at *
    generalize minorF V bs (cs.eraseIdx p) = W at *
    generalize V b (cs.getD p 0) = v at *
    generalize D ^ bs.length = Dn at *
    generalize sg p = s at *
    grind
theorem minor_units {e : Nat → Nat → Int} {is js : List Nat} {J : List Nat} {β : Nat → Nat} (hl : is.length = js.length) (hd : (js ++ J).Nodup) (hu : ∀ t, t < J.length → ∀ j, e (β t) j = if j = J.getD t 0 then 1 else 0) : ∀ k, k ≤ J.length → minorF e (is ++ (List.range k).map β) (js ++ J.take k) = minorF e is js
  | 0, _ => by simp
  | k + 1, hk => by
    have ih := minor_units hl hd hu k (by omega)
    have e1 : is ++ (List.range (k + 1)).map β = (is ++ (List.range k).map β) ++ [β k] := by rw [List.range_succ]; simp
    have e2 : js ++ J.take (k + 1) = (js ++ J.take k) ++ [J.getD k 0] := by
      rw [List.take_add_one, List.getD_eq_getElem?_getD, List.getElem?_eq_getElem (show k < J.length by omega)]
      simp
    rw [e1, e2, border (by simp; omega), ih, hu k (by omega), if_pos rfl, Int.mul_one]
    have e3 : psumF (fun p => minorF e (is ++ (List.range k).map β) ((js ++ J.take k).set p (J.getD k 0)) * e (β k) ((js ++ J.take k).getD p 0)) (js ++ J.take k).length = 0 := by
      rw [← psumF_zero (js ++ J.take k).length]
      refine psumF_congr fun p hp => ?_
      rw [hu k (by omega), if_neg fun h => ?_, Int.mul_zero]
      have hm := getD_mem hp
      rw [h] at hm
      have hn : (js ++ J.take (k + 1)).Nodup := hd.sublist (List.Sublist.append_left (List.take_sublist _ _) js)
      rw [e2, List.nodup_append] at hn
      exact hn.2.2 _ hm _ (by simp) rfl
    rw [e3]
    omega
theorem psum_split (f : Nat → Int) (m : Nat) : ∀ n, psumF f (m + n) = psumF f m + psumF (fun t => f (m + t)) n
  | 0 => by simp [psumF]
  | n + 1 => by
    show psumF f (m + n) + f (m + n) = psumF f m + (psumF (fun t => f (m + t)) n + f (m + n))
    rw [psum_split f m n, Int.add_assoc]
theorem minor_scale {e : Nat → Nat → Int} {D : Int} : ∀ {is us : List Nat}, minorF (fun i j => D * e i j) is us = D ^ is.length * minorF e is us
  | [], us => by simp [minorF]
  | i :: is, us => by
    rw [minor_cons, minor_cons, ← psumF_mul]
    refine psumF_congr fun p _ => ?_
    rw [minor_scale, List.length_cons, Int.pow_succ]
    generalize D ^ is.length = Dn
    generalize minorF e is (us.eraseIdx p) = M
    grind
theorem minor_cmap {e : Nat → Nat → Int} {σ : Nat → Nat} {is us : List Nat} (hl : is.length = us.length) : minorF (fun i j => e i (σ j)) is us = minorF e is (us.map σ) := by
  rw [minor_tr _ us is hl, minor_map (e := fun j i => e i j), ← minor_tr e _ is (by simpa using hl)]
theorem range_getD {l : List Nat} {m : Nat} (h : l.length = m) : (List.range m).map (fun t => l.getD t 0) = l := by
  apply List.ext_getElem (by simpa using h.symm)
  intro i h1 h2
  simp [List.getD_eq_getElem?_getD, h2]
def eK (rows : List (List Int)) (C : Nat → Nat → Int) (id j : Nat) : Int := if id < rows.length then ent rows id j else if id < rows.length + 6 then (if j = id - rows.length then 1 else 0) else C (id - (rows.length + 6)) j
def aK (rows : List (List Int)) (is : List Nat) (m l : Nat) : Nat := if l < m then rows.length + 6 + l else is.getD (l - m) 0
def yK (K : List (List Int)) (C : Nat → Nat → Int) (j0 j : Nat) : Int := (if j = j0 then 1 else 0) - psumF (fun i => ent K i j0 * C i j) K.length
theorem yK_ker {K : List (List Int)} {C : Nat → Nat → Int} (hC : ∀ i, i < K.length → ∀ l, l < K.length → psumF (fun j => C i j * ent K l j) 6 = unitV 1 i l) {j0 : Nat} (hj0 : j0 < 6) : KerP (ent K) K.length (yK K C j0) := fun l hl => by
  have e1 : psumF (fun j => ent K l j * yK K C j0 j) 6 = psumF (fun j => ent K l j * (if j = j0 then 1 else 0)) 6 - psumF (fun j => psumF (fun i => ent K l j * (ent K i j0 * C i j)) K.length) 6 := by
    rw [Int.sub_eq_add_neg, ← psumF_neg, ← psumF_add]
    refine psumF_congr fun j _ => ?_
    rw [psumF_mul]
    unfold yK
    rw [Int.mul_sub]
    rfl
  have e2 : psumF (fun j => ent K l j * (if j = j0 then 1 else 0)) 6 = ent K l j0 := by
    rw [psumF_one (k := j0) hj0 fun t _ hne => by
      show ent K l t * (if t = j0 then 1 else 0) = 0
      rw [if_neg hne, Int.mul_zero]]
    show ent K l j0 * (if j0 = j0 then 1 else 0) = _
    rw [if_pos rfl, Int.mul_one]
  have e3 : psumF (fun j => psumF (fun i => ent K l j * (ent K i j0 * C i j)) K.length) 6 = ent K l j0 := by
    rw [psumF_comm]
    have a1 : psumF (fun i => psumF (fun j => ent K l j * (ent K i j0 * C i j)) 6) K.length = psumF (fun i => ent K i j0 * unitV 1 i l) K.length := psumF_congr fun i hi => by
      rw [← hC i hi l hl, ← psumF_mul]
      exact psumF_congr fun j _ => by grind
    rw [a1, psumF_one (k := l) hl fun t _ hne => by
      show ent K t j0 * unitV 1 t l = 0
      unfold unitV
      rw [if_neg (Ne.symm hne), Int.mul_zero]]
    show ent K l j0 * unitV 1 l l = _
    unfold unitV
    rw [if_pos rfl, Int.mul_one]
  rw [e1, e2, e3]
  omega
theorem ker_comp {rows K : List (List Int)} {p : List Nat} (hv : VM rows) (h6 : Six rows) (hK : KerL rows K p) {S : Fr} (hB : FrB rows S) (hS : S.js.length = rankF rows) {C : Nat → Nat → Int} (hC : ∀ i, i < K.length → ∀ l, l < K.length → psumF (fun j => C i j * ent K l j) 6 = unitV 1 i l)
    {Jc J : List Nat} (hJ : J.length = K.length) (hJc : Jc.length = S.is.length) (hn : (Jc ++ J).Nodup) (hx : ∀ x ∈ Jc ++ J, x < 6) :
    minorF (ent rows) S.is Jc = minorF (ent K) (List.range K.length) J * minorF (eK rows C) (S.is ++ (List.range K.length).map (aK rows S.is K.length)) (Jc ++ J) := by
  have hlen := hB.len
  have hJ6 : ∀ t, t < K.length → J.getD t 0 < 6 := fun t ht => hx _ (List.mem_append_right _ (getD_mem (by omega)))
  have eI : ∀ id j, id < rows.length → eK rows C id j = ent rows id j := fun id j h => if_pos h
  have eU : ∀ j0 j, j0 < 6 → eK rows C (rows.length + j0) j = if j = j0 then 1 else 0 := fun j0 j h => by
    unfold eK
    rw [if_neg (by omega), if_pos (by omega), Nat.add_sub_cancel_left]
  have eC : ∀ i j, eK rows C (rows.length + 6 + i) j = C i j := fun i j => by
    unfold eK
    rw [if_neg (by omega), if_neg (by omega), Nat.add_sub_cancel_left]
  let cf : Nat → Nat → Int := fun j0 t => psumF (fun k => yK K C j0 (S.js.getD k 0) * cof (ent rows) S.is S.js k t) S.js.length
  let V : Nat → Nat → Int := fun b l => if l < K.length then S.d * ent K l (b - rows.length) else cf (b - rows.length) (l - K.length)
  have hrel : ∀ j0, j0 < 6 → ∀ j, j < 6 → S.d * eK rows C (rows.length + j0) j = psumF (fun l => V (rows.length + j0) l * eK rows C (aK rows S.is K.length l) j) (K.length + S.is.length) := fun j0 hj0 j hj => by
    rw [psum_split, eU j0 j hj0]
    have e1 : psumF (fun l => V (rows.length + j0) l * eK rows C (aK rows S.is K.length l) j) K.length = S.d * psumF (fun i => ent K i j0 * C i j) K.length := by
      rw [← psumF_mul]
      refine psumF_congr fun l hl => ?_
      show (if l < K.length then S.d * ent K l (rows.length + j0 - rows.length) else _) * eK rows C (if l < K.length then rows.length + 6 + l else _) j = _
      rw [if_pos hl, if_pos hl, eC, Nat.add_sub_cancel_left, Int.mul_assoc]
    have e2 : psumF (fun t => V (rows.length + j0) (K.length + t) * eK rows C (aK rows S.is K.length (K.length + t)) j) S.is.length = S.d * yK K C j0 j := by
      have a1 := minor_mul_eq hv h6 hK (yK_ker hC hj0) hlen hB.i hB.j.2 hS j hj
      rw [← hB.d] at a1
      rw [a1]
      have a2 : psumF (fun k => yK K C j0 (S.js.getD k 0) * minorF (ent rows) S.is (S.js.set k j)) S.js.length = psumF (fun k => psumF (fun t => yK K C j0 (S.js.getD k 0) * (cof (ent rows) S.is S.js k t * ent rows (S.is.getD t 0) j)) S.is.length) S.js.length := psumF_congr fun k hk => by
        rw [rep_lin hlen hk j, psumF_mul]
      rw [a2, psumF_comm]
      refine psumF_congr fun t ht => ?_
      show (if K.length + t < K.length then _ else cf (rows.length + j0 - rows.length) (K.length + t - K.length)) * eK rows C (if K.length + t < K.length then _ else S.is.getD (K.length + t - K.length) 0) j = _
      rw [if_neg (by omega), if_neg (by omega), Nat.add_sub_cancel_left, Nat.add_sub_cancel_left, eI _ _ (hB.i _ (getD_mem ht))]
      show psumF (fun k => yK K C j0 (S.js.getD k 0) * cof (ent rows) S.is S.js k t) S.js.length * _ = _
      rw [Int.mul_comm, ← psumF_mul]
      exact psumF_congr fun k _ => by grind
    rw [e1, e2]
    unfold yK
    grind
  have h1 := minor_comp (e := eK rows C) (V := V) (us := Jc ++ J) (M := K.length + S.is.length) (a := aK rows S.is K.length) (D := S.d) (bs := (List.range K.length).map fun t => rows.length + J.getD t 0) (cs := List.range K.length) (pre := S.is) (by simp) List.nodup_range (fun x hx => by have := List.mem_range.1 hx; omega) (fun l hl hlc => by
    have hge : ¬ l < K.length := fun h => hlc (List.mem_range.2 h)
    unfold aK
    rw [if_neg hge]
    exact getD_mem (by omega)) (fun b hb j hj => by
    obtain ⟨t, ht, rfl⟩ := List.mem_map.1 hb
    exact hrel _ (hJ6 t (List.mem_range.1 ht)) j (hx j hj))
  have h2 := minor_units (e := eK rows C) (is := S.is) (js := Jc) (J := J) (β := fun t => rows.length + J.getD t 0) hJc.symm hn (fun t ht j => eU _ j (hJ6 t (by omega))) K.length (by omega)
  rw [List.take_of_length_le (by omega)] at h2
  have h3 : minorF (eK rows C) S.is Jc = minorF (ent rows) S.is Jc := minor_eqs fun i hi j _ => eI i j (hB.i i hi)
  have h4 : minorF V ((List.range K.length).map fun t => rows.length + J.getD t 0) (List.range K.length) = S.d ^ K.length * minorF (ent K) (List.range K.length) J := by
    rw [← minor_map (e := V)]
    have a1 : minorF (fun t => V (rows.length + J.getD t 0)) (List.range K.length) (List.range K.length) = minorF (fun t l => S.d * ent K l (J.getD t 0)) (List.range K.length) (List.range K.length) := minor_eqs fun t _ l hl => by
      show (if l < K.length then S.d * ent K l (rows.length + J.getD t 0 - rows.length) else _) = _
      rw [if_pos (List.mem_range.1 hl), Nat.add_sub_cancel_left]
    rw [a1, minor_scale (e := fun t l => ent K l (J.getD t 0)), List.length_range, minor_tr (fun t l => ent K l (J.getD t 0)) _ _ rfl, minor_cmap (e := ent K) (σ := fun t => J.getD t 0) rfl, range_getD hJ]
  rw [List.length_map, List.length_range, h2, h3, h4, Int.mul_assoc] at h1
  exact Int.eq_of_mul_eq_mul_left (Int.pow_ne_zero hB.ne) h1
theorem ker_minor {rows : List (List Int)} (hv : VM rows) (h6 : Six rows) {is J : List Nat} (hi : Inc (kerF rows).length 0 is) (hil : is.length = (kerF rows).length) (hJ : Inc 6 0 J) (hJl : J.length = is.length) : -1000000000 ≤ minorF (ent (kerF rows)) is J ∧ minorF (ent (kerF rows)) is J ≤ 1000000000 := by
  have hK := ker_lat hv h6
  have hB := bwd_B hv h6
  have hF := fwd_B hv h6
  have hS : (bwdF rows).js.length = rankF rows := by
    rw [← frames_same (fwd_crm rows) hF (bwd_crm rows) hB, ← hF.len]
    rfl
  rw [inc_range (k := (kerF rows).length) hi hil]
  have hfree := free_all hB.j
  have hKl := hK.len
  have hlen := hB.len
  obtain ⟨C, hC⟩ := Classical.skolem.1 fun i => show ∃ c : Nat → Int, i < (kerF rows).length → ∀ l, l < (kerF rows).length → psumF (fun j => c j * ent (kerF rows) l j) 6 = unitV 1 i l from by
    by_cases hi : i < (kerF rows).length
    · obtain ⟨c, hc⟩ := (ker_onto hK i hi).coef
      exact ⟨c, fun _ l hl => (hc l hl).symm⟩
    · exact ⟨fun _ => 0, fun h => absurd h hi⟩
  have hnJ : ∀ {us : List Nat}, okJ us → (us ++ freeF us).Nodup ∧ ∀ x ∈ us ++ freeF us, x < 6 := fun {us} hu => by
    refine ⟨List.nodup_append.2 ⟨hu.1, List.Nodup.sublist List.filter_sublist (by decide), fun a ha b hb e => ?_⟩, fun x hx => ?_⟩
    · subst e
      have := (List.mem_filter.1 hb).2
      simp [ha] at this
    · rcases List.mem_append.1 hx with h | h
      · exact hu.2 x h
      · have := (List.mem_filter.1 h).1
        simp at this
        omega
  obtain ⟨n1, n2⟩ := hnJ hB.j
  have c0 := ker_comp hv h6 hK hB hS (C := C) hC (Jc := (bwdF rows).js) (J := freeF (bwdF rows).js) hKl.symm hlen.symm n1 n2
  rw [← hB.d] at c0
  obtain ⟨m1, m2⟩ := hnJ hJ.okJ
  have hfJ := free_all hJ.okJ
  have hsw : (freeF J ++ J).Perm (J ++ freeF J) := List.perm_append_comm
  have c1 := ker_comp hv h6 hK hB hS (C := C) hC (Jc := freeF J) (J := J) (by omega) (by omega) (hsw.symm.nodup m1) (fun x hx => m2 x (hsw.subset hx))
  have hperm : ((bwdF rows).js ++ freeF (bwdF rows).js).Perm (freeF J ++ J) := (List.perm_ext_iff_of_nodup n1 (hsw.symm.nodup m1)).2 fun x => by
    have hall : ∀ {us : List Nat}, x < 6 → x ∈ us ∨ x ∈ freeF us := fun {us} hx => by
      by_cases h : x ∈ us
      · exact .inl h
      · refine .inr (List.mem_filter.2 ⟨?_, by simp [h]⟩)
        simp
        omega
    constructor
    · intro hx
      rcases hall (us := J) (n2 x hx) with h | h
      · exact List.mem_append_right _ h
      · exact List.mem_append_left _ h
    · intro hx
      exact List.mem_append.2 (hall (m2 x (hsw.subset hx)))
  obtain ⟨s, hs⟩ := minor_perm (e := fun j i => eK rows C i j) hperm
  have hs' := hs ((bwdF rows).is ++ (List.range (kerF rows).length).map (aK rows (bwdF rows).is (kerF rows).length))
  rw [← minor_tr (eK rows C) _ _ (by simp; omega), ← minor_tr (eK rows C) _ _ (by simp; omega)] at hs'
  have hJc : okJ (freeF J) := ⟨List.Nodup.sublist List.filter_sublist (by decide), fun x hx => m2 x (List.mem_append_right _ hx)⟩
  have h2 := hJc.toW h6
  have h3 := (minor_bnd (by decide) hB.i h2).1
  have h4 := prodB_vol hv hB.nd hB.i
  have hne : minorF (eK rows C) ((bwdF rows).is ++ (List.range (kerF rows).length).map (aK rows (bwdF rows).is (kerF rows).length)) (freeF J ++ J) ≠ 0 := fun h0 => by
    rw [h0, Int.mul_zero] at hs'
    rw [hs', Int.mul_zero] at c0
    exact hB.ne c0
  have hX : -1000000000 ≤ minorF (ent rows) (bwdF rows).is (freeF J) ∧ minorF (ent rows) (bwdF rows).is (freeF J) ≤ 1000000000 := by omega
  by_cases hz : minorF (ent (kerF rows)) (List.range (kerF rows).length) J = 0
  · rw [hz]; omega
  · have hd : minorF (ent (kerF rows)) (List.range (kerF rows).length) J ∣ minorF (ent rows) (bwdF rows).is (freeF J) := ⟨_, c1⟩
    have hx0 : minorF (ent rows) (bwdF rows).is (freeF J) ≠ 0 := by
      rw [c1]
      exact Int.mul_ne_zero hz hne
    have := nab_le hd hx0
    omega
end Go.Proofs.Ytnilimjkibimcaa

