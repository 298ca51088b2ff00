import Derived.Test.YtnilimjkibimcaaPp
import Derived.Test.YtnilimjkibimcaaPo
set_option linter.unusedSimpArgs false
set_option linter.unusedVariables false

namespace Go.Proofs.Ytnilimjkibimcaa
open Go.Zz
def maskE (e : Nat → Nat → Int) (J : List Nat) (i j : Nat) : Int := if j ∈ J then e i j else 0
theorem mask_minor {e : Nat → Nat → Int} {is J : List Nat} : minorF (maskE e J) is J = minorF e is J := minor_eqs fun i _ j hj => if_pos hj
theorem mask_row {e : Nat → Nat → Int} {J : List Nat} {m : Nat} {v : Nat → Int} (h : RowL e m v) : RowL (maskE e J) m fun j => if j ∈ J then v j else 0 := by
  obtain ⟨c, hc⟩ := h.coef
  refine Sp.sum (f := maskE e J) (c := c) (m := m) (fun t ht => Sp.row ht) fun j hj => ?_
  show (if j ∈ J then v j else 0) = psumF (fun i => c i * maskE e J i j) m
  by_cases h1 : j ∈ J
  · rw [if_pos h1, hc j hj]
    exact psumF_congr fun k _ => by unfold maskE; rw [if_pos h1]
  · rw [if_neg h1, ← psumF_zero m]
    exact psumF_congr fun k _ => by unfold maskE; rw [if_neg h1, Int.mul_zero]
theorem sub_sorted : ∀ {a b : List Nat}, a.Pairwise (· < ·) → b.Pairwise (· < ·) → (∀ x ∈ a, x ∈ b) → a.Sublist b
  | [], b, _, _, _ => List.nil_sublist b
  | x :: a, [], _, _, h => by have := h x (by simp); simp at this
  | x :: a, y :: b, h1, h2, h => by
    rw [List.pairwise_cons] at h1 h2
    by_cases hxy : x = y
    · subst hxy
      refine (sub_sorted h1.2 h2.2 fun z hz => ?_).cons_cons x
      have := h1.1 z hz
      rcases List.mem_cons.1 (h z (by simp [hz])) with rfl | hb
      · omega
      · exact hb
    · have hx : x ∈ b := by
        rcases List.mem_cons.1 (h x (by simp)) with e | hb
        · exact absurd e hxy
        · exact hb
      have hyx := h2.1 x hx
      refine (sub_sorted (List.pairwise_cons.2 h1) h2.2 fun z hz => ?_).cons y
      rcases List.mem_cons.1 (h z hz) with rfl | hb
      · rcases List.mem_cons.1 hz with e | hz
        · omega
        · have := h1.1 z hz; omega
      · exact hb
theorem minor_row0 {e : Nat → Nat → Int} {is us : List Nat} {b : Nat} (hb : b ∈ is) (h : ∀ j ∈ us, e b j = 0) : minorF e is us = 0 := by
  obtain ⟨pre, post, rfl⟩ := List.append_of_mem hb
  have := minor_lin (e := e) (D := 1) (b := b) (m := 0) (c := fun _ => 0) (a := fun l => l) (post := post) (pre := pre) (us := us) fun j hj => by rw [h j hj]; rfl
  rw [Int.one_mul] at this
  exact this
theorem minor_col0 {e : Nat → Nat → Int} {is us : List Nat} {j : Nat} (hl : is.length = us.length) (hj : j ∈ us) (h : ∀ i ∈ is, e i j = 0) : minorF e is us = 0 := by
  rw [minor_tr e us is hl]
  exact minor_row0 hj h
theorem mask_dv {e : Nat → Nat → Int} {m k : Nat} {J : List Nat} {g : Int} (hJ : Inc 6 0 J) (hk : J.length = k) (h : ∀ is, is.length = k → Inc m 0 is → g ∣ minorF e is J) : DvM (maskE e J) m k g := by
  refine DvM.of_inc fun is js h1 h2 h3 h4 => ?_
  by_cases hs : ∀ x ∈ js, x ∈ J
  · have e1 : js = J := (sub_sorted h4.pair hJ.pair hs).eq_of_length (by omega)
    rw [e1, mask_minor]
    exact h is h1 h3
  · obtain ⟨x, hx⟩ := Classical.not_forall.1 hs
    obtain ⟨hx1, hx2⟩ := Classical.not_imp.1 hx
    rw [minor_col0 (by omega) hx1 fun i _ => by unfold maskE; rw [if_neg hx2]]
    exact Int.dvd_zero _
theorem inc_range {m k : Nat} {is : List Nat} (h : Inc m 0 is) (hk : is.length = m) : is = List.range m :=
  (sub_sorted h.pair List.pairwise_lt_range fun x hx => List.mem_range.2 (h.lt x hx).2).eq_of_length (by rw [List.length_range]; exact hk)
theorem nab_le {a b : Int} (h : a ∣ b) (hb : b ≠ 0) : a.natAbs ≤ b.natAbs := Nat.le_of_dvd (by omega) (Int.natAbs_dvd_natAbs.2 h)
theorem minor_le {e e' : Nat → Nat → Int} {k m' : Nat} {J : List Nat} {B : Int} (hB : 0 ≤ B) (hk : J.length = k) (hJ : Inc 6 0 J) (h1 : ∀ b, b < k → RowL e' m' (e b)) (h2 : ∀ b, b < m' → RowL e k (e' b))
    (hb : ∀ is, is.length = k → Inc m' 0 is → -B ≤ minorF e' is J ∧ minorF e' is J ≤ B) : -B ≤ minorF e (List.range k) J ∧ minorF e (List.range k) J ≤ B := by
  have hrow : ∀ {e e' : Nat → Nat → Int} {m b : Nat}, RowL e m (e' b) → RowL (maskE e J) m (maskE e' J b) := fun h => mask_row h
  have hD : DvM (maskE e J) k k (minorF e (List.range k) J) := mask_dv hJ hk fun is a1 a2 => by
    rw [inc_range (k := k) a2 a1]
    exact Int.dvd_refl _
  have hD' : DvM (maskE e' J) m' k (minorF e (List.range k) J) := hD.comb fun b hb => hrow (h2 b hb)
  by_cases hex : ∃ is, is.length = k ∧ Inc m' 0 is ∧ minorF e' is J ≠ 0
  · obtain ⟨is, a1, a2, a3⟩ := hex
    have hd := hD' is J a1 hk (fun i hi => (a2.lt i hi).2) fun j hj => (hJ.lt j hj).2
    rw [mask_minor] at hd
    have := nab_le hd a3
    have hbb := hb is a1 a2
    omega
  · have hZ : DvM (maskE e' J) m' k 0 := mask_dv hJ hk fun is a1 a2 => by
      have : minorF e' is J = 0 := Decidable.byContradiction fun h => hex ⟨is, a1, a2, h⟩
      rw [this]
      exact Int.dvd_refl _
    have hZ' : DvM (maskE e J) k k 0 := hZ.comb fun b hb => hrow (h1 b hb)
    have hd := hZ' (List.range k) J (by simp) hk (fun i hi => List.mem_range.1 hi) fun j hj => (hJ.lt j hj).2
    rw [mask_minor] at hd
    have := Int.zero_dvd.1 hd
    omega
theorem herm_same {rows : List (List Int)} (hv : VM rows) (h6 : Six rows) : SameL (hermF rows) rows := (herm_lat hv h6).sp
theorem herm_minor {rows : List (List Int)} (hv : VM rows) (h6 : Six rows) {is js : List Nat} (hi : Inc (hermF rows).length 0 is) (hil : is.length = (hermF rows).length) (hj : Inc 6 0 js) (hjl : js.length = is.length) :
    -1000000000 ≤ minorF (ent (hermF rows)) is js ∧ minorF (ent (hermF rows)) is js ≤ 1000000000 := by
  rw [inc_range (k := (hermF rows).length) hi hil]
  have hS := herm_same hv h6
  refine minor_le (e' := ent rows) (m' := rows.length) (by decide) (by omega) hj (fun b hb => (hS _).1 (Sp.row hb)) (fun b hb => (hS _).2 (Sp.row hb)) fun is a1 a2 => ?_
  obtain ⟨_, _, _, b1, b2⟩ := minor_1 hv h6 a2 hj
  exact ⟨b1, b2⟩
theorem psum_dvd {g : Int} {f : Nat → Int} : ∀ {n : Nat}, (∀ k, k < n → g ∣ f k) → g ∣ psumF f n
  | 0, _ => Int.dvd_zero _
  | n + 1, h => Int.dvd_add (psum_dvd (n := n) fun k hk => h k (by omega)) (h n (by omega))
theorem DvM.next {e : Nat → Nat → Int} {m k : Nat} {g : Int} (h : DvM e m k g) : DvM e m (k + 1) g := by
  rintro (_ | ⟨i, is⟩) js h1 h2 h3 h4
  · simp at h1
  · rw [minor_cons]
    refine psum_dvd fun p hp => Int.dvd_mul_of_dvd_right (Int.dvd_mul_of_dvd_right (h is (js.eraseIdx p) (by simpa using h1) (by rw [List.length_eraseIdx, if_pos hp]; omega) (fun i hi => h3 i (by simp [hi])) fun j hj => h4 j (List.mem_of_mem_eraseIdx hj)))
theorem divRK_next {rows : List (List Int)} (k : Nat) : divRK rows k ∣ divRK rows (k + 1) := divRK_dvd.2 (divRK_dvd.1 (Nat.dvd_refl _)).next
theorem divRK_up {rows : List (List Int)} (k : Nat) : ∀ n, divRK rows k ∣ divRK rows (k + n)
  | 0 => Nat.dvd_refl _
  | n + 1 => Nat.dvd_trans (divRK_up k n) (divRK_next (k + n))
theorem divRK_pos {rows : List (List Int)} (hv : VM rows) (h6 : Six rows) {k : Nat} (hk : k ≤ rankF rows) : 0 < divRK rows k := by
  refine Nat.pos_of_ne_zero fun h0 => ?_
  have hB := fwd_B hv h6
  have hu := divRK_up (rows := rows) k (rankF rows - k)
  rw [h0, show k + (rankF rows - k) = rankF rows by omega] at hu
  have hd := divRK_dvd.1 hu
  have hl : (fwdF rows).js.length = rankF rows := hB.len.symm
  have := hd (fwdF rows).is (fwdF rows).js rfl hl hB.i fun j hj => hB.j.2 j hj
  rw [← hB.d] at this
  exact hB.ne (Int.zero_dvd.1 this)
def Eq6 (e e' : Nat → Nat → Int) : Prop := ∀ k g, DvM e 6 k g ↔ DvM e' 6 k g
theorem Eq6.trans {a b c : Nat → Nat → Int} (h : Eq6 a b) (h' : Eq6 b c) : Eq6 a c := fun k g => (h k g).trans (h' k g)
theorem Eq6.rows {e e' : Nat → Nat → Int} (h1 : ∀ b, b < 6 → RowL e 6 (e' b)) (h2 : ∀ b, b < 6 → RowL e' 6 (e b)) : Eq6 e e' := fun _ _ => ⟨fun h => h.comb h1, fun h => h.comb h2⟩
def tr6 (e : Nat → Nat → Int) (i j : Nat) : Int := e j i
theorem DvM.tr {e : Nat → Nat → Int} {k : Nat} {g : Int} (h : DvM e 6 k g) : DvM (tr6 e) 6 k g := fun is js h1 h2 h3 h4 => by
  rw [minor_tr (tr6 e) js is (by omega)]
  exact h js is h2 h1 h4 h3
theorem Eq6.tr (e : Nat → Nat → Int) : Eq6 e (tr6 e) := fun _ _ => ⟨DvM.tr, fun h => h.tr⟩
def addRw (e : Nat → Nat → Int) (t a : Nat) (c : Int) (i j : Nat) : Int := if i = t then e t j + c * e a j else e i j
theorem rowl_add {e : Nat → Nat → Int} {a t : Nat} {c : Int} (ha : a < 6) (ht : t < 6) {v : Nat → Int} (hv : ∀ j, j < 6 → v j = e t j + c * e a j) : RowL e 6 v :=
  .add (Sp.row ht) ((Sp.row (e := e) ha).smul c (u := fun j => c * e a j) fun _ _ => rfl) hv
theorem add_eq6 {e : Nat → Nat → Int} {t a : Nat} {c : Int} (ht : t < 6) (ha : a < 6) (hta : t ≠ a) : Eq6 e (addRw e t a c) := by
  refine Eq6.rows (fun b hb => ?_) fun b hb => ?_
  · by_cases h : b = t
    · subst h
      exact rowl_add ha ht (c := c) fun j _ => if_pos rfl
    · exact Sp.of_eq (Sp.row hb) fun j _ => if_neg h
  · by_cases h : b = t
    · subst h
      refine rowl_add (e := addRw e b a c) (c := -c) ha hb fun j _ => ?_
      have e1 : addRw e b a c b j = e b j + c * e a j := if_pos rfl
      have e2 : addRw e b a c a j = e a j := if_neg (Ne.symm hta)
      rw [e1, e2, Int.neg_mul]
      omega
    · exact Sp.of_eq (Sp.row hb) fun j _ => (if_neg h).symm
def swapRw (e : Nat → Nat → Int) (t a : Nat) (i j : Nat) : Int := e (if i = t then a else if i = a then t else i) j
theorem swap_eq6 {e : Nat → Nat → Int} {t a : Nat} (ht : t < 6) (ha : a < 6) : Eq6 e (swapRw e t a) := by
  refine Eq6.rows (fun b hb => ?_) fun b hb => ?_
  · refine Sp.of_eq (Sp.row (i := if b = t then a else if b = a then t else b) (by split <;> first | omega | (split <;> omega))) fun j _ => rfl
  · refine Sp.of_eq (Sp.row (i := if b = t then a else if b = a then t else b) (by split <;> first | omega | (split <;> omega))) fun j _ => ?_
    unfold swapRw
    congr 1
    split <;> rename_i h
    · subst h
      by_cases h2 : a = b
      · rw [if_pos h2]; exact h2.symm
      · rw [if_neg h2, if_pos rfl]
    · split <;> rename_i h2
      · rw [if_pos rfl]; exact h2
      · rfl
def clrRw (e : Nat → Nat → Int) (i j : Nat) : Int := if i = 0 then e 0 j else e i j - e i 0 / e 0 0 * e 0 j
theorem clr_eq6 {e : Nat → Nat → Int} : Eq6 e (clrRw e) := by
  refine Eq6.rows (fun b hb => ?_) fun b hb => ?_
  · by_cases h : b = 0
    · subst h
      exact Sp.of_eq (Sp.row hb) fun j _ => if_pos rfl
    · refine rowl_add (a := 0) (t := b) (c := -(e b 0 / e 0 0)) (by decide) hb fun j _ => ?_
      have e1 : clrRw e b j = e b j - e b 0 / e 0 0 * e 0 j := if_neg h
      rw [e1, Int.neg_mul]
      omega
  · by_cases h : b = 0
    · subst h
      exact Sp.of_eq (Sp.row hb) fun j _ => (if_pos rfl).symm
    · refine rowl_add (e := clrRw e) (a := 0) (t := b) (c := e b 0 / e 0 0) (by decide) hb fun j _ => ?_
      have e1 : clrRw e b j = e b j - e b 0 / e 0 0 * e 0 j := if_neg h
      have e2 : clrRw e 0 j = e 0 j := if_pos rfl
      rw [e1, e2]
      omega
theorem least {P : Nat → Prop} {a : Nat} (h : P a) : ∃ a, P a ∧ ∀ b, b < a → ¬ P b := by
  induction a using Nat.strongRecOn with
  | ind a ih =>
    by_cases hx : ∃ b, b < a ∧ P b
    · obtain ⟨b, hb, hp⟩ := hx
      exact ih b hb hp
    · exact ⟨a, h, fun b hb hp => hx ⟨b, hb, hp⟩⟩
theorem smith1 {e : Nat → Nat → Int} (h : ∃ i j, i < 6 ∧ j < 6 ∧ e i j ≠ 0) : ∃ e', Eq6 e e' ∧ e' 0 0 ≠ 0 ∧ (∀ i, 0 < i → i < 6 → e' i 0 = 0) ∧ (∀ j, 0 < j → j < 6 → e' 0 j = 0) ∧ ∀ i j, i < 6 → j < 6 → e' 0 0 ∣ e' i j := by
  let P : Nat → Prop := fun a => a ≠ 0 ∧ ∃ e', Eq6 e e' ∧ (e' 0 0).natAbs = a
  have hP : ∃ a, P a := by
    obtain ⟨i, j, hi, hj, hne⟩ := h
    refine ⟨(e i j).natAbs, by omega, tr6 (swapRw (tr6 (swapRw e 0 i)) 0 j), ?_, ?_⟩
    · exact (((swap_eq6 (t := 0) (by decide) hi).trans (Eq6.tr _)).trans (swap_eq6 (t := 0) (by decide) hj)).trans (Eq6.tr _)
    · simp [tr6, swapRw]
  obtain ⟨a0, ha0⟩ := hP
  obtain ⟨a, ⟨hane, e1, he1, ha1⟩, hmin⟩ := least ha0
  have key : ∀ e1, Eq6 e e1 → (e1 0 0).natAbs = a → ∀ i, 0 < i → i < 6 → e1 0 0 ∣ e1 i 0 := fun e1 h1 h2 i hi0 hi => by
    apply Decidable.byContradiction
    intro hn
    have hr : e1 i 0 % e1 0 0 ≠ 0 := fun hz => hn (Int.dvd_of_emod_eq_zero hz)
    have hlt : (e1 i 0 % e1 0 0).natAbs < a := by
      have := Int.emod_lt (e1 i 0) (b := e1 0 0) (by omega)
      have h0 := Int.emod_nonneg (e1 i 0) (b := e1 0 0) (by omega)
      omega
    refine hmin _ hlt ⟨by omega, swapRw (addRw e1 i 0 (-(e1 i 0 / e1 0 0))) 0 i, (h1.trans (add_eq6 hi (by decide) (by omega))).trans (swap_eq6 (by decide) hi), ?_⟩
    have e2 : swapRw (addRw e1 i 0 (-(e1 i 0 / e1 0 0))) 0 i 0 0 = e1 i 0 + -(e1 i 0 / e1 0 0) * e1 0 0 := by simp [swapRw, addRw]
    rw [e2]
    have := Int.mul_ediv_add_emod (e1 i 0) (e1 0 0)
    rw [Int.neg_mul, Int.mul_comm (e1 i 0 / e1 0 0)]
    congr 1
    omega
  have clr : ∀ e1, Eq6 e e1 → (e1 0 0).natAbs = a → (∀ i, 0 < i → i < 6 → clrRw e1 i 0 = 0) ∧ (∀ j, clrRw e1 0 j = e1 0 j) ∧ Eq6 e (clrRw e1) := fun e1 h1 h2 => by
    refine ⟨fun i hi0 hi => ?_, fun j => if_pos rfl, h1.trans clr_eq6⟩
    have e2 : clrRw e1 i 0 = e1 i 0 - e1 i 0 / e1 0 0 * e1 0 0 := if_neg (by omega)
    rw [e2, Int.ediv_mul_cancel (key e1 h1 h2 i hi0 hi)]
    omega
  obtain ⟨a1, a2, a3⟩ := clr e1 he1 ha1
  have b0 : (tr6 (clrRw e1) 0 0).natAbs = a := by
    show (clrRw e1 0 0).natAbs = a
    rw [a2]; exact ha1
  have bE := a3.trans (Eq6.tr _)
  obtain ⟨c1, c2, c3⟩ := clr _ bE b0
  have c00 : clrRw (tr6 (clrRw e1)) 0 0 = e1 0 0 := by rw [c2]; exact a2 0
  refine ⟨clrRw (tr6 (clrRw e1)), c3, by rw [c00]; omega, c1, fun j hj0 hj => by rw [c2]; exact a1 j hj0 hj, fun i j hi hj => ?_⟩
  generalize hF : clrRw (tr6 (clrRw e1)) = F at *
  have hF0 : ∀ j, 0 < j → j < 6 → F 0 j = 0 := fun j hj0 hj => by rw [c2]; exact a1 j hj0 hj
  by_cases hi0 : i = 0
  · by_cases hj0 : j = 0
    · rw [hi0, hj0]; exact Int.dvd_refl _
    · rw [hi0, hF0 j (by omega) hj]; exact Int.dvd_zero _
  · by_cases hj0 : j = 0
    · rw [hj0, c1 i (by omega) hi]; exact Int.dvd_zero _
    · have hA : Eq6 e (tr6 (addRw F 0 i 1)) := (c3.trans (add_eq6 (t := 0) (a := i) (c := 1) (by decide) hi (by omega))).trans (Eq6.tr _)
      have hA0 : tr6 (addRw F 0 i 1) 0 0 = F 0 0 := by
        show addRw F 0 i 1 0 0 = _
        simp [addRw, c1 i (by omega) hi]
      have := key _ hA (by rw [hA0, c00]; exact ha1) j (by omega) hj
      rw [hA0] at this
      have e3 : tr6 (addRw F 0 i 1) j 0 = F i j := by
        show addRw F 0 i 1 0 j = _
        simp [addRw, hF0 j (by omega) hj]
      rw [e3] at this
      exact this
def rest6 (e : Nat → Nat → Int) (i j : Nat) : Int := if i = 0 ∨ j = 0 then 0 else e i j
theorem rest_minor {e : Nat → Nat → Int} {is js : List Nat} (hi : 0 ∉ is) (hj : 0 ∉ js) : minorF (rest6 e) is js = minorF e is js := minor_eqs fun i hi' j hj' => if_neg fun h => by
  rcases h with rfl | rfl
  · exact hi hi'
  · exact hj hj'
theorem inc_zero {n : Nat} {l : List Nat} (h : Inc n 0 l) : 0 ∉ l ∨ ∃ t, l = 0 :: t ∧ 0 ∉ t ∧ ∀ x ∈ t, x < n := by
  by_cases h0 : 0 ∈ l
  · right
    cases l with
    | nil => simp at h0
    | cons a t =>
      have hp := h.pair
      rw [List.pairwise_cons] at hp
      have ha : a = 0 := by
        rcases List.mem_cons.1 h0 with h1 | h1
        · exact h1.symm
        · have := hp.1 0 h1; omega
      subst ha
      exact ⟨t, rfl, fun h1 => by have := hp.1 0 h1; omega, fun x hx => (h.lt x (by simp [hx])).2⟩
  · exact .inl h0
theorem smith2 {e : Nat → Nat → Int} (hi : ∀ i, 0 < i → i < 6 → e i 0 = 0) (hj : ∀ j, 0 < j → j < 6 → e 0 j = 0) {is js : List Nat} (hl : is.length = js.length) (hi0 : 0 ∉ is) (hj0 : 0 ∉ js) (his : ∀ x ∈ is, x < 6) (hjs : ∀ x ∈ js, x < 6) : minorF e (0 :: is) (0 :: js) = e 0 0 * minorF (rest6 e) is js := by
  rw [minor_cons, psumF_one (k := 0) (by simp) fun t ht ht0 => ?_]
  · show sg 0 * (e 0 0 * minorF e is js) = _
    rw [rest_minor hi0 hj0]
    show 1 * _ = _
    rw [Int.one_mul]
  · have hm : (0 :: js).getD t 0 ∈ js := by
      obtain ⟨t, rfl⟩ : ∃ u, t = u + 1 := ⟨t - 1, by omega⟩
      rw [List.getD_cons_succ]
      exact getD_mem (by simpa using ht)
    have h1 := hjs _ hm
    have h2 : (0 :: js).getD t 0 ≠ 0 := fun h => hj0 (by rw [h] at hm; exact hm)
    rw [hj _ (by omega) h1, Int.zero_mul, Int.mul_zero]
theorem smith3 {e : Nat → Nat → Int} (hne : e 0 0 ≠ 0) (hi : ∀ i, 0 < i → i < 6 → e i 0 = 0) (hj : ∀ j, 0 < j → j < 6 → e 0 j = 0) (hd : ∀ i j, i < 6 → j < 6 → e 0 0 ∣ e i j) {k : Nat} {g : Int} : DvM e 6 (k + 1) (e 0 0 * g) ↔ DvM (rest6 e) 6 k g := by
  constructor
  · intro h
    refine DvM.of_inc fun is js h1 h2 h3 h4 => ?_
    rcases inc_zero h3 with i0 | ⟨t, rfl, _⟩
    · rcases inc_zero h4 with j0 | ⟨t, rfl, _⟩
      · have := h (0 :: is) (0 :: js) (by simp [h1]) (by simp [h2]) (fun x hx => by
          rcases List.mem_cons.1 hx with rfl | hx
          · decide
          · exact (h3.lt x hx).2) fun x hx => by
          rcases List.mem_cons.1 hx with rfl | hx
          · decide
          · exact (h4.lt x hx).2
        rw [smith2 hi hj (by omega) i0 j0 (fun x hx => (h3.lt x hx).2) fun x hx => (h4.lt x hx).2] at this
        exact Int.dvd_of_mul_dvd_mul_left hne this
      · rw [minor_col0 (j := 0) (by omega) (by simp) fun i _ => if_pos (.inr rfl)]
        exact Int.dvd_zero _
    · rw [minor_row0 (b := 0) (by simp) fun j _ => if_pos (.inl rfl)]
      exact Int.dvd_zero _
  · intro h
    refine DvM.of_inc fun is js h1 h2 h3 h4 => ?_
    rcases inc_zero h3 with i0 | ⟨is', rfl, i1, i2⟩
    · rcases inc_zero h4 with j0 | ⟨js', rfl, j1, j2⟩
      · cases is with
        | nil => simp at h1
        | cons i is =>
          rw [minor_cons]
          refine psum_dvd fun p hp => Int.dvd_mul_of_dvd_right (Int.mul_dvd_mul (hd _ _ ((h3.lt i (by simp)).2) (h4.lt _ (getD_mem hp)).2) ?_)
          rw [← rest_minor (fun h => i0 (by simp [h])) fun h => j0 (List.mem_of_mem_eraseIdx h)]
          exact h is (js.eraseIdx p) (by simpa using h1) (by rw [List.length_eraseIdx, if_pos hp]; omega) (fun x hx => (h3.lt x (by simp [hx])).2) fun x hx => (h4.lt x (List.mem_of_mem_eraseIdx hx)).2
      · rw [minor_col0 (j := 0) (by omega) (by simp) fun i hi' => hi i (Nat.pos_of_ne_zero fun h => i0 (by rw [← h]; exact hi')) (h3.lt i hi').2]
        exact Int.dvd_zero _
    · rcases inc_zero h4 with j0 | ⟨js', rfl, j1, j2⟩
      · rw [minor_row0 (b := 0) (by simp) fun j hj' => hj j (Nat.pos_of_ne_zero fun h => j0 (by rw [← h]; exact hj')) (h4.lt j hj').2]
        exact Int.dvd_zero _
      · simp at h1 h2
        rw [smith2 hi hj (by omega) i1 j1 i2 j2]
        exact Int.mul_dvd_mul (Int.dvd_refl _) (h is' js' h1 h2 i2 j2)
def IsG (e : Nat → Nat → Int) (k : Nat) (d : Int) : Prop := ∀ x, DvM e 6 k x ↔ x ∣ d
theorem IsG.one {e : Nat → Nat → Int} {d : Int} (h : IsG e 0 d) : d ∣ 1 := by
  have := (h d).2 (Int.dvd_refl _) [] [] rfl rfl (by simp) (by simp)
  exact this
theorem isG_rest {e f : Nat → Nat → Int} (hE : Eq6 e f) (hne : f 0 0 ≠ 0) (hi : ∀ i, 0 < i → i < 6 → f i 0 = 0) (hj : ∀ j, 0 < j → j < 6 → f 0 j = 0) (hd : ∀ i j, i < 6 → j < 6 → f 0 0 ∣ f i j) {k : Nat} {d : Int} (h : IsG e (k + 1) d) : ∃ d', d = f 0 0 * d' ∧ IsG (rest6 f) k d' := by
  have h1 : DvM f 6 (k + 1) (f 0 0 * 1) := (smith3 hne hi hj hd).2 fun _ _ _ _ _ _ => Int.one_dvd _
  rw [Int.mul_one] at h1
  obtain ⟨d', rfl⟩ := (h _).1 ((hE _ _).2 h1)
  refine ⟨d', rfl, fun x => ?_⟩
  rw [← smith3 hne hi hj hd, ← hE, h]
  exact ⟨fun h => Int.dvd_of_mul_dvd_mul_left hne h, fun h => Int.mul_dvd_mul (Int.dvd_refl _) h⟩
theorem mul4 (s a b : Int) : s * a * (s * b) = s * s * (a * b) := by grind
theorem smith_law : ∀ (k : Nat) {e : Nat → Nat → Int} {a b c : Int}, IsG e k a → IsG e (k + 1) b → IsG e (k + 2) c → b * b ∣ a * c := by
  intro k
  induction k with
  | zero =>
    intro e a b c ha hb hc
    by_cases hex : ∃ i j, i < 6 ∧ j < 6 ∧ e i j ≠ 0
    · obtain ⟨f, hE, hne, hi, hj, hd⟩ := smith1 hex
      obtain ⟨b', rfl, hb'⟩ := isG_rest hE hne hi hj hd hb
      obtain ⟨c', rfl, hc'⟩ := isG_rest hE hne hi hj hd hc
      have h1 : DvM (rest6 f) 6 1 (f 0 0) := DvM.of_inc fun is js h1 h2 h3 h4 => by
        match is, js, h1, h2, h3, h4 with
        | [i], [j], _, _, h3, h4 =>
          rw [minor_cons]
          refine psum_dvd fun p hp => Int.dvd_mul_of_dvd_right (Int.dvd_mul_of_dvd_left ?_)
          have hp0 : p = 0 := by simpa using hp
          subst hp0
          show _ ∣ rest6 f i j
          unfold rest6
          split
          · exact Int.dvd_zero _
          · exact hd i j (h3.lt i (by simp)).2 (h4.lt j (by simp)).2
      obtain ⟨c'', rfl⟩ := (hc' _).1 h1
      have hb1 := hb'.one
      have e1 : a * (f 0 0 * (f 0 0 * c'')) = f 0 0 * f 0 0 * (a * c'') := by grind
      rw [mul4, e1]
      refine Int.mul_dvd_mul (Int.dvd_refl _) (Int.dvd_trans ?_ (Int.one_dvd _))
      have := Int.mul_dvd_mul hb1 hb1
      rwa [Int.one_mul] at this
    · have hz : ∀ i j, i < 6 → j < 6 → e i j = 0 := fun i j hi hj => Decidable.byContradiction fun h => hex ⟨i, j, hi, hj, h⟩
      have hD : DvM e 6 1 0 := fun is js h1 h2 h3 h4 => by
        match is, h1 with
        | [i], _ => rw [minor_row0 (b := i) (by simp) fun j hj => hz i j (h3 i (by simp)) (h4 j hj)]; exact Int.dvd_refl _
      have h1 := Int.zero_dvd.1 ((hb 0).1 hD)
      have h2 := Int.zero_dvd.1 ((hc 0).1 hD.next)
      rw [h1, h2, Int.mul_zero, Int.mul_zero]
      exact Int.dvd_refl _
  | succ k ih =>
    intro e a b c ha hb hc
    by_cases hex : ∃ i j, i < 6 ∧ j < 6 ∧ e i j ≠ 0
    · obtain ⟨f, hE, hne, hi, hj, hd⟩ := smith1 hex
      obtain ⟨a', rfl, ha'⟩ := isG_rest hE hne hi hj hd ha
      obtain ⟨b', rfl, hb'⟩ := isG_rest hE hne hi hj hd hb
      obtain ⟨c', rfl, hc'⟩ := isG_rest hE hne hi hj hd hc
      rw [mul4, mul4]
      exact Int.mul_dvd_mul (Int.dvd_refl _) (ih ha' hb' hc')
    · have hz : ∀ i j, i < 6 → j < 6 → e i j = 0 := fun i j hi hj => Decidable.byContradiction fun h => hex ⟨i, j, hi, hj, h⟩
      have hD : ∀ k, DvM e 6 (k + 1) 0 := fun k is js h1 h2 h3 h4 => by
        match is, h1 with
        | i :: is, _ => rw [minor_row0 (b := i) (by simp) fun j hj => hz i j (h3 i (by simp)) (h4 j hj)]; exact Int.dvd_refl _
      have h1 := Int.zero_dvd.1 ((hb 0).1 (hD _))
      have h2 := Int.zero_dvd.1 ((hc 0).1 (hD _))
      rw [h1, h2, Int.mul_zero, Int.mul_zero]
      exact Int.dvd_refl _
theorem DvM.nat {e : Nat → Nat → Int} {m k : Nat} {x : Int} : DvM e m k x ↔ DvM e m k (x.natAbs : Int) :=
  ⟨fun h is js a b c d => Int.natAbs_dvd.2 (h is js a b c d), fun h is js a b c d => Int.natAbs_dvd.1 (h is js a b c d)⟩
def pad6 (H : List (List Int)) (i j : Nat) : Int := if i < H.length then ent H i j else 0
theorem isG_rows {rows H : List (List Int)} (hS : SameL H rows) (h6 : H.length ≤ 6) (k : Nat) : IsG (pad6 H) k (divRK rows k : Nat) := fun x => by
  have h1 : DvM (pad6 H) 6 k x ↔ DvM (ent H) H.length k x := by
    refine ⟨fun h => h.comb fun b hb => ?_, fun h => h.comb fun b hb => ?_⟩
    · exact Sp.of_eq (Sp.row (e := pad6 H) (i := b) (by omega)) fun j _ => (if_pos hb).symm
    · by_cases hbl : b < H.length
      · exact Sp.of_eq (Sp.row (e := ent H) hbl) fun j _ => if_pos hbl
      · exact .zero fun j _ => if_neg hbl
  rw [h1, DvM.nat, ← divRK_dvd, divRK_same hS, Int.natCast_dvd_natCast.symm, Int.natAbs_dvd]
theorem divRK_smith {rows : List (List Int)} (hv : VM rows) (h6 : Six rows) (k : Nat) : divRK rows (k + 1) * divRK rows (k + 1) ∣ divRK rows k * divRK rows (k + 2) := by
  have hS := herm_same hv h6
  have hl : (hermF rows).length ≤ 6 := by
    rw [← rank_herm hv h6]
    have := rank_le (fwd_B hv h6)
    omega
  have := smith_law k (isG_rows hS hl k) (isG_rows hS hl (k + 1)) (isG_rows hS hl (k + 2))
  rw [← Int.natCast_mul, ← Int.natCast_mul] at this
  exact Int.natCast_dvd_natCast.1 this
def pprodF (f : Nat → Int) : Nat → Int
  | 0 => 1
  | n + 1 => pprodF f n * f n
theorem pprod_cons (f : Nat → Int) : ∀ n, pprodF f (n + 1) = f 0 * pprodF (fun t => f (t + 1)) n
  | 0 => by simp [pprodF]
  | n + 1 => by
    show pprodF f (n + 1) * f (n + 1) = f 0 * (pprodF (fun t => f (t + 1)) n * f (n + 1))
    rw [pprod_cons f n, Int.mul_assoc]
theorem pprod_congr {f g : Nat → Int} : ∀ {n : Nat}, (∀ k, k < n → f k = g k) → pprodF f n = pprodF g n
  | 0, _ => rfl
  | n + 1, h => by
    show pprodF f n * f n = pprodF g n * g n
    rw [pprod_congr (n := n) fun k hk => h k (by omega), h n (by omega)]
theorem minor_tri {e : Nat → Nat → Int} : ∀ {is us : List Nat}, is.length = us.length → (∀ a b, b < a → a < is.length → e (is.getD a 0) (us.getD b 0) = 0) → minorF e is us = pprodF (fun t => e (is.getD t 0) (us.getD t 0)) is.length
  | [], [], _, _ => rfl
  | [], _ :: _, h, _ => by simp at h
  | _ :: _, [], h, _ => by simp at h
  | i :: is, u :: us, hl, h => by
    rw [minor_col e u (i :: is) us (by simpa using hl), psumF_one (k := 0) (by simp) fun t ht ht0 => ?_]
    · show sg 0 * (e i u * minorF e is us) = pprodF _ (is.length + 1)
      rw [minor_tri (by simpa using hl) fun a b hba ha => by
        have := h (a + 1) (b + 1) (by omega) (by simpa using ha)
        simpa using this, pprod_cons]
      show 1 * _ = _
      rw [Int.one_mul]
      rfl
    · have := h t 0 (by omega) (by simpa using ht)
      rw [List.getD_cons_zero] at this
      rw [this, Int.zero_mul, Int.mul_zero]
theorem pprod_mono {f : Nat → Int} (n : Nat) (h : ∀ k, k < n → 1 ≤ f k) : ∀ i, i ≤ n → 1 ≤ pprodF f i ∧ ∀ k, k ≤ i → pprodF f k ≤ pprodF f i
  | 0, _ => ⟨Int.le_refl (1 : Int), fun k hk => by
    have e : k = 0 := by omega
    rw [e]
    exact Int.le_refl _⟩
  | i + 1, hi => by
    obtain ⟨h1, h2⟩ := pprod_mono n h i (by omega)
    have h3 := h i (by omega)
    have h4 : pprodF f i ≤ pprodF f (i + 1) := by
      have := Int.mul_le_mul_of_nonneg_left h3 (show 0 ≤ pprodF f i by omega)
      rw [Int.mul_one] at this
      exact this
    refine ⟨by omega, fun k hk => ?_⟩
    by_cases hki : k = i + 1
    · subst hki; exact Int.le_refl _
    · have := h2 k (by omega); omega
theorem getD_range {n a : Nat} (h : a < n) : (List.range n).getD a 0 = a := by
  rw [List.getD_eq_getElem?_getD, List.getElem?_eq_getElem (by rw [List.length_range]; exact h), List.getElem_range]
  rfl
def pivP (rows : List (List Int)) (i : Nat) : Int := ent (hermF rows) i ((fwdF rows).js.getD i 0)
theorem pivP_all {rows : List (List Int)} (hv : VM rows) (h6 : Six rows) : (∀ i, i < (hermF rows).length → 1 ≤ pivP rows i) ∧ pprodF (pivP rows) (hermF rows).length ≤ 1000000000 ∧ ((divRK rows (hermF rows).length : Nat) : Int) ∣ pprodF (pivP rows) (hermF rows).length := by
  have hH := herm_lat hv h6
  have hl := hH.len
  have hf := hH.hf
  have hB := fwd_B hv h6
  have hs := fwd_sorted rows
  have hj : Inc 6 0 (fwdF rows).js := inc_iff.2 ⟨hs, hB.j.2⟩
  have e1 : minorF (ent (hermF rows)) (List.range (hermF rows).length) (fwdF rows).js = pprodF (pivP rows) (hermF rows).length := by
    rw [minor_tri (by rw [List.length_range]; exact hl) fun a b hba ha => by
      rw [List.length_range] at ha
      rw [getD_range ha]
      exact hf.zero a (by omega) _ (hf.up b a hba (by omega)), List.length_range]
    exact pprod_congr fun k hk => by rw [getD_range hk]; rfl
  refine ⟨fun i hi => hf.pos i (by omega), ?_, ?_⟩
  · rw [← e1]
    exact (herm_minor hv h6 (inc_iff.2 ⟨List.pairwise_lt_range, fun x hx => List.mem_range.1 hx⟩) (by simp) hj (by rw [List.length_range]; omega)).2
  · have hd := divRK_dvd.1 (Nat.dvd_refl (divRK (hermF rows) (hermF rows).length))
    rw [divRK_same (herm_same hv h6)] at hd
    have := hd (List.range (hermF rows).length) (fwdF rows).js (by simp) hl.symm (fun i hi => List.mem_range.1 hi) hB.j.2
    rw [e1] at this
    exact this
end Go.Proofs.Ytnilimjkibimcaa

