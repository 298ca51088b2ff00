import Derived.Test.YtjbdefmhjmkifaaDoorL11cq

set_option linter.unusedSimpArgs false
set_option linter.unusedVariables false
namespace Go.Proofs.YtjbdefmhjmkifaaDoor
open Go.Zz

/-! ### All lists in order -/
def prodL : List (List Int) → Nat
  | [] => 1
  | l :: ls => l.length * prodL ls
def enumL : List (List Int) → Nat → List Int
  | [], _ => []
  | l :: ls, n => l.getD (n / prodL ls) 0 :: enumL ls (n % prodL ls)
theorem enum_len : ∀ (ls : List (List Int)) (n : Nat), (enumL ls n).length = ls.length
  | [], _ => rfl
  | l :: ls, n => by simp [enumL, enum_len ls]
theorem enum_of : ∀ {ls : List (List Int)} {t : List Int}, Fits ls t → ∃ n, n < prodL ls ∧ enumL ls n = t
  | [], t, h => ⟨0, by simp [prodL], by rw [fits_nil h]; rfl⟩
  | l :: ls, t, h => by
    obtain ⟨a, t', rfl, ha, h'⟩ := fits_cons h
    obtain ⟨n, hn, e⟩ := enum_of h'
    obtain ⟨j, hj, rfl⟩ := List.getElem_of_mem ha
    have hp : 0 < prodL ls := by omega
    refine ⟨j * prodL ls + n, ?_, ?_⟩
    · have : (j + 1) * prodL ls ≤ l.length * prodL ls := Nat.mul_le_mul_right _ hj
      simp only [prodL]
      rw [Nat.succ_mul] at this
      omega
    · have e1 : (j * prodL ls + n) / prodL ls = j := by
        rw [Nat.add_comm, Nat.add_mul_div_right _ _ hp, Nat.div_eq_of_lt hn, Nat.zero_add]
      have e2 : (j * prodL ls + n) % prodL ls = n := by
        rw [Nat.add_comm, Nat.add_mul_mod_self_right, Nat.mod_eq_of_lt hn]
      simp only [enumL, e1, e2, e]
      rw [List.getD_eq_getElem?_getD, List.getElem?_eq_getElem hj]
      rfl
theorem enum_order : ∀ {ls : List (List Int)}, (∀ l ∈ ls, l.Pairwise (· < ·)) → ∀ {n m : Nat}, n ≤ m → m < prodL ls → befI (enumL ls m) (enumL ls n) = false
  | [], _, n, m, _, _ => rfl
  | l :: ls, hs, n, m, hnm, hm => by
    have hp : 0 < prodL ls := by
      rcases Nat.eq_zero_or_pos (prodL ls) with h | h
      · simp only [prodL, h, Nat.mul_zero] at hm; omega
      · exact h
    simp only [prodL] at hm
    have hml : m / prodL ls < l.length := Nat.div_lt_of_lt_mul (by rwa [Nat.mul_comm])
    have hdiv : n / prodL ls ≤ m / prodL ls := Nat.div_le_div_right hnm
    have hg : ∀ i (h : i < l.length), l.getD i 0 = l[i] := fun i h => by rw [List.getD_eq_getElem?_getD, List.getElem?_eq_getElem h]; rfl
    simp only [enumL, befI]
    by_cases e : n / prodL ls = m / prodL ls
    · rw [e, if_neg (by simp)]
      have h1 := Nat.div_add_mod n (prodL ls)
      have h2 := Nat.div_add_mod m (prodL ls)
      rw [e] at h1
      exact enum_order (fun l hl => hs l (by simp [hl])) (by omega) (Nat.mod_lt _ hp)
    · have hl := hs l (by simp)
      rw [List.pairwise_iff_getElem] at hl
      have := hl (n / prodL ls) (m / prodL ls) (by omega) hml (by omega)
      rw [← hg, ← hg] at this
      rw [if_pos (by omega), decide_eq_false_iff_not]
      omega
theorem enum_step {l : List Int} {ls : List (List Int)} {n : Nat} (hp : 0 < prodL ls) : enumL (l :: ls) (n % (l.length * prodL ls)) = l.getD ((n / prodL ls) % l.length) 0 :: enumL ls (n % prodL ls) := by
  simp only [enumL]
  congr 1
  · rw [Nat.mul_comm, Nat.mod_mul_right_div_self]
  · rw [Nat.mod_mod_of_dvd _ (Nat.dvd_mul_left _ _)]
theorem bef_eq : ∀ {a b : List Int}, a.length = b.length → befI a b = false → befI b a = false → a = b
  | [], [], _, _, _ => rfl
  | [], _ :: _, h, _, _ => by simp at h
  | _ :: _, [], h, _, _ => by simp at h
  | x :: a, y :: b, h, h1, h2 => by
    simp only [befI] at h1 h2
    by_cases e : x = y
    · subst e
      simp only [ne_eq, not_true_eq_false, if_false] at h1 h2
      rw [bef_eq (by simpa using h) h1 h2]
    · rw [if_pos e, decide_eq_false_iff_not] at h1
      rw [if_pos (Ne.symm e), decide_eq_false_iff_not] at h2
      omega
/-- The first list of the enumeration that plays is the one that the search finds. -/
theorem chord_first {ps : List Pipe} {sup tol w : Int} (hv : VO ps sup tol) {vs : List V6} {n : Nat} (hn : n < prodL (LSof ps tol vs)) (hp : playsR ps sup tol vs (enumL (LSof ps tol vs) n) w) (hno : ∀ j, j < n → ¬ playsR ps sup tol vs (enumL (LSof ps tol vs) j) w) :
    findC ps sup tol vs w = some (enumL (LSof ps tol vs) n) := by
  cases hf : findC ps sup tol vs w with
  | none => exact absurd hp (chord_none hv hf _)
  | some r =>
    obtain ⟨p1, p2⟩ := chord_some hv hf
    congr 1
    obtain ⟨m, hm, e⟩ := enum_of ((plays_iff hv).1 p1).1
    have hs : ∀ l ∈ LSof ps tol vs, l.Pairwise (· < ·) := fun l hl => by
      obtain ⟨v, _, rfl⟩ := List.mem_map.1 hl
      exact find_rise hv v _
    have hnm : n ≤ m := by
      rcases Nat.lt_or_ge m n with h | h
      · exact absurd (by rw [e]; exact p1) (hno m h)
      · exact h
    have h1 := enum_order hs hnm hm
    rw [e] at h1
    exact bef_eq (by rw [p1.1, enum_len, LSof_len]) h1 (p2 _ hp)
theorem chord_never {ps : List Pipe} {sup tol w : Int} (hv : VO ps sup tol) {vs : List V6} (hno : ∀ j, j < prodL (LSof ps tol vs) → ¬ playsR ps sup tol vs (enumL (LSof ps tol vs) j) w) : findC ps sup tol vs w = none := by
  cases hf : findC ps sup tol vs w with
  | none => rfl
  | some r =>
    obtain ⟨p1, p2⟩ := chord_some hv hf
    obtain ⟨m, hm, e⟩ := enum_of ((plays_iff hv).1 p1).1
    exact absurd (by rw [e]; exact p1) (hno m hm)
end Go.Proofs.YtjbdefmhjmkifaaDoor

