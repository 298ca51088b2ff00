import Derived.Test.YtjbdefmhjmkifaaDoorL11ca
import Derived.Test.YtjbdefmhjmkifaaDoorL11pa

set_option linter.unusedSimpArgs false
set_option linter.unusedVariables false
namespace Go.Proofs.YtjbdefmhjmkifaaDoor
open Go.Zz

/-! ### The search finds the first list -/
theorem bef_irrefl : ∀ l : List Int, befI l l = false
  | [] => rfl
  | a :: l => by simp only [befI, ne_eq, not_true_eq_false, if_false]; exact bef_irrefl l
theorem bef_app : ∀ (p x y : List Int), befI (p ++ x) (p ++ y) = befI x y
  | [], _, _ => rfl
  | a :: p, x, y => by simp only [List.cons_append, befI, ne_eq, not_true_eq_false, if_false]; exact bef_app p x y
def Fits : List (List Int) → List Int → Prop
  | [], [] => True
  | l :: ls, a :: t => a ∈ l ∧ Fits ls t
  | _, _ => False
theorem fits_nil {t : List Int} (h : Fits [] t) : t = [] := by cases t <;> simp [Fits] at h; rfl
theorem fits_cons {l : List Int} {ls : List (List Int)} {t : List Int} (h : Fits (l :: ls) t) : ∃ a t', t = a :: t' ∧ a ∈ l ∧ Fits ls t' := by
  cases t with
  | nil => simp [Fits] at h
  | cons a t' => exact ⟨a, t', rfl, h.1, h.2⟩
theorem app1 (p : List Int) (a : Int) (t : List Int) : p ++ a :: t = (p ++ [a]) ++ t := by simp
theorem nodup_mid {p t : List Int} {a : Int} (h : (p ++ a :: t).Nodup) : a ∉ p := by
  intro hp
  rw [List.nodup_append] at h
  exact h.2.2 a hp a (by simp) rfl
theorem dfs_none {Q : List Int → Bool} : ∀ {ls : List (List Int)} {pre : List Int}, dfs Q ls pre = none → ∀ t, Fits ls t → (pre ++ t).Nodup → Q (pre ++ t) = false
  | [], pre, h, t, hf, hn => by
    rw [fits_nil hf, List.append_nil]
    unfold dfs at h
    split at h
    · cases h
    · rename_i hq; simpa using hq
  | l :: ls, pre, h, t, hf, hn => by
    obtain ⟨a, t', rfl, ha, hf'⟩ := fits_cons hf
    unfold dfs at h
    have h1 := List.findSome?_eq_none_iff.1 h a ha
    rw [if_neg (nodup_mid hn)] at h1
    rw [app1] at hn ⊢
    exact dfs_none h1 t' hf' hn
theorem dfs_some {Q : List Int → Bool} : ∀ {ls : List (List Int)} {pre r : List Int}, (∀ l ∈ ls, l.Pairwise (· < ·)) → pre.Nodup → dfs Q ls pre = some r →
    Q r = true ∧ (∃ s, r = pre ++ s ∧ Fits ls s ∧ r.Nodup) ∧ ∀ t, Fits ls t → (pre ++ t).Nodup → Q (pre ++ t) = true → befI (pre ++ t) r = false
  | [], pre, r, hs, hp, h => by
    unfold dfs at h
    split at h
    · rename_i hq
      cases h
      refine ⟨hq, ⟨[], by simp, trivial, hp⟩, fun t hf _ _ => ?_⟩
      rw [fits_nil hf, List.append_nil, bef_irrefl]
    · cases h
  | l :: ls, pre, r, hs, hp, h => by
    unfold dfs at h
    obtain ⟨l1, a, l2, rfl, ha, hno⟩ := List.findSome?_eq_some_iff.1 h
    split at ha
    · cases ha
    · rename_i hmem
      have hp' : (pre ++ [a]).Nodup := by
        rw [List.nodup_append]
        exact ⟨hp, by simp, fun x hx y hy => by
          rw [List.mem_singleton] at hy
          subst hy
          exact fun e => hmem (e ▸ hx)⟩
      obtain ⟨h1, ⟨s, h2, h3, h4⟩, h5⟩ := dfs_some (fun m hm => hs m (by simp [hm])) hp' ha
      refine ⟨h1, ⟨a :: s, by rw [h2]; simp, ⟨by simp, h3⟩, h4⟩, fun t hf hn hq => ?_⟩
      obtain ⟨b, t', rfl, hb, hf'⟩ := fits_cons hf
      have hl := hs _ (List.mem_cons_self)
      rw [List.pairwise_append, List.pairwise_cons] at hl
      obtain ⟨-, ⟨hl2, -⟩, -⟩ := hl
      rw [List.mem_append, List.mem_cons] at hb
      rcases hb with hb | rfl | hb
      · have h6 := hno b hb
        rw [if_neg (nodup_mid hn)] at h6
        rw [app1] at hn hq
        rw [dfs_none h6 t' hf' hn] at hq
        cases hq
      · rw [app1] at hn hq ⊢
        exact h5 t' hf' hn hq
      · have hab := hl2 b hb
        rw [h2, ← app1, bef_app]
        simp only [befI]
        rw [if_pos (by omega), decide_eq_false_iff_not]
        omega

/-! ### What plays -/
def noteP (ps : List Pipe) (tol : Int) (ids : List Int) (vs : List V6) (i : Nat) : Prop := pos ps (ids.getD i 0) < ps.length ∧ hasP (pipeOf ps (ids.getD i 0)) (nv vs i) tol ∧ ∀ n, n < i → ids.getD n 0 ≠ ids.getD i 0
instance (ps : List Pipe) (tol : Int) (ids : List Int) (vs : List V6) (i : Nat) : Decidable (noteP ps tol ids vs i) := by unfold noteP; infer_instance
def playsR (ps : List Pipe) (sup tol : Int) (vs : List V6) (ids : List Int) (w : Int) : Prop := ids.length = vs.length ∧ (∀ i, i < ids.length → noteP ps tol ids vs i) ∧ playsP ps sup tol ids vs w
instance (ps : List Pipe) (sup tol : Int) (vs : List V6) (ids : List Int) (w : Int) : Decidable (playsR ps sup tol vs ids w) := by unfold playsR; infer_instance
theorem pos_nth {ps : List Pipe} {sup tol : Int} (hv : VO ps sup tol) {i : Nat} (hi : i < ps.length) : pos ps (nth ps i).id = i :=
  pos_eq hi rfl fun j hj => by have := hv.lt hj hi; omega
theorem mem_find {ps : List Pipe} {sup tol : Int} (hv : VO ps sup tol) {v : V6} {a : Int} : a ∈ findL ps tol v ps.length ↔ pos ps a < ps.length ∧ hasP (pipeOf ps a) v tol := by
  unfold findL
  rw [List.take_length]
  constructor
  · intro h
    obtain ⟨p, hp, rfl⟩ := List.mem_map.1 h
    obtain ⟨hm, hh⟩ := List.mem_filter.1 hp
    obtain ⟨i, hi, rfl⟩ := List.getElem_of_mem hm
    rw [← nth_lt hi] at hh ⊢
    have := pos_nth hv hi
    unfold pipeOf
    rw [this]
    exact ⟨hi, of_decide_eq_true hh⟩
  · rintro ⟨h1, h2⟩
    refine List.mem_map.2 ⟨pipeOf ps a, List.mem_filter.2 ⟨?_, decide_eq_true h2⟩, pos_at h1⟩
    unfold pipeOf
    rw [nth_lt h1]
    exact List.getElem_mem h1
theorem ids_rise {ps : List Pipe} {sup tol : Int} (hv : VO ps sup tol) : (ps.map (·.id)).Pairwise (· < ·) := by
  rw [List.pairwise_iff_getElem]
  intro i j hi hj hij
  rw [List.length_map] at hi hj
  rw [List.getElem_map, List.getElem_map, ← nth_lt hi, ← nth_lt hj]
  exact hv.lt hij hj
theorem find_rise {ps : List Pipe} {sup tol : Int} (hv : VO ps sup tol) (v : V6) (n : Nat) : (findL ps tol v n).Pairwise (· < ·) := by
  refine (ids_rise hv).sublist ?_
  unfold findL
  exact List.Sublist.map _ (List.filter_sublist.trans (List.take_sublist _ _))
theorem nv_cons {v : V6} {vs : List V6} {i : Nat} : nv (v :: vs) (i + 1) = nv vs i := by simp [nv]
theorem fits_iff {ps : List Pipe} {sup tol : Int} (hv : VO ps sup tol) : ∀ {vs : List V6} {t : List Int}, Fits (LSof ps tol vs) t ↔ t.length = vs.length ∧ ∀ i, i < t.length → pos ps (t.getD i 0) < ps.length ∧ hasP (pipeOf ps (t.getD i 0)) (nv vs i) tol
  | [], [] => by simp [Fits, LSof]
  | [], a :: t => by simp [Fits, LSof]
  | v :: vs, [] => by simp [Fits, LSof]
  | v :: vs, a :: t => by
    have e : LSof ps tol (v :: vs) = findL ps tol v ps.length :: LSof ps tol vs := rfl
    rw [e]
    simp only [Fits, mem_find hv, fits_iff hv (vs := vs) (t := t), List.length_cons, Nat.add_right_cancel_iff]
    constructor
    · rintro ⟨⟨h1, h2⟩, h3, h4⟩
      refine ⟨h3, fun i hi => ?_⟩
      match i with
      | 0 => exact ⟨h1, h2⟩
      | i + 1 => rw [nv_cons]; exact h4 i (by omega)
    · rintro ⟨h3, h4⟩
      exact ⟨h4 0 (by omega), h3, fun i hi => by have := h4 (i + 1) (by omega); rwa [nv_cons] at this⟩
theorem nodup_iff {t : List Int} : t.Nodup ↔ ∀ i, i < t.length → ∀ n, n < i → t.getD n 0 ≠ t.getD i 0 := by
  have hg : ∀ i (h : i < t.length), t.getD i 0 = t[i] := fun i h => by rw [List.getD_eq_getElem?_getD, List.getElem?_eq_getElem h]; rfl
  unfold List.Nodup
  rw [List.pairwise_iff_getElem]
  constructor
  · intro h i hi n hn
    rw [hg i hi, hg n (by omega)]
    exact h n i (by omega) hi hn
  · intro h i j hi hj hij
    have := h j hj i hij
    rwa [hg i hi, hg j hj] at this
theorem plays_iff {ps : List Pipe} {sup tol w : Int} (hv : VO ps sup tol) {vs : List V6} {t : List Int} : playsR ps sup tol vs t w ↔ Fits (LSof ps tol vs) t ∧ t.Nodup ∧ playsP ps sup tol t vs w := by
  rw [fits_iff hv, nodup_iff]
  constructor
  · rintro ⟨h1, h2, h3⟩
    exact ⟨⟨h1, fun i hi => ⟨(h2 i hi).1, (h2 i hi).2.1⟩⟩, fun i hi => (h2 i hi).2.2, h3⟩
  · rintro ⟨⟨h1, h2⟩, h3, h4⟩
    exact ⟨h1, fun i hi => ⟨(h2 i hi).1, (h2 i hi).2, h3 i hi⟩, h4⟩
theorem chord_some {ps : List Pipe} {sup tol w : Int} (hv : VO ps sup tol) {vs : List V6} {r : List Int} (h : findC ps sup tol vs w = some r) :
    playsR ps sup tol vs r w ∧ ∀ t, playsR ps sup tol vs t w → befI t r = false := by
  obtain ⟨h1, ⟨s, h2, h3, h4⟩, h5⟩ := dfs_some (pre := []) (fun l hl => by
    obtain ⟨v, _, rfl⟩ := List.mem_map.1 hl
    exact find_rise hv v _) List.nodup_nil h
  rw [List.nil_append] at h2
  subst h2
  refine ⟨(plays_iff hv).2 ⟨h3, h4, of_decide_eq_true h1⟩, fun t ht => ?_⟩
  obtain ⟨g1, g2, g3⟩ := (plays_iff hv).1 ht
  exact h5 t g1 g2 (decide_eq_true g3)
theorem chord_none {ps : List Pipe} {sup tol w : Int} (hv : VO ps sup tol) {vs : List V6} (h : findC ps sup tol vs w = none) (t : List Int) : ¬ playsR ps sup tol vs t w := fun ht => by
  obtain ⟨g1, g2, g3⟩ := (plays_iff hv).1 ht
  have := dfs_none h t g1 g2
  simp only [List.nil_append, decide_eq_false_iff_not] at this
  exact this g3
theorem prodN_small {LS : List (List Int)} (h : ∀ i, (LS.getD i []).length ≤ 10) : ∀ i, i ≤ 3 → prodN LS i ≤ 1000
  | 0, _ => by simp [prodN]
  | 1, _ => by
    have h0 := h 0
    simp only [prodN, show (1 : Int) ≤ 10000 by decide, if_true, Int.one_mul]
    omega
  | 2, _ => by
    have h0 := h 0
    have h1 := h 1
    have m := mul_bnd (a := ((LS.getD 0 []).length : Int)) (A := 10) (b := ((LS.getD 1 []).length : Int)) (B := 10) (by omega) (by omega) (by omega) (by omega)
    simp only [prodN, show (1 : Int) ≤ 10000 by decide, if_true, Int.one_mul]
    split <;> omega
  | 3, _ => by
    have h0 := h 0
    have h1 := h 1
    have h2 := h 2
    have m := mul_bnd (a := ((LS.getD 0 []).length : Int)) (A := 10) (b := ((LS.getD 1 []).length : Int)) (B := 10) (by omega) (by omega) (by omega) (by omega)
    have m0 : 0 ≤ ((LS.getD 0 []).length : Int) * ((LS.getD 1 []).length : Int) := Int.mul_nonneg (by omega) (by omega)
    have m2 := mul_bnd (a := ((LS.getD 0 []).length : Int) * ((LS.getD 1 []).length : Int)) (A := 100) (b := ((LS.getD 2 []).length : Int)) (B := 10) m0 (by omega) (by omega) (by omega)
    simp only [prodN]
    simp only [show (1 : Int) ≤ 10000 by decide, if_true, Int.one_mul]
    rw [if_pos (by omega)]
    split <;> omega
  | n + 4, h => by omega
end Go.Proofs.YtjbdefmhjmkifaaDoor

