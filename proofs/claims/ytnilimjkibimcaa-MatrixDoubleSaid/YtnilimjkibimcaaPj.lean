import Derived.Test.YtnilimjkibimcaaPi

set_option linter.unusedSimpArgs false
set_option linter.unusedVariables false
namespace Go.Proofs.Ytnilimjkibimcaa
open Go.Zz

/-! ### The kernel is the lattice of all rows with products zero -/
def lsum (f : Nat → Int) : List Nat → Int
  | [] => 0
  | x :: l => f x + lsum f l
theorem lsum_perm {f : Nat → Int} {a b : List Nat} (h : a.Perm b) : lsum f a = lsum f b := by
  induction h with
  | nil => rfl
  | cons x _ ih => exact congrArg (f x + ·) ih
  | swap x y l => show f y + (f x + lsum f l) = f x + (f y + lsum f l); omega
  | trans _ _ h1 h2 => exact h1.trans h2
theorem lsum_app (f : Nat → Int) (b : List Nat) : ∀ a, lsum f (a ++ b) = lsum f a + lsum f b
  | [] => (Int.zero_add _).symm
  | x :: a => by
    show f x + lsum f (a ++ b) = f x + lsum f a + lsum f b
    rw [lsum_app f b a, Int.add_assoc]
theorem lsum_psum (f : Nat → Int) : ∀ l, lsum f l = psumF (fun k => f (l.getD k 0)) l.length
  | [] => rfl
  | x :: l => by
    show f x + lsum f l = _
    rw [lsum_psum f l, List.length_cons, psumF_left]
    rfl
theorem psumF_range (f : Nat → Int) : ∀ n, psumF f n = lsum f (List.range n)
  | 0 => rfl
  | n + 1 => by
    rw [List.range_succ, lsum_app, ← psumF_range f n]
    show psumF f n + f n = psumF f n + (f n + 0)
    rw [Int.add_zero]
/-- Columns taken apart: those of the frame, and the free ones. -/
theorem col_split {js : List Nat} (hj : okJ js) (f : Nat → Int) : psumF f 6 = psumF (fun k => f (js.getD k 0)) js.length + psumF (fun t => f ((freeF js).getD t 0)) (freeF js).length := by
  rw [psumF_range, ← lsum_psum, ← lsum_psum, ← lsum_app]
  apply lsum_perm
  refine (List.perm_ext_iff_of_nodup (by decide) ?_).2 fun x => ?_
  · rw [List.nodup_append]
    exact ⟨hj.1, free_nodup _, fun a ha b hb e => (free_mem.1 hb).2 (e ▸ ha)⟩
  · rw [List.mem_append, free_mem, List.mem_range]
    constructor
    · intro h
      by_cases hx : x ∈ js
      · exact .inl hx
      · exact .inr ⟨h, hx⟩
    · rintro (h | h)
      · exact hj.2 x h
      · exact h.1
def KerP (e : Nat → Nat → Int) (m : Nat) (y : Nat → Int) : Prop := ∀ i, i < m → psumF (fun j => e i j * y j) 6 = 0
/-- The conditions of a frame. -/
theorem ker_frame {rows : List (List Int)} {S : Fr} (hB : FrB rows S) (hC : Crm rows S) (y : Nat → Int) : KerP (ent rows) rows.length y ↔ ∀ l, l < S.js.length → psumF (fun j => minorF (ent rows) S.is (S.js.set l j) * y j) 6 = 0 := by
  constructor
  · intro h l hl
    have e1 : psumF (fun j => minorF (ent rows) S.is (S.js.set l j) * y j) 6 = psumF (fun j => psumF (fun t => cof (ent rows) S.is S.js l t * (ent rows (S.is.getD t 0) j * y j)) S.is.length) 6 := psumF_congr fun j _ => by
      rw [rep_lin hB.len hl j, Int.mul_comm, ← psumF_mul]
      exact psumF_congr fun t _ => by grind
    rw [e1, psumF_comm, ← psumF_zero S.is.length]
    refine psumF_congr fun t ht => ?_
    rw [psumF_mul, h _ (hB.i _ (by
      rw [List.getD_eq_getElem?_getD, List.getElem?_eq_getElem ht]
      exact List.getElem_mem ht)), Int.mul_zero]
  · intro h i hi
    apply Int.eq_of_mul_eq_mul_left hB.ne
    rw [Int.mul_zero, ← psumF_mul]
    have e1 : psumF (fun j => S.d * (ent rows i j * y j)) 6 = psumF (fun j => psumF (fun l => ent rows i (S.js.getD l 0) * (minorF (ent rows) S.is (S.js.set l j) * y j)) S.js.length) 6 := psumF_congr fun j hj => by
      rw [← Int.mul_assoc, hC.eq i j hi hj, Int.mul_comm, ← psumF_mul]
      exact psumF_congr fun t _ => by grind
    rw [e1, psumF_comm, ← psumF_zero S.js.length]
    refine psumF_congr fun l hl => ?_
    rw [psumF_mul, h l hl, Int.mul_zero]
theorem frame_sum {rows : List (List Int)} {S : Fr} (hB : FrB rows S) (y : Nat → Int) {l : Nat} (hl : l < S.js.length) : psumF (fun j => minorF (ent rows) S.is (S.js.set l j) * y j) 6 = S.d * y (S.js.getD l 0) + sigF (fun t => (tabF rows S l).getD t 0) (fun t => y ((freeF S.js).getD t 0)) (freeF S.js).length := by
  rw [col_split hB.j]
  congr 1
  · rw [psumF_one (k := l) hl fun t ht hne => by rw [rep_diag hB.len hl ht, if_neg (Ne.symm hne), Int.zero_mul], rep_diag hB.len hl hl, if_pos rfl, hB.d]
  · unfold sigF
    exact psumF_congr fun t ht => by simp only [tab_at ht]
structure KerL (rows H : List (List Int)) (p : List Nat) : Prop where
  len : H.length = p.length
  six : ∀ r ∈ H, r.length = 6
  hf : HF 6 (ent H) p.length fun i => p.getD i 0
  sp : ∀ g, RowL (ent H) H.length g ↔ KerP (ent rows) rows.length g
theorem bwd_sorted (rows : List (List Int)) : (bwdF rows).js.Pairwise (· > ·) := by
  have h := (frame_dep (rows := rows) (ord := [5, 4, 3, 2, 1, 0]) (k := 6) (Nat.le_refl _)).1.sub
  exact List.Pairwise.sublist h (by decide)
theorem free_sorted (js : List Nat) : (freeF js).Pairwise (· < ·) := List.Pairwise.sublist List.filter_sublist (by decide)
theorem KerP.closed {e : Nat → Nat → Int} {m : Nat} {S : (Nat → Int) → Prop} (hS : ∀ g, S g → KerP e m g) {y : Nat → Int} (h : Sp 6 S y) : KerP e m y := by
  induction h with
  | gen hg => exact hS _ hg
  | zero hz => exact fun i hi => sig_zero (e i) _ 6 hz
  | add _ _ he i1 i2 =>
    intro i hi
    have h1 := sig_add (e i) _ _ _ 6 he
    have h2 := i1 i hi
    have h3 := i2 i hi
    unfold sigF at h1
    rw [h1, h2, h3]
    rfl
  | neg _ he i1 =>
    intro i hi
    have h1 := sig_neg (e i) _ _ 6 he
    have h2 := i1 i hi
    unfold sigF at h1
    rw [h1, h2]
    rfl
theorem kerR_at {rows : List (List Int)} {S : Fr} {x : List Int} {j : Nat} (hj : j < 6) : (kerR rows S x).getD j 0 = kerE rows S x j := by
  simp [kerR, List.getD_eq_getElem?_getD, hj]
theorem ker_lat {rows : List (List Int)} (hv : VM rows) (h6 : ∀ i, i < rows.length → (rw_ rows i).length = 6) : KerL rows (kerF rows) (freeF (bwdF rows).js) := by
  have hB := bwd_B hv h6
  have hC := bwd_crm rows
  have hX := kerX_KL hB (bwdF rows).js.length
  have hso := bwd_sorted rows
  have htri := fun {j k : Nat} => bwd_tri (rows := rows) (j := j) (k := k)
  have hlen := hX.lb.len
  unfold kerF
  generalize bwdF rows = S at *
  generalize kerX rows S S.js.length = X at *
  have hfs := free_sorted S.js
  have hfree : ∀ x t, t < (freeF S.js).length → (kerR rows S x).getD ((freeF S.js).getD t 0) 0 = x.getD t 0 := fun x t ht => by
    have h6 := (free_mem.1 (getD_mem ht)).1
    have e : (kerR rows S x).getD ((freeF S.js).getD t 0) 0 = kerE rows S x ((freeF S.js).getD t 0) := kerR_at h6
    rw [e, kerE_free ht]
  have hdep : ∀ x l, l < S.js.length → (∃ y, sigF (fun t => (tabF rows S l).getD t 0) (fun t => x.getD t 0) (freeF S.js).length = absI S.d * y) → S.d * (kerR rows S x).getD (S.js.getD l 0) 0 = -sigF (fun t => (tabF rows S l).getD t 0) (fun t => x.getD t 0) (freeF S.js).length := fun x l hl hy => by
    have h6 := hB.j.at hl
    have e : (kerR rows S x).getD (S.js.getD l 0) 0 = kerE rows S x (S.js.getD l 0) := kerR_at h6
    rw [e, kerE_js hB.j.1 hl]
    have e2 : sumK rows S x l (freeF S.js).length = sigF (fun t => (tabF rows S l).getD t 0) (fun t => x.getD t 0) (freeF S.js).length := rfl
    rw [e2]
    obtain ⟨y, hy⟩ := hy
    have hs : ∃ s : Int, -sigF (fun t => (tabF rows S l).getD t 0) (fun t => x.getD t 0) (freeF S.js).length = S.d * s := by
      rw [hy]
      unfold absI
      split
      · exact ⟨y, by grind⟩
      · exact ⟨-y, by grind⟩
    obtain ⟨s, hs⟩ := hs
    rw [hs, Int.mul_tdiv_cancel_left _ hB.ne]
  have hcond : ∀ i, i < X.length → ∀ l, l < S.js.length → ∃ y, sigF (fun t => (tabF rows S l).getD t 0) (ent X i) (freeF S.js).length = absI S.d * y := fun i hi => (hX.sp _).1 (Sp.row (by omega))
  have hker : ∀ i, i < X.length → KerP (ent rows) rows.length (ent (X.map (kerR rows S)) i) := fun i hi => by
    refine (ker_frame hB hC _).2 fun l hl => ?_
    rw [frame_sum hB _ hl, map_ent hi, hdep (X.getD i []) l hl (hcond i hi l hl)]
    have e : sigF (fun t => (tabF rows S l).getD t 0) (fun t => ent (X.map (kerR rows S)) i ((freeF S.js).getD t 0)) (freeF S.js).length = sigF (fun t => (tabF rows S l).getD t 0) (fun t => (X.getD i []).getD t 0) (freeF S.js).length := by
      unfold sigF
      exact psumF_congr fun t ht => by simp only [map_ent hi, hfree _ t ht]
    rw [e]
    omega
  have hpiv : ∀ i, i < X.length → ∀ t, t < (freeF S.js).length → ent (X.map (kerR rows S)) i ((freeF S.js).getD t 0) = ent X i t := fun i hi t ht => by
    rw [map_ent hi, hfree _ t ht]
    rfl
  refine ⟨by rw [List.length_map]; exact hlen, kerR_six, ⟨⟨fun i hi => (free_mem.1 (getD_mem hi)).1, fun i k h1 h2 => sorted_at hfs h1 h2, fun i hi => ?_, fun i hi j hj => ?_⟩, fun i k hik hk => ?_⟩, fun g => ⟨fun hg => KerP.closed (fun g hg => ?_) hg, fun hg => ?_⟩⟩
  · show 0 < ent (X.map (kerR rows S)) i ((freeF S.js).getD i 0)
    rw [hpiv i (by omega) i hi]
    exact hX.lb.diag i hi
  · have hjf : j < (freeF S.js).getD i 0 := hj
    have hj6 : j < 6 := by have := (free_mem.1 (getD_mem hi)).1; omega
    by_cases hjs : j ∈ S.js
    · obtain ⟨l, hl, rfl⟩ := List.mem_iff_getElem.1 hjs
      have e2 : S.js[l] = S.js.getD l 0 := by simp [List.getD_eq_getElem?_getD, hl]
      rw [e2] at hjf ⊢
      have h1 := hdep (X.getD i []) l hl (hcond i (by omega) l hl)
      have h0 : sigF (fun t => (tabF rows S l).getD t 0) (fun t => (X.getD i []).getD t 0) (freeF S.js).length = 0 := by
        unfold sigF
        refine (psumF_congr (g := fun _ => 0) fun t ht => ?_).trans (psumF_zero _)
        by_cases hti : t < i
        · have : (X.getD i []).getD t 0 = 0 := hX.hf.zero i hi t hti
          simp only [this, Int.mul_zero]
        · have hlt : S.js.getD l 0 < (freeF S.js).getD t 0 := by
            by_cases e : t = i
            · subst e; exact hjf
            · have := sorted_at hfs (show i < t by omega) ht; omega
          simp only [tab_at ht, htri hl hlt (free_mem.1 (getD_mem ht)).1, Int.zero_mul]
      rw [h0] at h1
      rw [map_ent (by omega)]
      rcases Int.mul_eq_zero.1 h1 with h | h
      · exact absurd h hB.ne
      · exact h
    · have hf : j ∈ freeF S.js := free_mem.2 ⟨hj6, hjs⟩
      obtain ⟨t, ht, rfl⟩ := List.mem_iff_getElem.1 hf
      have e2 : (freeF S.js)[t] = (freeF S.js).getD t 0 := by simp [List.getD_eq_getElem?_getD, ht]
      rw [e2] at hjf ⊢
      rw [hpiv i (by omega) t ht]
      refine hX.hf.zero i hi t ?_
      show t < i
      apply Decidable.byContradiction
      intro hge
      by_cases e : t = i
      · subst e; omega
      · have := sorted_at hfs (show i < t by omega) ht
        omega
  · show 0 ≤ ent (X.map (kerR rows S)) i ((freeF S.js).getD k 0) ∧ ent (X.map (kerR rows S)) i ((freeF S.js).getD k 0) < ent (X.map (kerR rows S)) k ((freeF S.js).getD k 0)
    rw [hpiv i (by omega) k hk, hpiv k (by omega) k hk]
    exact hX.hf.red i k hik hk
  · obtain ⟨i, hi, rfl⟩ := hg
    rw [List.length_map] at hi
    exact hker i hi
  · have h1 := (ker_frame hB hC g).1 hg
    have h2 : ∀ l, l < S.js.length → S.d * g (S.js.getD l 0) = -sigF (fun t => (tabF rows S l).getD t 0) (fun t => g ((freeF S.js).getD t 0)) (freeF S.js).length := fun l hl => by
      have := h1 l hl
      rw [frame_sum hB g hl] at this
      omega
    have h3 : Sp (freeF S.js).length (rowsP (ent X) (freeF S.js).length) fun t => g ((freeF S.js).getD t 0) := by
      refine (hX.sp _).2 fun l hl => ?_
      have := h2 l hl
      unfold absI
      split
      · exact ⟨g (S.js.getD l 0), by grind⟩
      · exact ⟨-g (S.js.getD l 0), by grind⟩
    obtain ⟨c, hc⟩ := h3.coef
    rw [List.length_map, hlen]
    -- the difference is in the kernel and vanishes at the free columns
    have hcomb : KerP (ent rows) rows.length fun j => psumF (fun i => c i * ent (X.map (kerR rows S)) i j) (freeF S.js).length := by
      refine KerP.closed (S := rowsP (ent (X.map (kerR rows S))) (freeF S.js).length) ?_ (Sp.of_coef (c := c) fun _ _ => rfl)
      rintro g ⟨i, hi, rfl⟩
      exact hker i (by omega)
    have h4 := (ker_frame hB hC _).1 hcomb
    refine Sp.of_coef (c := c) fun j hj => ?_
    have hfr : ∀ t, t < (freeF S.js).length → psumF (fun i => c i * ent (X.map (kerR rows S)) i ((freeF S.js).getD t 0)) (freeF S.js).length = g ((freeF S.js).getD t 0) := fun t ht => by
      rw [hc t ht]
      exact psumF_congr fun i hi => by rw [hpiv i (by omega) t ht]
    by_cases hjs : j ∈ S.js
    · obtain ⟨l, hl, rfl⟩ := List.mem_iff_getElem.1 hjs
      have e2 : S.js[l] = S.js.getD l 0 := by simp [List.getD_eq_getElem?_getD, hl]
      rw [e2]
      have h5 := h4 l hl
      rw [frame_sum hB _ hl] at h5
      have e3 : sigF (fun t => (tabF rows S l).getD t 0) (fun t => psumF (fun i => c i * ent (X.map (kerR rows S)) i ((freeF S.js).getD t 0)) (freeF S.js).length) (freeF S.js).length = sigF (fun t => (tabF rows S l).getD t 0) (fun t => g ((freeF S.js).getD t 0)) (freeF S.js).length := by
        unfold sigF
        exact psumF_congr fun t ht => by simp only [hfr t ht]
      rw [e3] at h5
      apply Int.eq_of_mul_eq_mul_left hB.ne
      rw [h2 l hl]
      omega
    · have hf : j ∈ freeF S.js := free_mem.2 ⟨hj, hjs⟩
      obtain ⟨t, ht, rfl⟩ := List.mem_iff_getElem.1 hf
      have e2 : (freeF S.js)[t] = (freeF S.js).getD t 0 := by simp [List.getD_eq_getElem?_getD, ht]
      rw [e2]
      exact (hfr t ht).symm
end Go.Proofs.Ytnilimjkibimcaa

