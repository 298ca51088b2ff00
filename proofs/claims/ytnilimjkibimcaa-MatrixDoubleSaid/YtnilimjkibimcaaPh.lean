import Derived.Test.YtnilimjkibimcaaPg

set_option linter.unusedSimpArgs false
set_option linter.unusedVariables false
namespace Go.Proofs.Ytnilimjkibimcaa
open Go.Zz

/-! ### The Hermite form has the lattice of the rows -/
def liftS (rows : List (List Int)) (S : Fr) (x : Nat → Int) (j : Nat) : Int := psumF (fun k => x k * minorF (ent rows) S.is (S.js.set k j)) S.js.length
abbrev RowL (e : Nat → Nat → Int) (m : Nat) (g : Nat → Int) : Prop := Sp 6 (rowsP e m) g
theorem rep_in {rows : List (List Int)} {S : Fr} (hB : FrB rows S) {k : Nat} (hk : k < S.js.length) : RowL (ent rows) rows.length fun j => minorF (ent rows) S.is (S.js.set k j) := by
  refine Sp.sum (f := fun t => ent rows (S.is.getD t 0)) (c := fun t => cof (ent rows) S.is S.js k t) (m := S.is.length) (fun t ht => Sp.row (hB.i _ ?_)) fun j _ => rep_lin hB.len hk j
  rw [List.getD_eq_getElem?_getD, List.getElem?_eq_getElem ht]
  exact List.getElem_mem ht
theorem lift_in {rows : List (List Int)} {S : Fr} (hB : FrB rows S) (hC : Crm rows S) {x : Nat → Int} (h : Sp S.js.length (LG S.js.length (absI S.d) (resE rows S.js) rows.length) x) : ∃ w, RowL (ent rows) rows.length w ∧ ∀ j, j < 6 → liftS rows S x j = S.d * w j := by
  induction h with
  | gen hg =>
    rcases hg with ⟨l, hl, rfl⟩ | ⟨k, hk, rfl⟩
    · have hs : ∃ s : Int, absI S.d = S.d * s := by
        unfold absI
        split
        · exact ⟨-1, by omega⟩
        · exact ⟨1, by omega⟩
      obtain ⟨s, hs⟩ := hs
      refine ⟨_, (rep_in hB hl).smul s (u := fun j => s * minorF (ent rows) S.is (S.js.set l j)) fun _ _ => rfl, fun j hj => ?_⟩
      unfold liftS
      rw [psumF_one (k := l) hl fun t ht hne => by
        show unitV (absI S.d) l t * _ = 0
        rw [show unitV (absI S.d) l t = 0 from if_neg hne, Int.zero_mul]]
      show (if l = l then absI S.d else 0) * _ = _
      rw [if_pos rfl, hs, Int.mul_assoc]
    · refine ⟨_, Sp.row hk, fun j hj => ?_⟩
      rw [hC.eq k j hk hj]
      unfold liftS resE
      exact psumF_congr fun l _ => Int.mul_comm _ _
  | zero hz =>
    refine ⟨fun _ => 0, .zero fun _ _ => rfl, fun j _ => ?_⟩
    unfold liftS
    rw [Int.mul_zero, ← psumF_zero S.js.length]
    exact psumF_congr fun l hl => by rw [hz l hl, Int.zero_mul]
  | add _ _ he i1 i2 =>
    obtain ⟨w1, a1, b1⟩ := i1
    obtain ⟨w2, a2, b2⟩ := i2
    refine ⟨fun j => w1 j + w2 j, .add a1 a2 fun _ _ => rfl, fun j hj => ?_⟩
    rw [Int.mul_add, ← b1 j hj, ← b2 j hj]
    unfold liftS
    rw [← psumF_add]
    exact psumF_congr fun l hl => by rw [he l hl, Int.add_mul]
  | neg _ he i1 =>
    obtain ⟨w1, a1, b1⟩ := i1
    refine ⟨fun j => -w1 j, .neg a1 fun _ _ => rfl, fun j hj => ?_⟩
    rw [Int.mul_neg, ← b1 j hj]
    unfold liftS
    rw [← psumF_neg]
    exact psumF_congr fun l hl => by rw [he l hl, Int.neg_mul]
theorem okJ.at {js : List Nat} (h : okJ js) {k : Nat} (hk : k < js.length) : js.getD k 0 < 6 := by
  rw [List.getD_eq_getElem?_getD, List.getElem?_eq_getElem hk]
  exact h.2 _ (List.getElem_mem hk)
theorem row_back {rows : List (List Int)} {S : Fr} (hB : FrB rows S) (hC : Crm rows S) {w : Nat → Int} (h : RowL (ent rows) rows.length w) : Sp S.js.length (LG S.js.length (absI S.d) (resE rows S.js) rows.length) (fun k => w (S.js.getD k 0)) ∧ ∀ j, j < 6 → liftS rows S (fun k => w (S.js.getD k 0)) j = S.d * w j := by
  induction h with
  | gen hg =>
    obtain ⟨k, hk, rfl⟩ := hg
    refine ⟨.gen (.inr ⟨k, hk, rfl⟩), fun j hj => ?_⟩
    rw [hC.eq k j hk hj]
    unfold liftS
    exact psumF_congr fun l _ => Int.mul_comm _ _
  | zero hz =>
    refine ⟨.zero fun k hk => hz _ (hB.j.at hk), fun j hj => ?_⟩
    rw [hz j hj]
    unfold liftS
    rw [Int.mul_zero, ← psumF_zero S.js.length]
    exact psumF_congr fun l hl => by simp only [hz _ (hB.j.at hl), Int.zero_mul]
  | add _ _ he i1 i2 =>
    refine ⟨.add i1.1 i2.1 fun k hk => he _ (hB.j.at hk), fun j hj => ?_⟩
    rw [he j hj, Int.mul_add, ← i1.2 j hj, ← i2.2 j hj]
    unfold liftS
    rw [← psumF_add]
    exact psumF_congr fun l hl => by simp only [he _ (hB.j.at hl), Int.add_mul]
  | neg _ he i1 =>
    refine ⟨.neg i1.1 fun k hk => he _ (hB.j.at hk), fun j hj => ?_⟩
    rw [he j hj, Int.mul_neg, ← i1.2 j hj]
    unfold liftS
    rw [← psumF_neg]
    exact psumF_congr fun l hl => by simp only [he _ (hB.j.at hl), Int.neg_mul]
theorem map_ent {X : List (List Int)} {f : List Int → List Int} {i j : Nat} (hi : i < X.length) : ent (X.map f) i j = (f (X.getD i [])).getD j 0 := by
  unfold ent rw_
  simp [List.getD_eq_getElem?_getD, hi]
theorem outR_at {rows : List (List Int)} {S : Fr} {x : List Int} {j : Nat} (hj : j < 6) : (outR rows S x).getD j 0 = outE rows S x j := by
  simp [outR, List.getD_eq_getElem?_getD, hj]
structure HermL (rows H : List (List Int)) (p : List Nat) : Prop where
  len : H.length = p.length
  six : ∀ r ∈ H, r.length = 6
  hf : HF 6 (ent H) p.length fun i => p.getD i 0
  sp : ∀ g, RowL (ent H) H.length g ↔ RowL (ent rows) rows.length g
theorem sorted_at {l : List Nat} (h : l.Pairwise (· < ·)) {i k : Nat} (hik : i < k) (hk : k < l.length) : l.getD i 0 < l.getD k 0 := by
  rw [List.getD_eq_getElem?_getD, List.getD_eq_getElem?_getD, List.getElem?_eq_getElem hk, List.getElem?_eq_getElem (by omega)]
  exact List.pairwise_iff_getElem.1 h i k (by omega) hk hik
theorem fwd_sorted (rows : List (List Int)) : (fwdF rows).js.Pairwise (· < ·) := by
  have h := (frame_dep (rows := rows) (ord := [0, 1, 2, 3, 4, 5]) (k := 6) (Nat.le_refl _)).1.sub
  exact List.Pairwise.sublist h (by decide)
theorem herm_lat {rows : List (List Int)} (hv : VM rows) (h6 : ∀ i, i < rows.length → (rw_ rows i).length = 6) : HermL rows (hermF rows) (fwdF rows).js := by
  have hB := fwd_B hv h6
  have hC := fwd_crm rows
  have hX := hermX_HL hB hv.2.1
  have hso := fwd_sorted rows
  have htri := fun {j k : Nat} => fwd_tri (rows := rows) (j := j) (k := k)
  have hlen := hX.lb.len
  unfold hermF
  generalize fwdF rows = S at *
  generalize hermX rows S = X at *
  have hw : ∀ i, i < X.length → ∃ w, RowL (ent rows) rows.length w ∧ ∀ j, j < 6 → liftS rows S (ent X i) j = S.d * w j := fun i hi => lift_in hB hC ((hX.sp _).1 (Sp.row (by omega)))
  have he : ∀ i, i < X.length → ∀ j, j < 6 → liftS rows S (ent X i) j = S.d * ent (X.map (outR rows S)) i j := fun i hi j hj => by
    obtain ⟨w, h1, h2⟩ := hw i hi
    rw [map_ent hi, outR_at hj]
    have e : sumE rows S (X.getD i []) j S.js.length = liftS rows S (ent X i) j := rfl
    unfold outE
    rw [e, h2 j hj, Int.mul_tdiv_cancel_left _ hB.ne]
  have hin : ∀ i, i < X.length → RowL (ent rows) rows.length (ent (X.map (outR rows S)) i) := fun i hi => by
    obtain ⟨w, h1, h2⟩ := hw i hi
    refine h1.of_eq fun j hj => ?_
    have := he i hi j hj
    rw [h2 j hj] at this
    exact (Int.eq_of_mul_eq_mul_left hB.ne this).symm
  have hpiv : ∀ i, i < X.length → ∀ l, l < S.js.length → ent (X.map (outR rows S)) i (S.js.getD l 0) = ent X i l := fun i hi l hl => by
    have h1 := he i hi _ (hB.j.at hl)
    unfold liftS at h1
    rw [psumF_one (k := l) hl fun t ht hne => by rw [rep_diag hB.len ht hl, if_neg hne, Int.mul_zero], rep_diag hB.len hl hl, if_pos rfl, ← hB.d, Int.mul_comm] at h1
    exact (Int.eq_of_mul_eq_mul_left hB.ne h1).symm
  refine ⟨by rw [List.length_map]; exact hlen, mapR_six, ⟨⟨fun i hi => hB.j.at hi, fun i k h1 h2 => sorted_at hso h1 h2, fun i hi => ?_, fun i hi j hj => ?_⟩, fun i k hik hk => ?_⟩, fun g => ⟨fun hg => hg.mono ?_, fun hg => ?_⟩⟩
  · show 0 < ent (X.map (outR rows S)) i (S.js.getD i 0)
    rw [hpiv i (by omega) i hi]
    exact hX.lb.diag i hi
  · have hj6 : j < 6 := by have := hB.j.at hi; have : j < S.js.getD i 0 := hj; omega
    have h1 := he i (by omega) j hj6
    have h0 : liftS rows S (ent X i) j = 0 := by
      unfold liftS
      rw [← psumF_zero S.js.length]
      refine psumF_congr fun l hl => ?_
      by_cases hli : l < i
      · rw [hX.tri.zero i hi l hli, Int.zero_mul]
      · have hlt : j < S.js.getD l 0 := by
          have : j < S.js.getD i 0 := hj
          by_cases e : l = i
          · subst e; exact this
          · have := sorted_at hso (show i < l by omega) hl; omega
        rw [htri hl hlt hj6, Int.mul_zero]
    rw [h0] at h1
    rcases Int.mul_eq_zero.1 h1.symm with h | h
    · exact absurd h hB.ne
    · exact h
  · show 0 ≤ ent (X.map (outR rows S)) i (S.js.getD k 0) ∧ ent (X.map (outR rows S)) i (S.js.getD k 0) < ent (X.map (outR rows S)) k (S.js.getD k 0)
    rw [hpiv i (by omega) k hk, hpiv k (by omega) k hk]
    exact hX.hf.red i k hik hk
  · rintro g ⟨i, hi, rfl⟩
    rw [List.length_map] at hi
    exact hin i hi
  · obtain ⟨h1, h2⟩ := row_back hB hC hg
    obtain ⟨c, hc⟩ := ((hX.sp _).2 h1).coef
    rw [List.length_map, hlen]
    refine Sp.of_coef (c := c) fun j hj => ?_
    apply Int.eq_of_mul_eq_mul_left hB.ne
    rw [← h2 j hj, ← psumF_mul]
    have e1 : psumF (fun i => S.d * (c i * ent (X.map (outR rows S)) i j)) S.js.length = psumF (fun i => psumF (fun l => c i * ent X i l * minorF (ent rows) S.is (S.js.set l j)) S.js.length) S.js.length := psumF_congr fun i hi => by
      have := he i (by omega) j hj
      have e : S.d * (c i * ent (X.map (outR rows S)) i j) = c i * (S.d * ent (X.map (outR rows S)) i j) := by grind
      rw [e, ← this]
      unfold liftS
      rw [← psumF_mul]
      exact psumF_congr fun l _ => (Int.mul_assoc _ _ _).symm
    rw [e1, psumF_comm]
    unfold liftS
    refine psumF_congr fun l hl => ?_
    show g (S.js.getD l 0) * _ = _
    rw [hc l hl, Int.mul_comm, ← psumF_mul]
    exact psumF_congr fun i _ => Int.mul_comm _ _
end Go.Proofs.Ytnilimjkibimcaa

