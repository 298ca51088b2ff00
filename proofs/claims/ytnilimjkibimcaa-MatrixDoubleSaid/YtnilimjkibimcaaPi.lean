import Derived.Test.YtnilimjkibimcaaPh

set_option linter.unusedSimpArgs false
set_option linter.unusedVariables false
namespace Go.Proofs.Ytnilimjkibimcaa
open Go.Zz

/-! ### The kernel: what is narrowed -/
def sigF (c : Nat → Int) (x : Nat → Int) (n : Nat) : Int := psumF (fun t => c t * x t) n
theorem sig_add (c x y z : Nat → Int) (n : Nat) (h : ∀ j, j < n → z j = x j + y j) : sigF c z n = sigF c x n + sigF c y n := by
  unfold sigF
  rw [← psumF_add]
  exact psumF_congr fun t ht => by simp only [h t ht, Int.mul_add]
theorem sig_neg (c x z : Nat → Int) (n : Nat) (h : ∀ j, j < n → z j = -x j) : sigF c z n = -sigF c x n := by
  unfold sigF
  rw [← psumF_neg]
  exact psumF_congr fun t ht => by simp only [h t ht, Int.mul_neg]
theorem sig_zero (c z : Nat → Int) (n : Nat) (h : ∀ j, j < n → z j = 0) : sigF c z n = 0 := by
  unfold sigF
  rw [← psumF_zero n]
  exact psumF_congr fun t ht => by simp only [h t ht, Int.mul_zero]
theorem sig_unit (c : Nat → Int) (d : Int) {n j : Nat} (hj : j < n) : sigF c (unitV d j) n = c j * d := by
  unfold sigF
  rw [psumF_one (k := j) hj fun t _ hne => by
    show c t * unitV d j t = 0
    rw [show unitV d j t = 0 from if_neg hne, Int.mul_zero]]
  show c j * (if j = j then d else 0) = _
  rw [if_pos rfl]
theorem sumN_mod {c x : List Int} {d : Int} : ∀ k, ∃ y, sumN c x d k = sigF (fun t => c.getD t 0) (fun t => x.getD t 0) k + d * y
  | 0 => ⟨0, by simp [sumN, sigF, psumF]⟩
  | k + 1 => by
    obtain ⟨y, hy⟩ := sumN_mod (c := c) (x := x) (d := d) k
    obtain ⟨y1, h1⟩ := mod_diff (c.getD k 0) d
    obtain ⟨y2, h2⟩ := mod_diff (x.getD k 0) d
    obtain ⟨y3, h3⟩ := mod_diff (sumN c x d k + c.getD k 0 % d * (x.getD k 0 % d)) d
    have e : sigF (fun t => c.getD t 0) (fun t => x.getD t 0) (k + 1) = sigF (fun t => c.getD t 0) (fun t => x.getD t 0) k + c.getD k 0 * x.getD k 0 := rfl
    refine ⟨y + y1 * x.getD k 0 + c.getD k 0 * y2 + d * y1 * y2 + y3, ?_⟩
    show (sumN c x d k + c.getD k 0 % d * (x.getD k 0 % d)) % d = _
    rw [h3, hy, h1, h2, e]
    grind
/-- A lattice given by conditions. -/
structure KL (n : Nat) (d : Int) (P : (Nat → Int) → Prop) (X : List (List Int)) : Prop where
  lb : LB X n d
  hf : HF n (ent X) n id
  full : Full (ent X) n d
  sp : ∀ g, Sp n (rowsP (ent X) n) g ↔ P g
theorem behind_sp {W : List (List Int)} {s : Nat} {d : Int} (hW : LB W (s + 1) d) (hT : Tri (ent W) (s + 1)) (y : Nat → Int) : Sp s (rowsP (ent (behind W)) s) y ↔ Sp (s + 1) (rowsP (ent W) (s + 1)) (fun j => if j = 0 then 0 else y (j - 1)) := by
  have hl := hW.len
  constructor
  · intro h
    induction h with
    | gen hg =>
      obtain ⟨k, hk, rfl⟩ := hg
      refine Sp.of_eq (Sp.row (show k + 1 < s + 1 by omega)) fun j hj => ?_
      by_cases e : j = 0
      · subst e
        rw [if_pos rfl]
        exact (hT.zero (k + 1) (by omega) 0 (show 0 < k + 1 by omega)).symm
      · rw [if_neg e, behind_ent (by omega)]
        congr 1
        omega
    | zero hz =>
      exact .zero fun j hj => by
        split
        · rfl
        · exact hz _ (by omega)
    | add _ _ he i1 i2 =>
      exact .add i1 i2 fun j hj => by
        by_cases e : j = 0
        · simp only [e, if_pos]; rfl
        · simp only [e, if_false]; exact he _ (by omega)
    | neg _ he i1 =>
      exact .neg i1 fun j hj => by
        by_cases e : j = 0
        · simp only [e, if_pos]; rfl
        · simp only [e, if_false]; exact he _ (by omega)
  · intro h
    have h1 := hT.gt_of (i := 0) h fun j hj _ => if_pos (by omega)
    have key : ∀ {v : Nat → Int}, Sp (s + 1) (gtP (ent W) 0 (s + 1)) v → Sp s (rowsP (ent (behind W)) s) fun j => v (j + 1) := by
      intro v hv
      induction hv with
      | gen hg =>
        obtain ⟨k, h1, h2, rfl⟩ := hg
        refine Sp.of_eq (Sp.row (show k - 1 < s by omega)) fun j hj => ?_
        rw [behind_ent (by omega)]
        congr 1
        omega
      | zero hz => exact .zero fun j hj => hz _ (by omega)
      | add _ _ he i1 i2 => exact .add i1 i2 fun j hj => he _ (by omega)
      | neg _ he i1 => exact .neg i1 fun j hj => he _ (by omega)
    exact (key h1).of_eq fun j hj => by
      show y j = if j + 1 = 0 then 0 else y (j + 1 - 1)
      rw [if_neg (by omega), Nat.add_sub_cancel]
theorem nar_KL {X c : List (List Int)} {d : Int} {s : Nat} {P : (Nat → Int) → Prop} {cc : List Int} (hd : 0 < d) (hd9 : d ≤ 1000000000) (h : KL s d P X) : KL s d (fun g => P g ∧ ∃ y, sigF (fun t => cc.getD t 0) g s = d * y) (behind (narW X cc d s)) := by
  have hW := narW_HL (c := cc) hd hd9 h.lb
  have hl := hW.lb.len
  have hX := h.lb.len
  have hsp : ∀ g, Sp s (rowsP (ent (behind (narW X cc d s))) s) g ↔ P g ∧ ∃ y, sigF (fun t => cc.getD t 0) g s = d * y := by
    intro g
    rw [behind_sp hW.lb hW.tri, hW.sp, ← h.sp]
    constructor
    · intro hg
      have key : ∀ {v : Nat → Int}, Sp (s + 1) (LG (s + 1) d (fun k j => (narV X cc d s k).getD j 0) s) v → Sp s (rowsP (ent X) s) (fun j => v (j + 1)) ∧ ∃ y, sigF (fun t => cc.getD t 0) (fun j => v (j + 1)) s = v 0 + d * y := by
        intro v hv
        induction hv with
        | gen hg =>
          rcases hg with ⟨j, hj, rfl⟩ | ⟨k, hk, rfl⟩
          · cases j with
            | zero =>
              have e : ∀ j, unitV d 0 (j + 1) = 0 := fun j => if_neg (by omega)
              exact ⟨.zero fun j _ => e j, -1, by
                rw [sig_zero _ _ _ fun j _ => e j]
                show 0 = (if 0 = 0 then d else 0) + d * -1
                rw [if_pos rfl]
                omega⟩
            | succ j =>
              have e : (fun t => unitV d (j + 1) (t + 1)) = unitV d j := by
                funext t
                unfold unitV
                by_cases ht : t = j
                · rw [if_pos (by omega), if_pos ht]
                · rw [if_neg (by omega), if_neg ht]
              rw [e]
              exact ⟨h.full j (by omega), cc.getD j 0, by
                rw [sig_unit _ _ (by omega)]
                show _ = (if 0 = j + 1 then d else 0) + _
                rw [if_neg (by omega), Int.zero_add, Int.mul_comm]⟩
          · have e : (fun j => (narV X cc d s k).getD (j + 1) 0) = ent X k := rfl
            rw [e]
            refine ⟨Sp.row hk, ?_⟩
            obtain ⟨y, hy⟩ := sumN_mod (c := cc) (x := X.getD k []) (d := d) s
            refine ⟨-y, ?_⟩
            show sigF (fun t => cc.getD t 0) (fun t => (X.getD k []).getD t 0) s = sumN cc (X.getD k []) d s + d * -y
            rw [hy, Int.mul_neg]
            omega
        | zero hz =>
          refine ⟨.zero fun j hj => hz _ (by omega), 0, ?_⟩
          rw [hz 0 (by omega), sig_zero _ _ _ fun j hj => hz (j + 1) (by omega)]
          simp
        | add _ _ he i1 i2 =>
          obtain ⟨a1, y1, b1⟩ := i1
          obtain ⟨a2, y2, b2⟩ := i2
          refine ⟨.add a1 a2 fun j hj => he _ (by omega), y1 + y2, ?_⟩
          rw [he 0 (by omega), sig_add _ _ _ _ s fun j hj => he (j + 1) (by omega), b1, b2]
          grind
        | neg _ he i1 =>
          obtain ⟨a1, y1, b1⟩ := i1
          refine ⟨.neg a1 fun j hj => he _ (by omega), -y1, ?_⟩
          rw [he 0 (by omega), sig_neg _ _ _ s fun j hj => he (j + 1) (by omega), b1]
          grind
      obtain ⟨a1, y, hy⟩ := key hg
      have e : (fun j => if j + 1 = 0 then 0 else g (j + 1 - 1)) = g := by
        funext j
        rw [if_neg (by omega), Nat.add_sub_cancel]
      rw [e] at a1 hy
      refine ⟨a1, y, ?_⟩
      rw [hy, if_pos rfl, Int.zero_add]
    · rintro ⟨hg, y, hy⟩
      have key : ∀ {v : Nat → Int}, Sp s (rowsP (ent X) s) v → Sp (s + 1) (LG (s + 1) d (fun k j => (narV X cc d s k).getD j 0) s) fun j => if j = 0 then sigF (fun t => cc.getD t 0) v s else v (j - 1) := by
        intro v hv
        induction hv with
        | gen hg =>
          obtain ⟨k, hk, rfl⟩ := hg
          obtain ⟨y, hy⟩ := sumN_mod (c := cc) (x := X.getD k []) (d := d) s
          refine Sp.sub (v := fun j => (narV X cc d s k).getD j 0) (w := fun j => y * unitV d 0 j) (.gen (.inr ⟨k, hk, rfl⟩)) (Sp.smul (.gen (.inl ⟨0, by omega, rfl⟩)) y fun _ _ => rfl) fun j hj => ?_
          cases j with
          | zero =>
            show sigF (fun t => cc.getD t 0) (ent X k) s = sumN cc (X.getD k []) d s - y * (if 0 = 0 then d else 0)
            rw [hy, if_pos rfl, Int.mul_comm y]
            show sigF (fun t => cc.getD t 0) (ent X k) s = sigF (fun t => cc.getD t 0) (ent X k) s + d * y - d * y
            omega
          | succ j =>
            show ent X k j = ent X k j - y * (if j + 1 = 0 then d else 0)
            rw [if_neg (by omega), Int.mul_zero, Int.sub_zero]
        | zero hz =>
          exact .zero fun j hj => by
            split
            · exact sig_zero _ _ _ hz
            · exact hz _ (by omega)
        | add _ _ he i1 i2 =>
          exact .add i1 i2 fun j hj => by
            by_cases e : j = 0
            · simp only [e, if_pos]; exact sig_add _ _ _ _ s he
            · simp only [e, if_false]; exact he _ (by omega)
        | neg _ he i1 =>
          exact .neg i1 fun j hj => by
            by_cases e : j = 0
            · simp only [e, if_pos]; exact sig_neg _ _ _ s he
            · simp only [e, if_false]; exact he _ (by omega)
      refine Sp.sub (key hg) (w := fun j => y * unitV d 0 j) (Sp.smul (.gen (.inl ⟨0, by omega, rfl⟩)) y fun _ _ => rfl) fun j hj => ?_
      by_cases e : j = 0
      · subst e
        show (if 0 = 0 then 0 else g (0 - 1)) = (if 0 = 0 then sigF (fun t => cc.getD t 0) g s else g (0 - 1)) - y * (if 0 = 0 then d else 0)
        rw [if_pos rfl, if_pos rfl, if_pos rfl, hy, Int.mul_comm y]
        omega
      · show (if j = 0 then 0 else g (j - 1)) = (if j = 0 then sigF (fun t => cc.getD t 0) g s else g (j - 1)) - y * (if j = 0 then d else 0)
        rw [if_neg e, if_neg e, if_neg e, Int.mul_zero, Int.sub_zero]
  have hb := fun (i j : Nat) (hi : i < s) => behind_ent (W := narW X cc d s) (i := i) (j := j) (by omega)
  refine ⟨hW.lb.behind, ⟨Tri.mk (fun i hi => ?_) fun i j hi hj => ?_, fun i k hik hk => ?_⟩, fun j hj => (hsp _).2 ⟨(h.sp _).1 (h.full j hj), cc.getD j 0, by rw [sig_unit _ _ hj, Int.mul_comm]⟩, hsp⟩
  · rw [hb i i hi]
    exact hW.lb.diag (i + 1) (by omega)
  · rw [hb i j hi]
    exact hW.tri.zero (i + 1) (by omega) (j + 1) (show j + 1 < i + 1 by omega)
  · show 0 ≤ ent (behind (narW X cc d s)) i k ∧ ent (behind (narW X cc d s)) i k < ent (behind (narW X cc d s)) k k
    rw [hb i k (by omega), hb k k hk]
    exact hW.hf.red (i + 1) (k + 1) (by omega) (by omega)
theorem kerX_KL {rows : List (List Int)} {S : Fr} (hB : FrB rows S) : ∀ k, KL (freeF S.js).length (absI S.d) (fun g => ∀ l, l < k → ∃ y, sigF (fun t => (tabF rows S l).getD t 0) g (freeF S.js).length = absI S.d * y) (kerX rows S k)
  | 0 => by
    have hlb := kerX_LB hB 0
    have h1 := LL.mult (n := (freeF S.js).length) (d := 1) (f := fun _ _ => 0) (by decide)
    have hall : ∀ g, Sp (freeF S.js).length (rowsP (ent (kerX rows S 0)) (freeF S.js).length) g := fun g => Sp.mults (d := 1) h1.full fun j hj => ⟨g j, by simp⟩
    refine ⟨hlb, ⟨h1.tri, fun i k hik hk => ?_⟩, fun j hj => hall _, fun g => ⟨fun _ l hl => by omega, fun _ => hall g⟩⟩
    show 0 ≤ ent (multF (freeF S.js).length (freeF S.js).length 1) i k ∧ ent (multF (freeF S.js).length (freeF S.js).length 1) i k < ent (multF (freeF S.js).length (freeF S.js).length 1) k k
    rw [mult_ent (by omega) hk, mult_ent hk hk]
    show 0 ≤ (if k = i then (1 : Int) else 0) ∧ (if k = i then (1 : Int) else 0) < if k = k then (1 : Int) else 0
    rw [if_neg (by omega), if_pos rfl]
    decide
  | k + 1 => by
    obtain ⟨h1, h2, h3, h4⟩ := nar_KL (c := []) (cc := tabF rows S k) hB.abs.1 hB.abs.2 (kerX_KL hB k)
    refine ⟨h1, h2, h3, fun g => (h4 g).trans ⟨fun ⟨a, b⟩ l hl => ?_, fun a => ⟨fun l hl => a l (by omega), a k (by omega)⟩⟩⟩
    by_cases e : l = k
    · subst e; exact b
    · exact a l (by omega)
end Go.Proofs.Ytnilimjkibimcaa

