import Derived.Test.YtndaljjljmmlcaaL16H

set_option linter.unusedSimpArgs false
set_option linter.unusedVariables false
namespace Go.Proofs.Ytndaljjljmmlcaa
open Go.Zz

/-! ### Readings, more readings, the same readings -/

/-- A step from a to b with w. -/
def Edg (rs : List Rg) (a b : Nat) (w : Int) : Prop := ∃ s, Num rs s ∧ (eOf rs s).a = a ∧ (eOf rs s).b = b ∧ (eOf rs s).w = w
def Sub (rs rs' : List Rg) : Prop := ∀ a b w, Edg rs a b w → Edg rs' a b w
theorem Sub.num {rs rs' : List Rg} (h : Sub rs rs') {s : Int} (hs : Num rs s) : ∃ s', Num rs' s' ∧ (eOf rs' s').a = (eOf rs s).a ∧ (eOf rs' s').b = (eOf rs s).b ∧ (eOf rs' s').w = (eOf rs s).w := h _ _ _ ⟨s, hs, rfl, rfl, rfl⟩
theorem Sub.pot {rs rs' : List Rg} (h : Sub rs rs') {p : Nat → Int} (hp : Pot rs' p) : Pot rs p := fun s hs => by
  obtain ⟨s', h1, h2, h3, h4⟩ := h.num hs
  have := hp s' h1
  rwa [h2, h3, h4] at this
/-- With more readings, what is known stays known, and gets no greater. -/
theorem Sub.sol {rs rs' : List Rg} (h : Sub rs rs') {i v : Nat} {K K' : Nat → Bool} {d d' : Nat → Int} (hs : Sol rs i K d) (hs' : Sol rs' i K' d') (hk : K v = true) : K' v = true ∧ d' v ≤ d v := by
  have := hs.best (fun u => K' u = true) d' hs'.self (fun s hn ha => by
    obtain ⟨s', h1, h2, h3, h4⟩ := h.num hn
    have := hs'.closed s' h1 (by rw [h2]; exact ha)
    rwa [h2, h3, h4] at this) v hk
  have hz := hs'.zero
  exact ⟨this.1, by omega⟩
theorem Sol.sub {rs rs' : List Rg} (h : Sub rs' rs) {i : Nat} {K : Nat → Bool} {d : Nat → Int} (hs : Sol rs i K d) (hc : ∀ s, Num rs s → True) (hb : ∀ (C : Nat → Prop) (p : Nat → Int), C i → (∀ s, Num rs' s → C (eOf rs' s).a → C (eOf rs' s).b ∧ p (eOf rs' s).b ≤ p (eOf rs' s).a + (eOf rs' s).w) → ∀ v, K v = true → C v ∧ p v - p i ≤ d v) : Sol rs' i K d :=
  ⟨hs.self, hs.zero, fun s hn ha => by
    obtain ⟨s', h1, h2, h3, h4⟩ := h.num hn
    have := hs.closed s' h1 (by rw [h2]; exact ha)
    rwa [h2, h3, h4] at this, hb⟩
theorem Sol.same {rs rs' : List Rg} (h1 : Sub rs rs') (h2 : Sub rs' rs) {i : Nat} {K : Nat → Bool} {d : Nat → Int} (hs : Sol rs i K d) : Sol rs' i K d :=
  hs.sub h2 (fun _ _ => trivial) fun C p hC hp v hv => hs.best C p hC (fun s hn ha => by
    obtain ⟨s', a1, a2, a3, a4⟩ := h1.num hn
    have := hp s' a1 (by rw [a2]; exact ha)
    rwa [a2, a3, a4] at this) v hv

/-- Two lists of readings with the same solutions. -/
structure Alike (rs rs' : List Rg) : Prop where
  sol : ∀ i K d, Sol rs i K d → Sol rs' i K d
  pot : ∀ p, Pot rs p → Pot rs' p
theorem Firstly.lt {n : Int} {rs : List Rg} (hv : VL n rs) {v f : Nat} {y : Int} (h : Firstly rs v f y) (hsol : ∃ X : Bf.S, Sol rs v X.known X.far) : f ≤ v := by
  obtain ⟨K, d, h1, h2, h3, h4⟩ := h
  obtain ⟨X, hX⟩ := hsol
  refine Nat.le_of_not_lt fun hlt => ?_
  have := h4 v _ _ hlt hX
  rw [hX.self] at this
  cases this
def okB (lo hi : Int) : Prop := -100000000000000 ≤ lo ∧ lo ≤ hi ∧ hi ≤ 100000000000000
instance (lo hi : Int) : Decidable (okB lo hi) := by unfold okB; infer_instance
def bval (k : Bool) (lo hi : Int) : AV := if k = true then if okB lo hi then bv lo hi 0 else bv 0 0 3 else bv 0 0 4
theorem bound_val {n : Int} {rs : List Rg} (hv : VL n rs) {p : Nat → Int} (hp : Pot rs p) {a b : Nat} (ha : (a : Int) < n) (hb : (b : Int) < n) {K K' : Nat → Bool} {d d' : Nat → Int} (h1 : Sol rs a K d) (h2 : Sol rs b K' d') {v : AV} (h : BoundOut n rs a b v) : v = bval (K b) (0 - d' a) (d b) := by
  rcases h with ⟨h, _⟩ | ⟨_, h⟩
  · exact absurd ⟨hv, by omega, ha, by omega, hb⟩ h
  · rcases h with ⟨⟨ch, hc⟩, _⟩ | ⟨_, X, Y, hX, hY, h⟩
    · exact (hc.no hv hp).elim
    · simp only [toNat_cast] at hX hY h
      have e1 := hX.eq h1 b
      have e2 := hY.eq h2 a
      rw [e1.1] at h
      unfold bval
      rcases h with ⟨h, rfl⟩ | ⟨hk, h, rfl⟩ | ⟨hk, h, rfl⟩
      · rw [if_neg h]
      · have e3 := e1.2 (by rw [e1.1]; exact hk)
        have hka : Y.known a = true := by rw [e2.1]; exact h1.symm hk h2
        have e4 := e2.2 hka
        rw [e3, e4] at h
        rw [if_pos hk, if_neg (show ¬ okB _ _ from h)]
      · have e3 := e1.2 (by rw [e1.1]; exact hk)
        have hka : Y.known a = true := by rw [e2.1]; exact h1.symm hk h2
        have e4 := e2.2 hka
        rw [e3, e4] at h ⊢
        rw [if_pos hk, if_pos (show okB _ _ from h)]
theorem bound_bad {n : Int} {rs : List Rg} {a b : Int} (hb : ¬ (VL n rs ∧ 0 ≤ a ∧ a < n ∧ 0 ≤ b ∧ b < n)) {v : AV} (h : BoundOut n rs a b v) : v = bv 0 0 1 := by
  rcases h with ⟨_, h⟩ | ⟨h, _⟩
  · exact h
  · exact absurd h hb
theorem bound_lie {n : Int} {rs : List Rg} {a b : Int} (hb : VL n rs ∧ 0 ≤ a ∧ a < n ∧ 0 ≤ b ∧ b < n) (hp : ∀ p, ¬ Pot rs p) {v : AV} (h : BoundOut n rs a b v) : v = bv 0 0 23 := by
  rcases h with ⟨h, _⟩ | ⟨_, h⟩
  · exact absurd hb h
  · rcases h with ⟨_, rfl⟩ | ⟨⟨p, h⟩, _⟩
    · rfl
    · exact absurd h (hp p)

end Go.Proofs.Ytndaljjljmmlcaa

