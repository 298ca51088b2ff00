import Derived.Test.YtndaljjljmmlcaaL16F

set_option linter.unusedSimpArgs false
set_option linter.unusedVariables false
namespace Go.Proofs.Ytndaljjljmmlcaa
open Go.Zz
set_option maxRecDepth 100000
set_option maxHeartbeats 1000000
theorem rdOf_pos {rs : List Rg} {s : Int} (h : 0 < s) : stA rs s = (nth rs (s - 1).toNat).a ∧ stB rs s = (nth rs (s - 1).toNat).b ∧ stW rs s = (nth rs (s - 1).toNat).hi := by
  have : ¬ s < 0 := by omega
  simp only [stA, stB, stW, rdOf, if_neg this, and_self]
theorem rdOf_neg {rs : List Rg} {s : Int} (h : s < 0) : stA rs s = (nth rs (0 - s - 1).toNat).b ∧ stB rs s = (nth rs (0 - s - 1).toNat).a ∧ stW rs s = 0 - (nth rs (0 - s - 1).toNat).lo := by
  simp only [stA, stB, stW, rdOf, if_pos h, Int.zero_sub, and_self]
noncomputable def E19 : Env := E18.put 23 (borrowE E18 23)
theorem E19_ok : EnvOk Try.prog E19 := Env.put_ok E18_ok (borrowE_ok E18_ok (callable Try.func23 (by kernel_rfl)))
end Go.Proofs.Ytndaljjljmmlcaa


set_option linter.unusedSimpArgs false
set_option linter.unusedVariables false
namespace Go.Proofs.Ytndaljjljmmlcaa
open Go.Zz

/-! ### The first ones: names spread over the readings -/

/-- The steps of names: no size. -/
def Ez (rs : List Rg) (t : Nat) : Bf.Edge := ⟨(Er rs t).s, (Er rs t).a, (Er rs t).b, 0⟩
def nm : Bf.S := ⟨fun _ => true, fun v => (v : Int), fun _ => 0⟩
theorem nm_known {rs : List Rg} (t v : Nat) : (Bf.run (Ez rs) nm t).known v = true := Bf.known_mono (t := 0) (Nat.zero_le _) rfl

/-- What the names are behind the rounds. -/
def nameOf (n : Int) (rs : List Rg) (v : Nat) : Int := (Bf.run (Ez rs) nm (n.toNat * (2 * rs.length))).far v

/-- The first item that an item is connected with. -/
def FirstOf (rs : List Rg) (v w : Nat) : Prop := (∀ K d, Sol rs w K d → K v = true) ∧ ∀ u K d, u < w → Sol rs u K d → K v = false
/-- What one reading does to the names. -/
def lower2 (x : Bf.S) (a b : Nat) : Bf.S := Bf.relax (Bf.relax x ⟨0, a, b, 0⟩) ⟨0, b, a, 0⟩
theorem relax_far {x : Bf.S} {e : Bf.Edge} (h : ∀ v, x.known v = true) (v : Nat) : (Bf.relax x e).far v = if v = e.b then min (x.far v) (x.far e.a + e.w) else x.far v := by
  unfold Bf.relax Bf.fires
  simp only [h, Bool.true_and, Bool.not_true, Bool.false_or]
  split
  · rename_i h1
    rw [decide_eq_true_iff] at h1
    simp only [Bf.lowered, Bf.upd]
    split
    · rename_i e1; subst e1; omega
    · rfl
  · rename_i h1
    simp only [decide_eq_true_eq] at h1
    split
    · rename_i e1; subst e1; omega
    · rfl
theorem relax_known {x : Bf.S} {e : Bf.Edge} (h : ∀ v, x.known v = true) (v : Nat) : (Bf.relax x e).known v = true := by
  unfold Bf.relax
  split
  · simp only [Bf.lowered, Bf.upd]; split <;> first | rfl | exact h v
  · exact h v
/-- Two steps of the run: both get the lesser name. -/
theorem run_two {rs : List Rg} {r i : Nat} (hi : i < rs.length) (v : Nat) (hab : (nth rs i).a.toNat ≠ (nth rs i).b.toNat) : (Bf.run (Ez rs) nm (r * (2 * rs.length) + 2 * (i + 1))).far v =
    if v = (nth rs i).a.toNat ∨ v = (nth rs i).b.toNat then min ((Bf.run (Ez rs) nm (r * (2 * rs.length) + 2 * i)).far (nth rs i).a.toNat) ((Bf.run (Ez rs) nm (r * (2 * rs.length) + 2 * i)).far (nth rs i).b.toNat) else (Bf.run (Ez rs) nm (r * (2 * rs.length) + 2 * i)).far v := by
  have e1 : Er rs (r * (2 * rs.length) + 2 * i) = eOf rs ((i : Int) + 1) := by
    unfold Er
    rw [show r * (2 * rs.length) + 2 * i = (2 * i) + r * (2 * rs.length) by omega, Nat.add_mul_mod_self_right, Nat.mod_eq_of_lt (by omega)]
    congr 1
    unfold numAt
    rw [if_pos (by omega)]
    omega
  have e2 : Er rs (r * (2 * rs.length) + 2 * i + 1) = eOf rs (0 - (i : Int) - 1) := by
    unfold Er
    rw [show r * (2 * rs.length) + 2 * i + 1 = (2 * i + 1) + r * (2 * rs.length) by omega, Nat.add_mul_mod_self_right, Nat.mod_eq_of_lt (by omega)]
    congr 1
    unfold numAt
    rw [if_neg (by omega)]
    omega
  have k0 : ∀ v, (Bf.run (Ez rs) nm (r * (2 * rs.length) + 2 * i)).known v = true := nm_known _
  rw [show r * (2 * rs.length) + 2 * (i + 1) = r * (2 * rs.length) + 2 * i + 1 + 1 by omega]
  show (Bf.relax (Bf.relax (Bf.run (Ez rs) nm (r * (2 * rs.length) + 2 * i)) (Ez rs (r * (2 * rs.length) + 2 * i))) (Ez rs (r * (2 * rs.length) + 2 * i + 1))).far v = _
  rw [relax_far (relax_known k0), relax_far k0, relax_far k0]
  simp only [Ez, e1, e2, eOf_pos, eOf_neg]
  by_cases h1 : v = (nth rs i).a.toNat
  · subst h1
    simp only [if_true, if_neg hab, true_or]
    omega
  · by_cases h2 : v = (nth rs i).b.toNat
    · subst h2
      simp only [if_true, if_neg h1, or_true]
      omega
    · simp only [if_neg h1, if_neg h2, h1, h2, or_self, if_false]
end Go.Proofs.Ytndaljjljmmlcaa


set_option linter.unusedSimpArgs false
set_option linter.unusedVariables false
namespace Go.Proofs.Ytndaljjljmmlcaa
open Go.Zz
set_option maxRecDepth 100000
def Names (n : Int) (rs : List Rg) (t : Nat) (c : List Int) : Prop := c.length = n.toNat ∧ ∀ v, v < n.toNat → c.getD v 0 = (Bf.run (Ez rs) nm t).far v
theorem Names.next {n : Int} {rs : List Rg} (hv : VL n rs) {r i : Nat} {c : List Int} (h : Names n rs (r * (2 * rs.length) + 2 * i) c) (hi : i < rs.length) :
    Names n rs (r * (2 * rs.length) + 2 * (i + 1)) ((c.set (nth rs i).a.toNat (min (c.getD (nth rs i).a.toNat 0) (c.getD (nth rs i).b.toNat 0))).set (nth rs i).b.toNat (min (c.getD (nth rs i).a.toNat 0) (c.getD (nth rs i).b.toNat 0))) := by
  obtain ⟨o1, o2, o3, o4, o5, o6, o7, o8⟩ := hv.at hi
  obtain ⟨h1, h2⟩ := h
  have hv1 := hv.1
  refine ⟨by simp [h1], fun v hvn => ?_⟩
  rw [getD_set (by simp; omega), getD_set (by omega), run_two hi v (by omega), h2 _ (by omega), h2 _ (by omega), h2 v hvn]
  by_cases e1 : v = (nth rs i).b.toNat
  · rw [if_pos e1, if_pos (.inr e1)]
  · by_cases e2 : v = (nth rs i).a.toNat
    · rw [if_neg e1, if_pos e2, if_pos (.inl e2)]
    · rw [if_neg e1, if_neg e2, if_neg (by rintro (h | h) <;> contradiction)]
noncomputable def E20 : Env := E19.put 22 (borrowE E19 22)
theorem E20_ok : EnvOk Try.prog E20 := Env.put_ok E19_ok (borrowE_ok E19_ok (callable Try.func22 (by kernel_rfl)))
end Go.Proofs.Ytndaljjljmmlcaa

