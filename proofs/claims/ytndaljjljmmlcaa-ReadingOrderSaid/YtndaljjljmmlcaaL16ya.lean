import Derived.Test.YtndaljjljmmlcaaL16y
set_option linter.unusedSimpArgs false
set_option linter.unusedVariables false
namespace Go.Proofs.Ytndaljjljmmlcaa
open Go.Zz

theorem bound_shape {n : Int} {rs : List Rg} {a b : Int} {v : AV} (h : BoundOut n rs a b v) : ∃ lo hi e, v = bv lo hi e := by
  rcases h with ⟨_, rfl⟩ | ⟨_, h⟩
  · exact ⟨_, _, _, rfl⟩
  · rcases h with ⟨_, rfl⟩ | ⟨_, X, Y, _, _, h⟩
    · exact ⟨_, _, _, rfl⟩
    · rcases h with ⟨_, rfl⟩ | ⟨_, _, rfl⟩ | ⟨_, _, rfl⟩ <;> exact ⟨_, _, _, rfl⟩
theorem bound_same {n : Int} {rs rs' : List Rg} (hv : VL n rs) (hv' : VL n rs') (ha : Alike rs rs') (hlie : ∀ p, Pot rs' p → Pot rs p) (hsol : ∀ p, Pot rs p → ∀ i : Nat, (i : Int) < n → ∃ X : Bf.S, Sol rs i X.known X.far) {a b : Int} {v v' : AV} (h : BoundOut n rs a b v) (h' : BoundOut n rs' a b v') : v = v' := by
  by_cases hr : 0 ≤ a ∧ a < n ∧ 0 ≤ b ∧ b < n
  · by_cases hp : ∃ p, Pot rs p
    · obtain ⟨p, hp⟩ := hp
      obtain ⟨a0, a1, b0, b1⟩ := hr
      obtain ⟨a, rfl⟩ := Int.eq_ofNat_of_zero_le a0
      obtain ⟨b, rfl⟩ := Int.eq_ofNat_of_zero_le b0
      obtain ⟨X, hX⟩ := hsol p hp a a1
      obtain ⟨Y, hY⟩ := hsol p hp b b1
      rw [bound_val hv hp a1 b1 hX hY h, bound_val hv' (ha.pot p hp) a1 b1 (ha.sol _ _ _ hX) (ha.sol _ _ _ hY) h']
    · have hp' : ∀ p, ¬ Pot rs p := fun p h => hp ⟨p, h⟩
      rw [bound_lie ⟨hv, hr⟩ hp' h, bound_lie ⟨hv', hr⟩ (fun p h => hp' p (hlie p h)) h']
  · rw [bound_bad (fun h => hr h.2) h, bound_bad (fun h => hr h.2) h']
theorem hsol_of {n : Int} {rs : List Rg} (hv : VL n rs) {l : AV} (hl : RdL l rs) : ∀ p, Pot rs p → ∀ i : Nat, (i : Int) < n → ∃ X : Bf.S, Sol rs i X.known X.far := fun p hp i hi => by
  obtain ⟨X, hX, _⟩ := s29 hv hl (i := i) hi hp
  exact ⟨X, hX⟩

/-- A reading that follows. -/
theorem alike_follows {rs : List Rg} {a b : Nat} {X Y : Bf.S} (hX : Sol rs a X.known X.far) (hY : Sol rs b Y.known Y.far) (k1 : X.known b = true) : Alike rs (rs ++ [⟨a, b, 0 - Y.far a, X.far b⟩]) := by
  have ky : Y.known a = true := hX.symm k1 hY
  refine ⟨fun i K d h => ⟨h.self, h.zero, fun s hs hk => ?_, fun C p hC hp v hv => ?_⟩, fun p hp => ?_⟩
  · obtain ⟨r', hr, he⟩ := edg_mem.1 (⟨s, hs, rfl, rfl, rfl⟩ : Edg _ (eOf _ s).a (eOf _ s).b (eOf _ s).w)
    rcases List.mem_append.1 hr with hr | hr
    · obtain ⟨s', c1, c2, c3, c4⟩ := edg_mem.2 ⟨r', hr, he⟩
      have := h.closed s' c1 (by rw [c2]; exact hk)
      rwa [c2, c3, c4] at this
    · simp only [List.mem_cons, List.not_mem_nil, or_false] at hr
      subst hr
      rcases he with ⟨e1, e2, e3⟩ | ⟨e1, e2, e3⟩ <;> (rw [e1] at hk; rw [e1, e2, e3]; simp only [toNat_cast] at hk ⊢)
      · exact h.trans hk hX k1
      · have := h.trans hk hY ky
        exact ⟨this.1, by omega⟩
  · refine h.best C p hC (fun s hs ha => ?_) v hv
    obtain ⟨s', c1, c2, c3, c4⟩ := (sub_app rs _).num hs
    have := hp s' c1 (by rw [c2]; exact ha)
    rwa [c2, c3, c4] at this
  · have h1 := hX.pot hp b k1
    have h2 := hY.pot hp a ky
    exact pot_app.2 ⟨hp, by simp only [toNat_cast]; omega, by simp only [toNat_cast]; omega⟩

/-- Two readings exchanged, one of them turned around. -/
def turnR (r : Rg) : Rg := ⟨r.b, r.a, 0 - r.hi, 0 - r.lo⟩
def swapped (rs : List Rg) (i k : Nat) : List Rg := (rs.set i (nth rs k)).set k (turnR (nth rs i))
theorem nth_set {rs : List Rg} {i j : Nat} {r : Rg} (hi : i < rs.length) : nth (rs.set i r) j = if j = i then r else nth rs j := getD_set hi
theorem swapped_len {rs : List Rg} {i k : Nat} : (swapped rs i k).length = rs.length := by simp [swapped]
theorem swapped_nth {rs : List Rg} {i k j : Nat} (hi : i < rs.length) (hk : k < rs.length) : nth (swapped rs i k) j = if j = k then turnR (nth rs i) else if j = i then nth rs k else nth rs j := by
  unfold swapped
  rw [nth_set (by simpa using hk), nth_set hi]
theorem okR_turn {n : Int} {r : Rg} (h : okR n r) : okR n (turnR r) := by
  obtain ⟨o1, o2, o3, o4, o5, o6, o7, o8⟩ := h
  unfold turnR okR
  simp only
  omega
theorem vl_swapped {n : Int} {rs : List Rg} (hv : VL n rs) {i k : Nat} (hi : i < rs.length) (hk : k < rs.length) : VL n (swapped rs i k) := by
  refine ⟨hv.1, hv.2.1, by rw [swapped_len]; exact hv.2.2.1, fun r hr => ?_⟩
  obtain ⟨j, hj, rfl⟩ := List.getElem_of_mem hr
  rw [← nth_lt hj, swapped_nth hi hk]
  rw [swapped_len] at hj
  split
  · exact okR_turn (hv.at hi)
  · split
    · exact hv.at hk
    · exact hv.at hj
theorem edg_turn {r : Rg} {a b : Nat} {w : Int} : ((a = (turnR r).a.toNat ∧ b = (turnR r).b.toNat ∧ w = (turnR r).hi) ∨ (a = (turnR r).b.toNat ∧ b = (turnR r).a.toNat ∧ w = 0 - (turnR r).lo)) ↔ ((a = r.a.toNat ∧ b = r.b.toNat ∧ w = r.hi) ∨ (a = r.b.toNat ∧ b = r.a.toNat ∧ w = 0 - r.lo)) := by
  simp only [turnR]
  omega
theorem sub_swapped1 {rs : List Rg} {i k : Nat} (hi : i < rs.length) (hk : k < rs.length) : Sub rs (swapped rs i k) := fun a b w h => by
  rw [edg_iff] at h ⊢
  obtain ⟨j, hj, h⟩ := h
  by_cases e1 : j = i
  · subst e1
    refine ⟨k, by rw [swapped_len]; exact hk, ?_⟩
    rw [swapped_nth hi hk, if_pos rfl]
    exact edg_turn.2 h
  · by_cases e2 : j = k
    · subst e2
      refine ⟨i, by rw [swapped_len]; exact hi, ?_⟩
      rw [swapped_nth hi hk, if_neg (Ne.symm e1), if_pos rfl]
      exact h
    · refine ⟨j, by rw [swapped_len]; exact hj, ?_⟩
      rw [swapped_nth hi hk, if_neg e2, if_neg e1]
      exact h
theorem sub_swapped2 {rs : List Rg} {i k : Nat} (hi : i < rs.length) (hk : k < rs.length) : Sub (swapped rs i k) rs := fun a b w h => by
  rw [edg_iff] at h ⊢
  obtain ⟨j, hj, h⟩ := h
  rw [swapped_len] at hj
  rw [swapped_nth hi hk] at h
  split at h
  · exact ⟨i, hi, edg_turn.1 h⟩
  · split at h
    · exact ⟨k, hk, h⟩
    · exact ⟨j, hj, h⟩
theorem alike_of {rs rs' : List Rg} (h1 : Sub rs rs') (h2 : Sub rs' rs) : Alike rs rs' := ⟨fun i K d h => h.same h1 h2, fun p hp => h2.pot hp⟩

/-- Cells of readings, one put in another's place. -/
def rcells (rs : List Rg) : List AV := (rs.map Rg.cells).flatten
theorem rcells_len (rs : List Rg) : (rcells rs).length = rs.length * 4 := by
  unfold rcells
  rw [flat_len (k := 4) (fun c hc => by obtain ⟨r, _, rfl⟩ := List.mem_map.1 hc; rfl), List.length_map]
theorem rcells_flat (rs : List Rg) : (rcells rs).all flatAV = true := by
  rw [List.all_eq_true]
  intro v hv
  obtain ⟨c, hc, hvc⟩ := List.mem_flatten.1 hv
  obtain ⟨r', _, rfl⟩ := List.mem_map.1 hc
  exact List.all_eq_true.1 (rfl : r'.cells.all flatAV = true) v hvc
theorem rcells_cons (r : Rg) (rs : List Rg) : rcells (r :: rs) = r.cells ++ rcells rs := rfl
theorem rcells_over : ∀ {rs : List Rg} {i : Nat} {a b lo hi : Int}, i < rs.length → Zz.over (rcells rs) (i * 4) [.int .i64 a, .int .i64 b, .int .i64 lo, .int .i64 hi] = some (rcells (rs.set i ⟨a, b, lo, hi⟩))
  | [], i, a, b, lo, hi, h => by simp at h
  | r :: rs, 0, a, b, lo, hi, h => by
    unfold Zz.over
    rw [if_pos (by rw [rcells_len]; simp; omega)]
    simp [rcells_cons, Rg.cells]
  | r :: rs, i + 1, a, b, lo, hi, h => by
    have ih := rcells_over (rs := rs) (i := i) (a := a) (b := b) (lo := lo) (hi := hi) (by simpa using h)
    unfold Zz.over at ih ⊢
    rw [if_pos (by rw [rcells_len]; simp at h ⊢; omega)] at ih ⊢
    simp only [Option.some.injEq, List.length_cons, List.length_nil] at ih ⊢
    rw [rcells_cons, List.set_cons_succ, rcells_cons, ← ih, show (i + 1) * 4 = r.cells.length + i * 4 by simp [Rg.cells]; omega, List.take_length_add_append, Nat.add_assoc, List.drop_length_add_append]
    simp
end Go.Proofs.Ytndaljjljmmlcaa

