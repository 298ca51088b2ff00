import Derived.Test.YtjbdefmhjmkifaaDoorL11pa

/-
  What a part of a set asks for, and how far it shifts.
-/
set_option linter.unusedVariables false
namespace Go.Proofs.YtjbdefmhjmkifaaDoor
open Go.Zz

theorem pa_u8 {x : AV} (h : PA (false, [.flat (.int .u8)]) x) : ∃ k : Nat, x = .int .u8 (k : Int) ∧ k < 256 := by
  obtain ⟨n, rfl, hw⟩ := pa_one h
  have e1 : IntKind.u8.min = 0 := by decide
  have e2 : IntKind.u8.max = 255 := by decide
  have h2 : IntKind.u8.min ≤ n ∧ n ≤ IntKind.u8.max := by simpa [Lit.wf] using hw
  exact ⟨n.toNat, by rw [show ((n.toNat : Nat) : Int) = n by omega], by omega⟩

theorem dem_cons {ps : List Pipe} {x : Int} {l : List Int} : dem ps (x :: l) = (pipeOf ps x).wind + dem ps l := by
  unfold dem demN
  rw [List.take_length, List.take_length, List.map_cons, List.sum_cons]
theorem dem_sub {ps : List Pipe} {sup tol : Int} (hv : VO ps sup tol) {a b : List Int} (h : a.Sublist b) : dem ps a ≤ dem ps b := by
  induction h with
  | slnil => exact Int.le_refl _
  | cons x _ ih =>
    rw [dem_cons]
    have := (hv.at x).1
    omega
  | cons_cons x _ ih =>
    rw [dem_cons, dem_cons]
    omega
theorem lacks_sub {ps : List Pipe} {sup tol : Int} (hv : VO ps sup tol) {a b : List Int} (h : a.Sublist b) : 0 ≤ lacks ps sup a ∧ lacks ps sup a ≤ lacks ps sup b := by
  have := dem_sub hv h
  unfold lacks
  omega
theorem pick_sub {ps : List Pipe} {k : Int} : ∀ n, n ≤ ps.length → (pickL ps k n).Sublist ((idsOf ps).take n)
  | 0, _ => by simp [pickL]
  | n + 1, hn => by
    have ih := pick_sub (ps := ps) (k := k) n (by omega)
    have e : (idsOf ps).take (n + 1) = (idsOf ps).take n ++ [(nth ps n).id] := by
      rw [List.take_add_one]
      congr 1
      unfold idsOf
      rw [List.getElem?_map, List.getElem?_eq_getElem (by omega), nth_lt (by omega)]
      rfl
    rw [e]
    unfold pickL
    split
    · exact ih.append (List.Sublist.refl _)
    · exact ih.trans (List.sublist_append_left _ _)
theorem pick_all {ps : List Pipe} {k : Int} : (pickL ps k (min ps.length 16)).Sublist (idsOf ps) := (pick_sub _ (by omega)).trans (List.take_sublist _ _)
theorem pick_part {ps : List Pipe} {k k' : Int} : ∀ n, (∀ i, i < n → bitv k' i = 1 → bitv k i = 1) → (pickL ps k' n).Sublist (pickL ps k n)
  | 0, _ => by simp [pickL]
  | n + 1, h => by
    have ih := pick_part (ps := ps) n fun i hi => h i (by omega)
    unfold pickL
    by_cases hb : bitv k' n = 1
    · rw [if_pos hb, if_pos (h n (by omega) hb)]
      exact ih.append (List.Sublist.refl _)
    · rw [if_neg hb]
      split
      · exact ih.trans (List.sublist_append_left _ _)
      · exact ih
theorem ids_setE {ps : List Pipe} {sup tol w : Int} (hv : VO ps sup tol) (hw : -100 ≤ w ∧ w ≤ 100) : setE ps sup tol (idsOf ps) w = 0 := by
  refine setE_ok.2 ⟨hv, hw, ris_iff.2 ?_, has_iff.2 ?_⟩
  · rw [List.pairwise_iff_getElem]
    intro i j hi hj hij
    have hj' : j < ps.length := by unfold idsOf at hj; simpa using hj
    have := hv.lt hij hj'
    rw [nth_lt hj', nth_lt (by omega)] at this
    simpa [idsOf] using this
  · intro x hx
    unfold idsOf at hx
    obtain ⟨p, hp, rfl⟩ := List.mem_map.1 hx
    obtain ⟨i, hi, rfl⟩ := List.getElem_of_mem hp
    exact pos_lt hi (by rw [nth_lt hi])
theorem one_setE {ps : List Pipe} {sup tol w id : Int} (hv : VO ps sup tol) (hw : -100 ≤ w ∧ w ≤ 100) (hp : pos ps id < ps.length) : setE ps sup tol [id] w = 0 := by
  refine setE_ok.2 ⟨hv, hw, ris_iff.2 (by simp), has_iff.2 ?_⟩
  intro x hx
  rw [List.mem_singleton] at hx
  subst hx
  exact hp
theorem shift_le {ps : List Pipe} {sup tol : Int} (hv : VO ps sup tol) (id : Int) {l l' w w' : Int} (hl : l' ≤ l) (hw : w ≤ w') : shiftOf (pipeOf ps id) l w ≤ shiftOf (pipeOf ps id) l' w' := by
  have h := hv.at id
  unfold shiftOf
  have a := Int.mul_le_mul_of_nonneg_left hw h.2.2.2.2.1
  have b := Int.mul_le_mul_of_nonneg_left hl h.2.2.1
  omega
theorem rem_av {b n : Nat} (h : 0 < n) : ∃ j, j < n ∧ binAV .rem (.int .i64 (b : Int)) (.int .i64 (n : Int)) = some (.int .i64 (j : Int)) := by
  refine ⟨b % n, Nat.mod_lt _ h, ?_⟩
  show (if (n : Int) = 0 then none else some (AV.int .i64 ((b : Int).tmod n))) = _
  rw [if_neg (by omega), Int.ofNat_tmod]
end Go.Proofs.YtjbdefmhjmkifaaDoor

