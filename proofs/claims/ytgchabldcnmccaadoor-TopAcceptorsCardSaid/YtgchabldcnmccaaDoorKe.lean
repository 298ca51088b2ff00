import Derived.Test.YtgchabldcnmccaaDoorKd
set_option linter.unusedSimpArgs false
set_option linter.unusedVariables false

/-
  Slices that grow in memory; the state of a run in memory.
-/
namespace Go.Proofs.YtgchabldcnmccaaDoor
open Go.Zz
def SlH (H : Hp) (z : AV) (k : Nat) (l : List AV) (len : Nat) : Prop := l.length = len * k ∧ (z = .snil ∧ len = 0 ∨ 0 < len ∧ ∃ id g, z = .sref id g 0 k len none ∧ Zz.look H id g = some l)
def inB (z : AV) (j : Nat) : Prop := match z with | .sref id _ _ _ _ _ => id = j | _ => False
theorem SlH.keep {H H' : Hp} {z : AV} {k len : Nat} {l : List AV} (h : SlH H z k l len) (hk : ∀ j, inB z j → H'[j]? = H[j]?) : SlH H' z k l len := by
  obtain ⟨h1, ⟨rfl, h2⟩ | ⟨h2, id, g, rfl, h3⟩⟩ := h
  · exact ⟨h1, .inl ⟨rfl, h2⟩⟩
  · exact ⟨h1, .inr ⟨h2, id, g, rfl, by rw [look_of_get (hk id rfl)]; exact h3⟩⟩
theorem SlH.push {H : Hp} {L : List (Option ALoop)} {z : AV} {k len bytes q : Nat} {l c : List AV} {cap : Option Nat} (h : SlH H z k l len) (hk : 0 < k) (hq : Zz.look H q 0 = some c) (hc : c.length = k) (hb : (len + 1) * bytes ≤ 140737488355328 ∧ len + 1 ≤ 140737488355328) :
    ∃ z' H', appendAV k bytes ⟨H, L⟩ z (.sref q 0 0 k 1 cap) = some (z', ⟨H', L⟩) ∧ SlH H' z' k (l ++ c) (len + 1) ∧ (∀ j, ¬ inB z j → j < H.length → H'[j]? = H[j]?) ∧ (∀ j, inB z' j → inB z j ∨ j = H.length) ∧ stillDead H H' = true := by
  have hcut : Zz.cut c 0 (1 * k) = some c := by
    unfold Zz.cut
    rw [if_pos (by omega)]
    simp [← hc]
  have hsc : scells H k (.sref q 0 0 k 1 cap) = some c := by simp only [scells, if_true, hq, Option.bind_some, hcut]
  obtain ⟨h1, ⟨rfl, rfl⟩ | ⟨h2, id, g, rfl, h3⟩⟩ := h
  · have hl : l = [] := List.eq_nil_of_length_eq_zero (by omega)
    subst hl
    refine ⟨.sref H.length 0 0 k 1 none, H ++ [some ⟨0, c⟩], ?_, ?_, ?_, ?_, dead_app _ _⟩
    · simp only [appendAV, hsc, slen, Option.bind_eq_bind, Option.bind_some, newBlk]
      rw [if_neg (by omega), if_pos (by omega)]
    · exact ⟨by simp [hc], .inr ⟨by omega, H.length, 0, rfl, by simp [look_right0, Zz.look]⟩⟩
    · intro j _ hj; exact List.getElem?_append_left hj
    · intro j hj; exact .inr hj.symm
  · have hold : Zz.cut l 0 (len * k) = some l := by
      unfold Zz.cut
      rw [if_pos (by omega)]
      simp [← h1]
    refine ⟨.sref id (g + 1) 0 k (len + 1) none, setBlk H id (g + 1) (l ++ c), ?_, ?_, ?_, ?_, ?_⟩
    · simp only [appendAV, hsc, slen, Option.bind_eq_bind, Option.bind_some, if_true, h3, hold]
      rw [if_neg (by rw [Nat.add_mul]; omega), if_pos hb]
    · exact ⟨by simp [hc, h1, Nat.add_mul], .inr ⟨by omega, id, g + 1, rfl, look_set (look_lt h3)⟩⟩
    · intro j hj _; exact List.getElem?_set_ne hj
    · intro j hj; exact .inl hj
    · have := dead_setS (b := ⟨g + 1, l ++ c⟩) (look_eq_iff.1 h3) []
      simpa [setBlk] using this
structure RunMem (H : Hp) (L : List (Option ALoop)) (rb tb mb : Nat) (n : Nat) (s : RS) where
  ab : Nat
  zp : AV
  zs : AV
  zv : AV
  r : Zz.look H rb 0 = some [.sref ab 0 0 6 n (some n), zp, zs, zv, .int .i64 n, .mref mb]
end Go.Proofs.YtgchabldcnmccaaDoor

