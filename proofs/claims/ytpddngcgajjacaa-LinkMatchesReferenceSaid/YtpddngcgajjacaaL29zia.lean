import Derived.Test.YtpddngcgajjacaaL29H
set_option linter.unusedSimpArgs false
set_option linter.unusedVariables false
namespace Go.Proofs.Ytpddngcgajjacaa
open Go.Zz

theorem runA_ok {bs ss : List Int} (h : runOk bs ss) : runA bs ss = runM bs (ss.map Int.toNat) := if_pos h
theorem runOk.take {bs ss : List Int} (h : runOk bs ss) (k : Nat) : runOk bs (ss.take k) := ⟨h.1, by have := h.2.1; rw [List.length_take]; omega, fun s hs => h.2.2 s (List.mem_of_mem_take hs)⟩
theorem run_got {bs : List Int} {ss : List Nat} (hb : bs.length ≤ 1000) : (runM bs ss).got.length ≤ 1000 := by
  have h := run_inv (ss := ss) hb
  have := h.gotn
  have := h.n_le
  omega

theorem pa_ints {x : AV} (h : PA (false, [.slice [.int .i64]]) x) : ∃ xs, IntS x xs ∧ xs.length < 9223372036854775808 ∧ ∀ y ∈ xs, I64 y := by
  unfold PA at h
  rw [if_neg (by simp)] at h
  obtain ⟨k, hk, h⟩ := h
  simp at hk
  subst hk
  exact ca_ints h

theorem outs_get : ∀ {s : Int} {l : List Int} {i : Nat} (h : i < l.length), (outs s l)[i]? = some (false, s + i, l[i])
  | s, b :: r, 0, h => by simp [outs]
  | s, b :: r, i + 1, h => by
    simp only [outs, List.getElem?_cons_succ, List.getElem_cons_succ]
    rw [outs_get (by simpa using h)]
    simp only [Option.some.injEq, Prod.mk.injEq, true_and, and_true]
    omega

theorem PackS.at {l : AV} {ps : List Pkt} (h : PackS l ps) {i : Nat} {p : Pkt} (hp : ps[i]? = some p) : ∃ rest, indexAddrAV 3 l (.int .i64 (i : Int)) = some (.pval (.bool p.1 :: .int .i64 p.2.1 :: .int .i64 p.2.2 :: rest)) := by
  obtain ⟨hi, e⟩ := List.getElem?_eq_some_iff.1 hp
  rcases h with ⟨_, h⟩ | ⟨f, rfl⟩
  · subst h; simp at hi
  · refine ⟨pcells (ps.drop (i + 1)), ?_⟩
    simp only [indexAddrAV, idx]
    rw [if_pos ⟨by omega, by omega⟩]
    simp only [Option.map_some, Int.toNat_natCast, Option.some.injEq, AV.pval.injEq]
    have := pcells_drop i ps
    unfold pcells at this ⊢
    rw [this, List.drop_eq_getElem_cons hi, e]
    rfl

theorem list_gts (l : List AV) : l = (List.range l.length).map (gt l) := by
  apply List.ext_getElem (by simp)
  intro i h1 h2
  simp [gt_of_lt h1]

theorem takeAt_nil (pl : Nat) (st : Bool) : takeAt [] pl st = (none, []) := by simp [takeAt]
theorem takeAt_first (p : Pkt) (r : List Pkt) : takeAt (p :: r) 0 false = (some p, r) := by simp [takeAt]
theorem takeAt_tail (ps : List Pkt) : (takeAt ps 0 false).2 = ps.tail := by
  cases ps with
  | nil => rw [takeAt_nil]; rfl
  | cons p r => rw [takeAt_first]; rfl

end Go.Proofs.Ytpddngcgajjacaa

