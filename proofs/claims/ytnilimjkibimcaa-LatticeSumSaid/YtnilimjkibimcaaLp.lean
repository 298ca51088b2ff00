import Derived.Test.YtnilimjkibimcaaLm
import Derived.Test.YtnilimjkibimcaaPl
set_option linter.unusedSimpArgs false
set_option linter.unusedVariables false

namespace Go.Proofs.Ytnilimjkibimcaa
open Go.Zz
set_option maxRecDepth 100000
set_option maxHeartbeats 8000000
theorem catR {x y : AV} {a b : List (List Int)} (hx : RwL x a) (hy : RwL y b) (ha : a.length ≤ 8) (hb : b.length ≤ 8) {L : List (Option ALoop)} : ∃ v1 H1 v2 q2 H2, appendAV 6 48 ⟨[some ⟨0, []⟩], L⟩ (.sref 0 0 0 6 0 (some 0)) x = some (v1, ⟨H1, L⟩) ∧ appendAV 6 48 ⟨H1, L⟩ v1 y = some (v2, ⟨H2, L⟩) ∧ GS 6 H2 v2 q2 (flatR (a ++ b)) ∧ slen v2 = some (a.length + b.length) := by
  have g0 : GS 6 [some ⟨0, []⟩] (.sref 0 0 0 6 0 (some 0)) 0 [] := .inr (.inl ⟨0, rfl, rfl, rfl⟩)
  have x6 := rwl_six hx
  have y6 := rwl_six hy
  have sx : ∀ H, scells H 6 x = some (flatR a) := fun H => SL.scells hx H
  have sy : ∀ H, scells H 6 y = some (flatR b) := fun H => SL.scells hy H
  obtain ⟨v1, q1, H1, a1, a2, _⟩ := g0.appendX (L := L) (bytes := 48) (n := a.length) (sx _) hx.len (flatR_len x6) (by decide) ⟨by simp; omega, by simp; omega⟩
  rw [List.nil_append] at a2
  have hd : (flatR a).length / 6 = a.length := by rw [flatR_len x6]; omega
  obtain ⟨v2, q2, H2, b1, b2, _⟩ := a2.appendX (L := L) (bytes := 48) (n := b.length) (sy _) hy.len (flatR_len y6) (by decide) ⟨by rw [hd]; omega, by rw [hd]; omega⟩
  rw [← flatR_cat] at b2
  have hl := b2.len (by decide)
  rw [flatR_len (by
    intro r hr
    rcases List.mem_append.1 hr with h | h
    · exact x6 r h
    · exact y6 r h), List.length_append] at hl
  exact ⟨v1, H1, v2, q2, H2, a1, b1, b2, by rw [hl]; congr 1; omega⟩
theorem gs_row {G : Hp} {u : AV} {q : Nat} {rows : List (List Int)} (h : GS 6 G u q (flatR rows)) (h6 : ∀ r ∈ rows, r.length = 6) {i : Nat} (hi : i < rows.length) : ∃ g, indexAddrAV 6 u (.int .i64 (i : Int)) = some (.pref q g (i * 6)) ∧ Zz.look G q g = some (flatR rows) ∧ Zz.cut (flatR rows) (i * 6) 6 = some (icells (rw_ rows i)) ∧ q < G.length := by
  have hl := flatR_len h6
  obtain ⟨g, n, rfl, hn, hk, hq⟩ := h.ref (fun h0 => by rw [h0] at hl; simp at hl; omega)
  refine ⟨g, ?_, hk, flatR_cut h6 hi, hq⟩
  rw [ia_sref, idx_nat (by omega)]
  simp
def oth (a b : List (List Int)) (j : Nat) : List (List Int) := if j < a.length then b else a
end Go.Proofs.Ytnilimjkibimcaa

