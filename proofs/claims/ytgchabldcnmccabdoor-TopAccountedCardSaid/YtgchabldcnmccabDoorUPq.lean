import Derived.Test.YtgchabldcnmccabDoorUPp
import Derived.Test.YtgchabldcnmccabDoorUMB

set_option linter.unusedSimpArgs false
set_option linter.unusedVariables false

namespace Go.Proofs.YtgchabldcnmccabDoor
open Go.Zz
def JQ (N : Nat) (H : Hp) (q : Nat) (x : AV) (l : List Nat) : Prop := ∀ H' : Hp, H.length <= H'.length -> (∀ j, N <= j -> j < H.length -> j ≠ q -> H'[j]? = H[j]?) -> JS H' x l
structure SS (N : Nat) (H : Hp) (v : AV) (q : Nat) (xs : List AV) (L : List (List Nat)) : Prop where
 gs : GS 1 H v q xs
 len : xs.length = L.length
 fr : v = .snil \/ N <= q /\ q < H.length
 el : ∀ i, i < L.length -> JQ N H q (gt xs i) (L.getD i [])
theorem zns {sz : Nat} {H H' : Hp} {v : AV} {q : Nat} {c : List AV} (h : GS sz H v q c) (he : v = .snil \/ H'[q]? = H[q]?) : GS sz H' v q c := by
 rcases h with ⟨rfl, h⟩ | ⟨g, rfl, h1, h2⟩ | ⟨g, n, rfl, h1, h2, h3⟩
 ·exact .inl ⟨rfl, h⟩
 ·rcases he with he | he
  ·cases he
  ·exact .inr (.inl ⟨g, rfl, h1, (zad he).trans h2⟩)
 ·rcases he with he | he
  ·cases he
  ·exact .inr (.inr ⟨g, n, rfl, h1, h2, (zad he).trans h3⟩)
theorem SS.at {N : Nat} {H : Hp} {v : AV} {q : Nat} {xs : List AV} {L : List (List Nat)} (h : SS N H v q xs L) {i : Nat} (hi : i < L.length) : ∃ g, zaj 1 v (.int .i64 (i : Nat)) = some (.pref q g i) /\ Zz.look H q g = some xs /\ xs[i]? = some (gt xs i) := by
 have hl := h.len;obtain ⟨g, n, rfl, h1, h2, _⟩ := h.gs.ref (by intro e; rw [e] at hl; simp at hl; omega);refine ⟨g, by rw [zbl, zbb (show i < n by omega)]; simp, h2, ?_⟩;rw [zeg, List.getD_eq_getElem?_getD, List.getElem?_eq_getElem (by omega)];rfl
end Go.Proofs.YtgchabldcnmccabDoor

