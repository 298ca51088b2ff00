import Derived.Test.YtnilimjkibimcaaPp
import Derived.Test.YtnilimjkibimcaaMB
set_option linter.unusedSimpArgs false
set_option linter.unusedVariables false

namespace Go.Proofs.Ytnilimjkibimcaa
open Go.Zz
def JQ (N : Nat) (H : Hp) (q : Nat) (x : AV) (l : List Nat) : Prop := ∀ H' : Hp, H.length ≤ H'.length → (∀ j, N ≤ j → j < H.length → j ≠ q → H'[j]? = H[j]?) → JS H' x l
structure SS (N : Nat) (H : Hp) (v : AV) (q : Nat) (xs : List AV) (L : List (List Nat)) : Prop where
  gs : GS 1 H v q xs
  len : xs.length = L.length
  fr : v = .snil ∨ N ≤ q ∧ q < H.length
  el : ∀ i, i < L.length → JQ N H q (gt xs i) (L.getD i [])
theorem gs_keep {sz : Nat} {H H' : Hp} {v : AV} {q : Nat} {c : List AV} (h : GS sz H v q c) (he : v = .snil ∨ H'[q]? = H[q]?) : GS sz H' v q c := by
  rcases h with ⟨rfl, h⟩ | ⟨g, rfl, h1, h2⟩ | ⟨g, n, rfl, h1, h2, h3⟩
  · exact .inl ⟨rfl, h⟩
  · rcases he with he | he
    · cases he
    · exact .inr (.inl ⟨g, rfl, h1, (look_of_get he).trans h2⟩)
  · rcases he with he | he
    · cases he
    · exact .inr (.inr ⟨g, n, rfl, h1, h2, (look_of_get he).trans h3⟩)
theorem SS.keep {N : Nat} {H H' : Hp} {v : AV} {q : Nat} {xs : List AV} {L : List (List Nat)} (h : SS N H v q xs L) (hl : H.length ≤ H'.length) (he : ∀ j, N ≤ j → j < H.length → H'[j]? = H[j]?) : SS N H' v q xs L := by
  refine ⟨gs_keep h.gs ?_, h.len, ?_, fun i hi H'' h1 h2 => h.el i hi H'' (by omega) fun j a b c => ?_⟩
  · rcases h.fr with h1 | h1
    · exact .inl h1
    · exact .inr (he q h1.1 h1.2)
  · rcases h.fr with h1 | h1
    · exact .inl h1
    · exact .inr ⟨h1.1, by omega⟩
  · rw [h2 j a (by omega) c, he j a b]
theorem SS.nil {N : Nat} {H : Hp} {q : Nat} : SS N H .snil q [] [] := ⟨.inl ⟨rfl, rfl⟩, rfl, .inl rfl, fun i hi => by simp at hi⟩
theorem gt_app_l {xs ys : List AV} {i : Nat} (h : i < xs.length) : gt (xs ++ ys) i = gt xs i := by
  rw [gt_eq, gt_eq, List.getD_eq_getElem?_getD, List.getElem?_append_left h, ← List.getD_eq_getElem?_getD]
theorem gt_app_r {xs : List AV} {y : AV} : gt (xs ++ [y]) xs.length = y := by
  rw [gt_eq, List.getD_eq_getElem?_getD, List.getElem?_append_right (Nat.le_refl _)]
  simp
theorem ncl_get {L : List (List Nat)} {l : List Nat} {i : Nat} : (L ++ [l]).getD i [] = if i < L.length then L.getD i [] else if i = L.length then l else [] := by
  rw [List.getD_eq_getElem?_getD]
  by_cases h : i < L.length
  · rw [if_pos h, List.getElem?_append_left h, ← List.getD_eq_getElem?_getD]
  · rw [if_neg h, List.getElem?_append_right (by omega)]
    by_cases e : i = L.length
    · subst e; simp
    · rw [if_neg e, List.getElem?_eq_none (by simp; omega)]; rfl
theorem SS.push {N : Nat} {H : Hp} {Lo : List (Option ALoop)} {v v2 : AV} {q q2 : Nat} {xs : List AV} {L : List (List Nat)} {l : List Nat} (h : SS N H v q xs L) (h2 : GS 1 H v2 q2 (ncells l)) (hq2 : N ≤ q2) (hq2l : q2 < H.length) (hne : v = .snil ∨ q2 ≠ q) (hN : N ≤ H.length) (hlen : xs.length < 1000000) :
    ∃ v' q' H', appendAV 1 24 ⟨H ++ [some ⟨0, [v2]⟩], Lo⟩ v (.sref H.length 0 0 1 1 (some 1)) = some (v', ⟨H', Lo⟩) ∧ SS N H' v' q' (xs ++ [v2]) (L ++ [l]) ∧ H.length ≤ H'.length ∧ (∀ j, j < H.length → v = .snil ∨ j ≠ q → H'[j]? = H[j]?) ∧ (v ≠ .snil ∧ q' = q ∨ H.length ≤ q') := by
  -- where nothing is there yet, the block is a new one
  obtain ⟨p, hp, hpq⟩ : ∃ p, GS 1 H v p xs ∧ (v = .snil ∧ p = H.length + 7 ∨ v ≠ .snil ∧ p = q) := by
    by_cases hv : v = .snil
    · subst hv
      have := h.gs
      rcases this with ⟨_, hx⟩ | ⟨g, hx, _⟩ | ⟨g, n, hx, _⟩
      · exact ⟨H.length + 7, .inl ⟨rfl, hx⟩, .inl ⟨rfl, rfl⟩⟩
      · cases hx
      · cases hx
    · exact ⟨q, h.gs, .inr ⟨hv, rfl⟩⟩
  obtain ⟨v', q', H', a1, a2, a3, a4, a5⟩ := (hp.more [some ⟨0, [v2]⟩]).append (L := Lo) (bytes := 24) (n := 1) (cap := some 1) (id := H.length) (lk0 rfl) rfl Nat.one_pos (by decide) ⟨by rw [Nat.div_one]; omega, by rw [Nat.div_one]; omega⟩
  rw [List.length_append, List.length_singleton] at a3 a4 a5
  have hfr : ∀ j, j < H.length → v = .snil ∨ j ≠ q → H'[j]? = H[j]? := fun j hj hj2 => by
    rw [a5 j (by omega) (by rcases hpq with ⟨_, rfl⟩ | ⟨hv, rfl⟩; omega; rcases hj2 with h | h; exact absurd h hv; exact h)]
    exact List.getElem?_append_left hj
  have hq' : v ≠ .snil ∧ q' = q ∨ H.length ≤ q' := by
    rcases a3 with rfl | rfl
    · rcases hpq with ⟨_, rfl⟩ | ⟨hv, rfl⟩
      · exact .inr (by omega)
      · exact .inl ⟨hv, rfl⟩
    · exact .inr (by omega)
  have hv' : v' = .snil ∨ N ≤ q' ∧ q' < H'.length := by
    obtain ⟨_, _, _, _, _, hlt⟩ := a2.ref (by simp)
    refine .inr ⟨?_, hlt⟩
    rcases hq' with ⟨hv, rfl⟩ | h1
    · rcases h.fr with h1 | h1
      · exact absurd h1 hv
      · exact h1.1
    · omega
  refine ⟨v', q', H', a1, ⟨a2, by simp [h.len], hv', fun i hi => ?_⟩, by omega, hfr, hq'⟩
  rw [List.length_append, List.length_singleton] at hi
  rw [ncl_get]
  by_cases hi2 : i < L.length
  · rw [if_pos hi2, gt_app_l (by rw [h.len]; exact hi2)]
    intro H'' b1 b2
    refine h.el i hi2 H'' (by omega) fun j c1 c2 c3 => ?_
    rw [b2 j c1 (by omega) (by rcases hq' with ⟨_, rfl⟩ | h1; exact c3; omega)]
    exact hfr j c2 (.inr c3)
  · have e : i = L.length := by omega
    subst e
    rw [if_neg hi2, if_pos rfl, ← h.len, gt_app_r]
    intro H'' b1 b2
    have c0 : q2 ≠ q' := by
      rcases hq' with ⟨hv, rfl⟩ | h1
      · rcases hne with h1 | h1
        · exact absurd h1 hv
        · exact h1
      · omega
    refine JS.of_gs (gs_keep (H' := H'') h2 (.inr ?_))
    rw [b2 q2 hq2 (by omega) c0]
    exact hfr q2 hq2l (by rcases hne with h1 | h1; exact .inl h1; exact .inr h1)
theorem SS.slen {N : Nat} {H : Hp} {v : AV} {q : Nat} {xs : List AV} {L : List (List Nat)} (h : SS N H v q xs L) : Zz.slen v = some L.length := by
  rw [h.gs.len Nat.one_pos, Nat.div_one, h.len]
theorem SS.at {N : Nat} {H : Hp} {v : AV} {q : Nat} {xs : List AV} {L : List (List Nat)} (h : SS N H v q xs L) {i : Nat} (hi : i < L.length) : ∃ g, indexAddrAV 1 v (.int .i64 (i : Nat)) = some (.pref q g i) ∧ Zz.look H q g = some xs ∧ xs[i]? = some (gt xs i) := by
  have hl := h.len
  obtain ⟨g, n, rfl, h1, h2, _⟩ := h.gs.ref (by intro e; rw [e] at hl; simp at hl; omega)
  refine ⟨g, by rw [ia_sref, idx_nat (show i < n by omega)]; simp, h2, ?_⟩
  rw [gt_eq, List.getD_eq_getElem?_getD, List.getElem?_eq_getElem (by omega)]
  rfl
end Go.Proofs.Ytnilimjkibimcaa

