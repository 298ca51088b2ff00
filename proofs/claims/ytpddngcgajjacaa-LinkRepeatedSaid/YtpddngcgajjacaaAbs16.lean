/-
  Regions that draw their order, part 2: an operation that saw less of the memory.
-/
import Derived.Test.YtpddngcgajjacaaAbs15
namespace Go.Zz

/-- A run over a part of the memory, seen over the whole. -/
theorem merge {P : Program} {M M' : Mp} {G Hk Hout G' : Hp} {L L' : List (Option ALoop)} {w w' : World} (hG : Holds P M G L w) (hs : Sub Hk G) (ho : Holds P M' Hout L' w') (k : Fr M Hk L w M' Hout L' w')
    (ha : ∀ (id : Nat) (b : Blk), G'[id]? = some (some b) → Hout[id]? = some (some b) ∨ (G[id]? = some (some b) ∧ ∀ b' : Blk, Hout[id]? ≠ some (some b')))
    (hb : ∀ (id : Nat) (b : Blk), Hout[id]? = some (some b) → ∃ b' : Blk, G'[id]? = some (some b')) (hc : ∀ (id : Nat) (b : Blk), G[id]? = some (some b) → ∃ b' : Blk, G'[id]? = some (some b')) (hd : G.length ≤ G'.length) :
    Holds P M' G' L' w' ∧ Fr M G L w M' G' L' w' := by
  -- a block that the run did not see
  have unseen : ∀ (id : Nat) (b : Blk) lc, G[id]? = some (some b) → (∀ b' : Blk, Hout[id]? ≠ some (some b')) → HB M w id b lc → w'.heap[lc.blk]? = w.heap[lc.blk]? := by
    intro id b lc hg hn hB
    refine k.keep _ hB.lt (fun id' b' lc' h1 h2 e => ?_) (fun i r h1 h2 => ?_)
    · have := hG.inj id' id b' b lc' lc (hs _ _ h1) hg h2 hB.loc e
      subst this
      obtain ⟨b2, hb2⟩ := k.live _ _ h1
      exact hn b2 hb2
    · obtain ⟨l, g1, g2⟩ := hG.lp i r h1
      rw [h2] at g1
      cases g1
      obtain ⟨q, hq, _⟩ := g2.obj
      have := hB.obj
      simp [World.shape?, hq] at this
  have locs : ∀ (id : Nat) (b : Blk) lc, G[id]? = some (some b) → M'.loc id b.gen = some lc → M.loc id b.gen = some lc := by
    intro id b lc hg hl
    obtain ⟨lc0, hB⟩ := hG.blk id b hg
    have := k.le.loc _ _ _ hB.loc
    rw [hl] at this
    rw [Option.some.inj this]
    exact hB.loc
  have lts : ∀ (id : Nat) (b : Blk) lc, G[id]? = some (some b) → M.loc id b.gen = some lc → lc.blk < w.heap.size := by
    intro id b lc hg hl
    obtain ⟨lc0, hB⟩ := hG.blk id b hg
    have := hB.loc
    rw [hl] at this
    rw [Option.some.inj this]
    exact hB.lt
  have cross : ∀ (id id' : Nat) (b b' : Blk) lc lc', G[id]? = some (some b) → M.loc id b.gen = some lc → Hout[id']? = some (some b') → M'.loc id' b'.gen = some lc' → lc.blk = lc'.blk → id = id' := by
    intro id id' b b' lc lc' h1 h2 h3 h4 e
    obtain ⟨bl0, lc0, x1, x2, x3⟩ := k.old id' b' lc' h3 h4 (e ▸ lts id b lc h1 h2)
    exact hG.inj id id' b bl0 lc lc0 h1 (hs _ _ x1) h2 x2 (e.trans x3.symm)
  refine ⟨⟨ho.imm, ?_, ?_, ?_, ?_, ho.lp, ho.lpi⟩, ?_⟩
  · intro id b hg
    rcases ha id b hg with h1 | ⟨h1, h2⟩
    · exact ho.blk id b h1
    · obtain ⟨lc, hB⟩ := hG.blk id b h1
      exact ⟨lc, hB.kept k.le (unseen id b lc h1 h2 hB) k.size⟩
  · intro id b lc hg hl o
    rcases ha id b hg with h1 | ⟨h1, h2⟩
    · exact ho.sep id b lc h1 hl o
    · rw [k.imm _ _ (lts id b lc h1 (locs id b lc h1 hl))]; exact hG.sep id b lc h1 (locs id b lc h1 hl) o
  · intro id id' b b' lc lc' hg hg' hl hl' e
    rcases ha id b hg with h1 | ⟨h1, h2⟩ <;> rcases ha id' b' hg' with h3 | ⟨h3, h4⟩
    · exact ho.inj id id' b b' lc lc' h1 h3 hl hl' e
    · exact (cross id' id b' b lc' lc h3 (locs _ _ _ h3 hl') h1 hl e.symm).symm
    · exact cross id id' b b' lc lc' h1 (locs _ _ _ h1 hl) h3 hl' e
    · exact hG.inj id id' b b' lc lc' h1 h3 (locs _ _ _ h1 hl) (locs _ _ _ h3 hl') e
  · intro id b g hg hlt
    rcases ha id b hg with h1 | ⟨h1, h2⟩
    · exact ho.gen id b g h1 hlt
    · cases hx : M'.loc id g with
      | none => rfl
      | some lc =>
        obtain ⟨b2, hb2⟩ := k.only id g lc hx (hG.gen id b g h1 hlt)
        exact absurd hb2 (h2 b2)
  · refine ⟨k.os, k.output, k.size, k.froz, ?_, ?_, k.oldl, hd, k.llen, k.le, ?_, hc, k.imm, k.onlyl, k.lstay⟩
    · intro b hlt h1 h2
      exact k.keep b hlt (fun id bl lc h3 h4 => h1 id bl lc (hs _ _ h3) h4) h2
    · intro id bl lc hg hl hlt
      rcases ha id bl hg with h1 | ⟨h1, h2⟩
      · obtain ⟨bl0, lc0, x1, x2, x3⟩ := k.old id bl lc h1 hl hlt
        exact ⟨bl0, lc0, hs _ _ x1, x2, x3⟩
      · exact ⟨bl, lc, h1, locs _ _ _ h1 hl, rfl⟩
    · intro id g lc h1 h2
      obtain ⟨b, hb'⟩ := k.only id g lc h1 h2
      exact hb id b hb'

/-- A memory with nothing more at its end is none other. -/
theorem padded {P : Program} {M : Mp} {H G : Hp} {L : List (Option ALoop)} {w w' : World} (h : Holds P M H L w) (hG : ∀ (id : Nat) (b : Blk), G[id]? = some (some b) ↔ H[id]? = some (some b)) (hl : H.length ≤ G.length)
    (hw : w'.heap = w.heap) (hos : w'.os = w.os) (hout : w'.output = w.output) : Holds P M G L w' ∧ Fr M H L w M G L w' := by
  have hz : w.heap.size ≤ w'.heap.size := by rw [hw]; exact Nat.le_refl _
  have hk : ∀ b : Nat, w'.heap[b]? = w.heap[b]? := fun b => by rw [hw]
  refine ⟨⟨fun b o v hv => by rw [World.cell?_of_block (w := w) (hk _)]; exact h.imm b o v hv, fun id b hb => ?_, fun id b lc hb => h.sep id b lc ((hG _ _).1 hb), fun id id' b b' lc lc' h1 h2 => h.inj id id' b b' lc lc' ((hG _ _).1 h1) ((hG _ _).1 h2),
    fun id b g hb => h.gen id b g ((hG _ _).1 hb), fun i r hr => ?_, h.lpi⟩, ⟨hos, hout, hz, fun a => World.frozen?_of_block (hk _), fun b _ _ _ => hk b, fun id bl lc h1 h2 _ => ⟨bl, lc, (hG _ _).1 h1, h2, rfl⟩, fun i r l h1 h2 _ => ⟨r, h1, h2⟩,
    hl, Nat.le_refl _, Mp.le.refl _, (fun _ _ _ h1 h2 => by rw [h1] at h2; cases h2), fun id b hb => ⟨b, (hG _ _).2 hb⟩, (fun _ _ _ => rfl), (fun _ _ h1 h2 => by rw [h1] at h2; cases h2), fun l q hq => ⟨q, (hk l).trans hq⟩⟩⟩
  · obtain ⟨lc, hB⟩ := h.blk id b ((hG _ _).1 hb)
    exact ⟨lc, hB.kept (Mp.le.refl _) (hk _) hz⟩
  · obtain ⟨l, h1, h2⟩ := h.lp i r hr
    exact ⟨l, h1, h2.kept (Mp.le.refl _) (hk _)⟩

/-! ### The table of the order -/

theorem List.all_zipIdx {α : Type} {l : List α} {f : α → Nat → Bool} (h : (l.zipIdx.all fun p => f p.1 p.2) = true) {i : Nat} {x : α} (hx : l[i]? = some x) : f x i = true := by
  rw [List.all_eq_true] at h
  refine h (x, i) ?_
  rw [List.mk_mem_zipIdx_iff_getElem?]
  exact hx

theorem slotsOk_spec {b : Array Nat} {l : List IOper} (h : slotsOk b l = true) {i j : Nat} {oi oj : IOper} (hi : l[i]? = some oi) (hj : l[j]? = some oj) (hne : i ≠ j) {t : Nat} (hd : oi.dst = some t) (ht : t ∈ oj.slots) : ordered b i j = true := by
  unfold slotsOk at h
  have h1 := List.all_zipIdx (f := fun oj j => l.zipIdx.all fun p => p.2 == j || (match p.1.dst with | some t => !(oj.slots.contains t) || ordered b p.2 j | none => true)) h hj
  have h2 := List.all_zipIdx (f := fun oi i => i == j || (match oi.dst with | some t => !(oj.slots.contains t) || ordered b i j | none => true)) h1 hi
  simpa [hne, hd, ht] using h2

theorem permOk_spec {n : Nat} {perm : List Nat} (h : permOk n perm = true) : perm.length = n ∧ (∀ i, i < n → ∃ p, p < n ∧ perm.getD p n = i) ∧ ∀ p q, p < n → q < n → perm.getD p n = perm.getD q n → p = q := by
  unfold permOk at h
  simp only [Bool.and_eq_true, beq_iff_eq, List.all_eq_true, List.mem_range, Bool.or_eq_true, bne_iff_ne, ne_eq] at h
  obtain ⟨⟨h1, h2⟩, h3⟩ := h
  refine ⟨h1, fun i hi => ?_, fun p q hp hq e => ?_⟩
  · have := h2 i hi
    rw [List.contains_iff_mem] at this
    obtain ⟨p, hp, e⟩ := List.getElem_of_mem this
    exact ⟨p, by omega, by simp [List.getD, hp, e]⟩
  · rcases h3 p hp q hq with e2 | e2
    · exact e2
    · exact absurd e e2

theorem closed_back {b : Array Nat} {ops : Array Oper} {perm : List Nat} (h : closedOk b ops perm = true) {p : Nat} (hp : p < ops.size) : ∃ o, ops[perm.getD p ops.size]? = some o ∧ (∀ e ∈ o.after, Region.binds .any e = true → ∃ q, q < p ∧ perm.getD q ops.size = e.on) ∧
    ∀ i, i < ops.size → (b.getD p 0).testBit i = true → ∃ e ∈ o.after, Region.binds .any e = true ∧ ∃ q, q < p ∧ perm.getD q ops.size = e.on ∧ (q = i ∨ (b.getD q 0).testBit i = true) := by
  unfold closedOk at h
  rw [List.all_eq_true] at h
  have h1 := h p (by simpa using hp)
  split at h1
  · rename_i o ho
    simp only [Bool.and_eq_true, Array.all_eq_true', List.all_eq_true, List.mem_range] at h1
    obtain ⟨h2, h3⟩ := h1
    refine ⟨o, ho, fun e he hb => ?_, fun i hi hb => ?_⟩
    · have := h2 e he
      rw [hb] at this
      simp only [Bool.not_true, Bool.false_or, List.any_eq_true, List.mem_range, beq_iff_eq] at this
      exact this
    · have := h3 i hi
      rw [hb] at this
      simp only [Bool.not_true, Bool.false_or, Array.any_eq_true', Bool.and_eq_true, List.any_eq_true, List.mem_range, beq_iff_eq, Bool.or_eq_true] at this
      obtain ⟨e, e1, e2, q, e3, e4, e5⟩ := this
      exact ⟨e, e1, e2, q, e3, e4, e5⟩
  · cases h1

/-- What is done with all that comes before it. -/
def Down (ops : Array Oper) (E : Nat → Bool) : Prop := ∀ (i : Nat) (o : Oper), E i = true → ops[i]? = some o → ∀ e ∈ o.after, Region.binds .any e = true → E e.on = true

theorem closed_spec {b : Array Nat} {ops : Array Oper} {perm : List Nat} (h : closedOk b ops perm = true) {E : Nat → Bool} (hE : Down ops E) :
    ∀ (p : Nat) (o : Oper), p < ops.size → ops[perm.getD p ops.size]? = some o → (∀ e ∈ o.after, Region.binds .any e = true → E e.on = true) → ∀ i, i < ops.size → (b.getD p 0).testBit i = true → E (perm.getD i ops.size) = true ∧ i < p := by
  intro p
  induction p using Nat.strongRecOn with
  | ind p ih =>
    intro o hp ho he i hi hb
    obtain ⟨o', ho', _, h3⟩ := closed_back h hp
    rw [ho] at ho'
    cases ho'
    obtain ⟨e, e1, e2, q, e3, e4, e5⟩ := h3 i hi hb
    have e6 := he e e1 e2
    rcases e5 with rfl | e5
    · exact ⟨e4 ▸ e6, e3⟩
    · obtain ⟨oq, hoq, _, _⟩ := closed_back h (p := q) (by omega)
      obtain ⟨g1, g2⟩ := ih q e3 oq (by omega) hoq (fun e' h1 h2 => hE _ oq (e4 ▸ e6) hoq e' h1 h2) i hi e5
      exact ⟨g1, by omega⟩

/-- The table points back. -/
theorem closed_lt {b : Array Nat} {ops : Array Oper} {perm : List Nat} (h : closedOk b ops perm = true) {p i : Nat} (hp : p < ops.size) (hi : i < ops.size) (hb : (b.getD p 0).testBit i = true) : i < p := by
  obtain ⟨o, ho, _, _⟩ := closed_back h hp
  exact (closed_spec h (E := fun _ => true) (fun _ _ _ _ _ _ _ => rfl) p o hp ho (fun _ _ _ => rfl) i hi hb).2

end Go.Zz
