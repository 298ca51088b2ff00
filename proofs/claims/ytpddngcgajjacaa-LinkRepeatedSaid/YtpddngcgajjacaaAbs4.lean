/-
  What holds of the world; how it is kept when a block is made, written, grown.
-/
import Derived.Test.YtpddngcgajjacaaAbs3
namespace Go.Zz

structure HB (M : Mp) (w : World) (id : Nat) (b : Blk) (lc : Loc) : Prop where
  loc : M.loc id b.gen = some lc
  len : lc.len = b.cells.length
  room : b.cells.length ≤ lc.room
  there : ∀ i, i < lc.room → (w.cell? ⟨lc.blk, lc.base + i, none⟩).isSome = true
  rel : ∀ i, i < b.cells.length → ∃ v, w.cell? ⟨lc.blk, lc.base + i, none⟩ = some v ∧ RV M (gt b.cells i) v ∧ v.oneCell' = true
  froz : ∀ o, w.frozen? ⟨lc.blk, o, none⟩ = false
  lt : lc.blk < w.heap.size
  obj : (w.shape? lc.blk).isSome = true

/-- A loop's record. -/
structure HL (P : Program) (M : Mp) (w : World) (l : Nat) (r : ALoop) : Prop where
  obj : ∃ q : Loop, w.heap[l]? = some (.loop q) ∧ RVs M r.tmps q.tmps ∧ r.params = q.params.toList ∧ cCode P q.assign = some r.assign ∧ cCode P q.body = some r.body ∧
    (match r.ready, r.pending with
     | true, none => q.state = .ready ∧ q.pending = none
     | false, none => q.state = .busy
     | false, some .ret => q.state = .done ∧ q.pending = some .ret
     | false, some (.exit id) => q.state = .done ∧ q.pending = some (.exit id)
     | _, _ => False)

structure Holds (P : Program) (M : Mp) (H : Hp) (L : List (Option ALoop)) (w : World) : Prop where
  imm : ∀ b o v, M.imm b o = some v → w.cell? ⟨b, o, none⟩ = some v
  blk : ∀ id b, H[id]? = some (some b) → ∃ lc, HB M w id b lc
  sep : ∀ id b lc, H[id]? = some (some b) → M.loc id b.gen = some lc → ∀ o, M.imm lc.blk o = none
  inj : ∀ id id' b b' lc lc', H[id]? = some (some b) → H[id']? = some (some b') → M.loc id b.gen = some lc → M.loc id' b'.gen = some lc' → lc.blk = lc'.blk → id = id'
  gen : ∀ id b g, H[id]? = some (some b) → b.gen < g → M.loc id g = none
  lp : ∀ k r, L[k]? = some (some r) → ∃ l, M.lp k = some l ∧ HL P M w l r
  lpi : ∀ k k' r r' l, L[k]? = some (some r) → L[k']? = some (some r') → M.lp k = some l → M.lp k' = some l → k = k'

/-- From H down to H': blocks struck. -/
def Sub (H' H : Hp) : Prop := ∀ (id : Nat) (b : Blk), H'[id]? = some (some b) → H[id]? = some (some b)

theorem Holds.sub {P : Program} {M : Mp} {H H' : Hp} {L : List (Option ALoop)} {w : World} (h : Holds P M H L w) (hs : Sub H' H) : Holds P M H' L w :=
  ⟨h.imm, fun id b hb => h.blk id b (hs id b hb), fun id b lc hb => h.sep id b lc (hs id b hb), fun id id' b b' lc lc' h1 h2 => h.inj id id' b b' lc lc' (hs _ _ h1) (hs _ _ h2),
   fun id b g hb => h.gen id b g (hs id b hb), h.lp, h.lpi⟩

/-- What a piece of code has done to the world. -/
structure Fr (M : Mp) (H : Hp) (L : List (Option ALoop)) (w : World) (M' : Mp) (H' : Hp) (L' : List (Option ALoop)) (w' : World) : Prop where
  os : w'.os = w.os
  output : w'.output = w.output
  size : w.heap.size ≤ w'.heap.size
  froz : ∀ a, w'.frozen? a = w.frozen? a
  keep : ∀ b, b < w.heap.size → (∀ id bl lc, H[id]? = some (some bl) → M.loc id bl.gen = some lc → lc.blk ≠ b) → (∀ k r, L[k]? = some (some r) → M.lp k ≠ some b) → w'.heap[b]? = w.heap[b]?
  old : ∀ id bl lc, H'[id]? = some (some bl) → M'.loc id bl.gen = some lc → lc.blk < w.heap.size → ∃ bl0 lc0, H[id]? = some (some bl0) ∧ M.loc id bl0.gen = some lc0 ∧ lc0.blk = lc.blk
  oldl : ∀ k r l, L'[k]? = some (some r) → M'.lp k = some l → l < w.heap.size → ∃ r0, L[k]? = some (some r0) ∧ M.lp k = some l
  hlen : H.length ≤ H'.length
  llen : L.length ≤ L'.length
  le : M.le M'
  only : ∀ id g lc, M'.loc id g = some lc → M.loc id g = none → ∃ b : Blk, H'[id]? = some (some b)
  live : ∀ (id : Nat) (b : Blk), H[id]? = some (some b) → ∃ b' : Blk, H'[id]? = some (some b')
  imm : ∀ b o, b < w.heap.size → M'.imm b o = M.imm b o
  onlyl : ∀ k l, M'.lp k = some l → M.lp k = none → k < L'.length
  lstay : ∀ (l : Nat) (q : Loop), w.heap[l]? = some (.loop q) → ∃ q' : Loop, w'.heap[l]? = some (.loop q')

theorem Fr.refl (M : Mp) (H : Hp) (L : List (Option ALoop)) (w : World) : Fr M H L w M H L w where
  os := rfl
  output := rfl
  size := Nat.le_refl _
  froz := fun _ => rfl
  keep := fun _ _ _ _ => rfl
  old := fun _ bl lc h1 h2 _ => ⟨bl, lc, h1, h2, rfl⟩
  oldl := fun _ r _ h1 h2 _ => ⟨r, h1, h2⟩
  hlen := Nat.le_refl _
  llen := Nat.le_refl _
  le := Mp.le.refl _
  only := fun _ _ _ h1 h2 => by rw [h1] at h2; cases h2
  live := fun _ b h => ⟨b, h⟩
  imm := fun _ _ _ => rfl
  onlyl := fun _ _ h1 h2 => by rw [h1] at h2; cases h2
  lstay := fun _ q h => ⟨q, h⟩

theorem Fr.trans {M M1 M2 : Mp} {H H1 H2 : Hp} {L L1 L2 : List (Option ALoop)} {w w1 w2 : World} (h : Fr M H L w M1 H1 L1 w1) (k : Fr M1 H1 L1 w1 M2 H2 L2 w2) : Fr M H L w M2 H2 L2 w2 where
  os := k.os.trans h.os
  output := k.output.trans h.output
  size := Nat.le_trans h.size k.size
  froz := fun a => (k.froz a).trans (h.froz a)
  keep := by
    intro b hb h1 h2
    rw [k.keep b (Nat.lt_of_lt_of_le hb h.size), h.keep b hb h1 h2]
    · intro id bl lc hbl hlc e
      obtain ⟨bl0, lc0, x1, x2, x3⟩ := h.old id bl lc hbl hlc (e ▸ hb)
      exact h1 id bl0 lc0 x1 x2 (x3.trans e)
    · intro k' r hr e
      obtain ⟨r0, x1, x2⟩ := h.oldl k' r b hr e hb
      exact h2 k' r0 x1 x2
  old := by
    intro id bl lc hbl hlc hlt
    obtain ⟨bl0, lc0, x1, x2, x3⟩ := k.old id bl lc hbl hlc (Nat.lt_of_lt_of_le hlt h.size)
    obtain ⟨bl1, lc1, y1, y2, y3⟩ := h.old id bl0 lc0 x1 x2 (x3 ▸ hlt)
    exact ⟨bl1, lc1, y1, y2, y3.trans x3⟩
  oldl := by
    intro k' r l hr hl hlt
    obtain ⟨r0, x1, x2⟩ := k.oldl k' r l hr hl (Nat.lt_of_lt_of_le hlt h.size)
    exact h.oldl k' r0 l x1 x2 hlt
  hlen := Nat.le_trans h.hlen k.hlen
  llen := Nat.le_trans h.llen k.llen
  le := h.le.trans k.le
  only := by
    intro id g lc h2 h0
    cases h1 : M1.loc id g with
    | none => exact k.only id g lc h2 h1
    | some lc1 =>
      obtain ⟨b, hb⟩ := h.only id g lc1 h1 h0
      exact k.live id b hb
  live := fun id b hb => by obtain ⟨b1, h1⟩ := h.live id b hb; exact k.live id b1 h1
  imm := fun b o hb => (k.imm b o (Nat.lt_of_lt_of_le hb h.size)).trans (h.imm b o hb)
  onlyl := by
    intro k' l h2 h0
    cases h1 : M1.lp k' with
    | none => exact k.onlyl k' l h2 h1
    | some l1 => exact Nat.lt_of_lt_of_le (h.onlyl k' l1 h1 h0) k.llen
  lstay := fun l q hq => by obtain ⟨q1, h1⟩ := h.lstay l q hq; exact k.lstay l q1 h1

/-- No place is known yet for what is not there yet. -/
structure Fresh (M : Mp) (H : Hp) (L : List (Option ALoop)) : Prop where
  loc : ∀ id g, H.length ≤ id → M.loc id g = none
  lp : ∀ k, L.length ≤ k → M.lp k = none

theorem Fresh.fr {M M' : Mp} {H H' : Hp} {L L' : List (Option ALoop)} {w w' : World} (h : Fresh M H L) (k : Fr M H L w M' H' L' w') : Fresh M' H' L' where
  loc := by
    intro id g hid
    cases h1 : M'.loc id g with
    | none => rfl
    | some lc =>
      obtain ⟨b, hb⟩ := k.only id g lc h1 (h.loc id g (Nat.le_trans k.hlen hid))
      have := (List.getElem?_eq_some_iff.1 hb).1
      omega
  lp := by
    intro i hi
    cases h1 : M'.lp i with
    | none => rfl
    | some l => have := k.onlyl i l h1 (h.lp i (Nat.le_trans k.llen hi)); omega

/-! ### What a kept block carries -/

theorem cell_lt {w : World} {b o : Nat} {v : Value} (h : w.cell? ⟨b, o, none⟩ = some v) : b < w.heap.size := World.block_lt_of_cell? w _ h

theorem HB.kept {M M' : Mp} {w w' : World} {id : Nat} {b : Blk} {lc : Loc} (h : HB M w id b lc) (hle : M.le M') (hk : w'.heap[lc.blk]? = w.heap[lc.blk]?) (hsz : w.heap.size ≤ w'.heap.size) : HB M' w' id b lc where
  loc := hle.loc _ _ _ h.loc
  len := h.len
  room := h.room
  there := fun i hi => by rw [World.cell?_of_block (w := w) hk]; exact h.there i hi
  rel := fun i hi => by
    obtain ⟨v, h1, h2, h3⟩ := h.rel i hi
    exact ⟨v, by rw [World.cell?_of_block (w := w) hk]; exact h1, h2.mono hle, h3⟩
  froz := fun o => by rw [World.frozen?_of_block (w := w) hk]; exact h.froz o
  lt := Nat.lt_of_lt_of_le h.lt hsz
  obj := by have := h.obj; simp only [World.shape?, hk] at this ⊢; exact this

theorem HL.kept {P : Program} {M M' : Mp} {w w' : World} {l : Nat} {r : ALoop} (h : HL P M w l r) (hle : M.le M') (hk : w'.heap[l]? = w.heap[l]?) : HL P M' w' l r := by
  obtain ⟨q, h1, h2, h3⟩ := h.obj
  exact ⟨q, hk.trans h1, h2.mono hle, h3⟩

theorem HL.lt {P : Program} {M : Mp} {w : World} {l : Nat} {r : ALoop} (h : HL P M w l r) : l < w.heap.size := by
  obtain ⟨q, h1, _⟩ := h.obj
  exact (Array.getElem?_eq_some_iff.1 h1).1

/-- A loop's record is no block of cells. -/
theorem HL.ne {P : Program} {M : Mp} {w : World} {l : Nat} {r : ALoop} (h : HL P M w l r) {b o : Nat} (hb : (w.cell? ⟨b, o, none⟩).isSome = true) : b ≠ l := by
  rintro rfl
  obtain ⟨q, h1, _⟩ := h.obj
  simp [World.cell?, h1] at hb

/-! ### A block is made -/

def Mp.ext (M : Mp) (id g : Nat) (lc : Loc) : Mp := { M with loc := fun i j => if i = id ∧ j = g then some lc else M.loc i j }

theorem Mp.ext_le {M : Mp} {id g : Nat} {lc : Loc} (h : M.loc id g = none) : M.le (M.ext id g lc) where
  imm := fun _ _ _ h => h
  loc := fun i j l hl => by
    simp only [Mp.ext]
    split
    · rename_i e; obtain ⟨rfl, rfl⟩ := e; rw [h] at hl; cases hl
    · exact hl
  lp := fun _ _ h => h

theorem Mp.ext_same {M : Mp} {id g : Nat} {lc : Loc} : (M.ext id g lc).loc id g = some lc := by simp [Mp.ext]
theorem Mp.ext_other {M : Mp} {id g i j : Nat} {lc : Loc} (h : ¬ (i = id ∧ j = g)) : (M.ext id g lc).loc i j = M.loc i j := by simp [Mp.ext, h]

/-- A new block of cells, with some drawn numbers: 'cs' lie at its head. -/
theorem made {P : Program} {M : Mp} {H : Hp} {L : List (Option ALoop)} {w w' : World} (h : Holds P M H L w) (hf : ∀ g, M.loc H.length g = none)
    (cs : List AV) (c : Array Value) (e : TypeId) (hw : w'.heap = w.heap.push (.cells c e)) (hos : w'.os = w.os) (hout : w'.output = w.output)
    (hlen : cs.length ≤ c.size) (hrel : ∀ i, i < cs.length → RV M (gt cs i) (ag c i) ∧ (ag c i).oneCell' = true) :
    let lc : Loc := ⟨w.heap.size, 0, cs.length, c.size⟩
    let M' := M.ext H.length 0 lc
    Holds P M' (H ++ [some ⟨0, cs⟩]) L w' ∧ Fr M H L w M' (H ++ [some ⟨0, cs⟩]) L w' ∧ M'.loc H.length 0 = some lc := by
  intro lc M'
  have hle : M.le M' := Mp.ext_le (hf 0)
  have hold : ∀ b, b < w.heap.size → w'.heap[b]? = w.heap[b]? := fun b hb => by rw [hw, Array.getElem?_push]; simp [Nat.ne_of_lt hb]
  have hnew : w'.heap[w.heap.size]? = some (.cells c e) := by rw [hw]; simp
  have hsz : w.heap.size ≤ w'.heap.size := by rw [hw]; simp
  have hcell : ∀ i, w'.cell? ⟨w.heap.size, i, none⟩ = c[i]? := fun i => by simp [World.cell?, hnew]
  have hget : ∀ (id : Nat) (b : Blk), (H ++ [some ⟨0, cs⟩])[id]? = some (some b) → (id < H.length ∧ H[id]? = some (some b)) ∨ (id = H.length ∧ b = ⟨0, cs⟩) := by
    intro id b hb
    rw [List.getElem?_append] at hb
    split at hb
    · rename_i hlt; exact .inl ⟨hlt, hb⟩
    · rename_i hge
      by_cases e0 : id = H.length
      · subst e0; simp at hb; exact .inr ⟨rfl, hb.symm⟩
      · have : id - H.length ≠ 0 := by omega
        cases hd : id - H.length with
        | zero => omega
        | succ n => simp [hd] at hb
  have hloc : ∀ id g, id < H.length → M'.loc id g = M.loc id g := fun id g hlt => Mp.ext_other (by omega)
  have hsame : M'.loc H.length 0 = some lc := Mp.ext_same
  have hblk : ∀ id b lc, H[id]? = some (some b) → M.loc id b.gen = some lc → lc.blk < w.heap.size := fun id b lc hb hl => by
    obtain ⟨lc', hB⟩ := h.blk id b hb
    have : lc = lc' := by have := hB.loc; rw [hl] at this; exact Option.some.inj this
    exact this ▸ hB.lt
  refine ⟨⟨?_, ?_, ?_, ?_, ?_, ?_, ?_⟩, ?_, hsame⟩
  · intro b o v hv
    have h0 := h.imm b o v hv
    rw [World.cell?_of_block (w := w) (hold b (cell_lt h0))]
    exact h0
  · intro id b hb
    rcases hget id b hb with ⟨hlt, hb⟩ | ⟨rfl, rfl⟩
    · obtain ⟨lc', hB⟩ := h.blk id b hb
      exact ⟨lc', hB.kept hle (hold _ hB.lt) hsz⟩
    · refine ⟨lc, hsame, rfl, hlen, ?_, ?_, ?_, ?_, by simp [World.shape?, lc, hnew]⟩
      · intro i hi
        rw [Nat.zero_add, hcell]
        simpa using hi
      · intro i hi
        have hi' : i < c.size := Nat.lt_of_lt_of_le hi hlen
        obtain ⟨r1, r2⟩ := hrel i hi
        refine ⟨ag c i, ?_, r1.mono hle, r2⟩
        rw [Nat.zero_add, hcell, Array.getElem?_eq_getElem hi', ag_of_lt hi']
      · intro o
        simp [World.frozen?, lc, hnew]
      · show w.heap.size < w'.heap.size
        rw [hw]; simp
  · intro id b lc' hb hl o
    rcases hget id b hb with ⟨hlt, hb⟩ | ⟨rfl, rfl⟩
    · rw [hloc id _ hlt] at hl
      exact h.sep id b lc' hb hl o
    · rw [hsame] at hl
      cases hl
      cases hi : M.imm w.heap.size o with
      | none => exact hi
      | some v => exact absurd (cell_lt (h.imm _ _ _ hi)) (Nat.lt_irrefl _)
  · intro id id' b b' l1 l2 hb hb' hl hl' e0
    rcases hget id b hb with ⟨hlt, hb⟩ | ⟨rfl, rfl⟩ <;> rcases hget id' b' hb' with ⟨hlt', hb'⟩ | ⟨rfl, rfl⟩
    · rw [hloc id _ hlt] at hl
      rw [hloc id' _ hlt'] at hl'
      exact h.inj id id' b b' l1 l2 hb hb' hl hl' e0
    · rw [hloc id _ hlt] at hl
      rw [hsame] at hl'
      cases hl'
      have := hblk id b l1 hb hl
      rw [e0] at this
      exact absurd this (Nat.lt_irrefl _)
    · rw [hloc id' _ hlt'] at hl'
      rw [hsame] at hl
      cases hl
      have := hblk id' b' l2 hb' hl'
      rw [← e0] at this
      exact absurd this (Nat.lt_irrefl _)
    · rfl
  · intro id b g hb hg
    rcases hget id b hb with ⟨hlt, hb⟩ | ⟨rfl, rfl⟩
    · rw [hloc id _ hlt]; exact h.gen id b g hb hg
    · rw [Mp.ext_other (by simp at hg; omega)]; exact hf g
  · intro k r hr
    obtain ⟨l, h1, h2⟩ := h.lp k r hr
    exact ⟨l, h1, h2.kept hle (hold l h2.lt)⟩
  · intro k k' r r' l h1 h2 h3 h4
    exact h.lpi k k' r r' l h1 h2 h3 h4
  · refine ⟨hos, hout, hsz, ?_, fun b hb _ _ => hold b hb, ?_, ?_, by simp, Nat.le_refl _, hle, ?_, (fun id b hb => ⟨b, by rw [List.getElem?_append_left (List.getElem?_eq_some_iff.1 hb).1]; exact hb⟩), (fun _ _ _ => rfl), ?_, fun l q hq => ⟨q, (hold l (Array.getElem?_eq_some_iff.1 hq).1).trans hq⟩⟩
    · intro a
      by_cases hlt : a.block < w.heap.size
      · exact World.frozen?_of_block (hold _ hlt)
      · have e1 : w.heap[a.block]? = none := by simpa using hlt
        by_cases e2 : a.block = w.heap.size
        · simp [World.frozen?, e2, hnew]
        · have : w'.heap[a.block]? = none := by rw [hw]; simp; omega
          simp [World.frozen?, e1, this]
    · intro id b lc' hb hl hlt
      rcases hget id b hb with ⟨hlt', hb⟩ | ⟨rfl, rfl⟩
      · rw [hloc id _ hlt'] at hl
        exact ⟨b, lc', hb, hl, rfl⟩
      · rw [hsame] at hl
        cases hl
        exact absurd hlt (Nat.lt_irrefl _)
    · intro k r l h1 h2 _
      exact ⟨r, h1, h2⟩
    · intro id g lc' h1 h0
      by_cases e0 : id = H.length ∧ g = 0
      · exact ⟨⟨0, cs⟩, by simp [e0.1]⟩
      · rw [Mp.ext_other e0, h0] at h1; cases h1
    · intro k l h1 h0
      rw [show M'.lp k = M.lp k from rfl, h0] at h1; cases h1

/-! ### A block is written, or grows -/

theorem setCells_size (b : Nat) : ∀ (vs : List Value) (o : Nat) (w : World), (w.setCells b o vs).heap.size = w.heap.size
  | [], _, _ => rfl
  | v :: r, o, w => by rw [World.setCells, setCells_size b r]; simp [World.setCell]
theorem setCells_other (b : Nat) : ∀ (vs : List Value) (o : Nat) (w : World) (x : Nat), x ≠ b → (w.setCells b o vs).heap[x]? = w.heap[x]?
  | [], _, _, _, _ => rfl
  | v :: r, o, w, x, h => by
    rw [World.setCells, setCells_other b r _ _ x h]
    simp only [World.setCell, Array.getElem?_modify]
    rw [if_neg (Ne.symm h)]
theorem setCells_os (b : Nat) : ∀ (vs : List Value) (o : Nat) (w : World), (w.setCells b o vs).os = w.os ∧ (w.setCells b o vs).output = w.output
  | [], _, _ => ⟨rfl, rfl⟩
  | v :: r, o, w => by rw [World.setCells]; exact setCells_os b r _ _

/-- The block of one id is another one now, at its old place or at a new one. -/
theorem moved {P : Program} {M M' : Mp} {H : Hp} {L : List (Option ALoop)} {w w' : World} (h : Holds P M H L w) {id : Nat} {b b' : Blk} {lc lc' : Loc}
    (hb : H[id]? = some (some b)) (hl : M.loc id b.gen = some lc) (hle : M.le M') (himm : M'.imm = M.imm) (hlp : M'.lp = M.lp)
    (honly : ∀ i g l, M'.loc i g = some l → M.loc i g = none → i = id ∧ g = b'.gen)
    (hg : b.gen ≤ b'.gen) (hB : HB M' w' id b' lc') (hat : lc'.blk = lc.blk ∨ w.heap.size ≤ lc'.blk)
    (hother : ∀ x, x < w.heap.size → x ≠ lc.blk → w'.heap[x]? = w.heap[x]?) (hfz : ∀ a, w'.frozen? a = w.frozen? a) (hos : w'.os = w.os) (hout : w'.output = w.output) (hsz : w.heap.size ≤ w'.heap.size) :
    Holds P M' (H.set id (some b')) L w' ∧ Fr M H L w M' (H.set id (some b')) L w' := by
  obtain ⟨lc0, hB0⟩ := h.blk id b hb
  have e0 : lc0 = lc := by have := hB0.loc; rw [hl] at this; exact (Option.some.inj this).symm
  subst e0
  have hidlt : id < H.length := (List.getElem?_eq_some_iff.1 hb).1
  have hget : ∀ (i : Nat) (c : Blk), (H.set id (some b'))[i]? = some (some c) → (i = id ∧ c = b') ∨ (i ≠ id ∧ H[i]? = some (some c)) := by
    intro i c hc
    rw [List.getElem?_set] at hc
    split at hc
    · rename_i e; subst e; simp at hc; exact .inl ⟨rfl, hc.symm⟩
    · rename_i e; exact .inr ⟨Ne.symm e, hc⟩
  have hloc : ∀ i c l, i ≠ id → H[i]? = some (some c) → M'.loc i c.gen = some l → M.loc i c.gen = some l := by
    intro i c l hi hc hl'
    obtain ⟨lc1, hB1⟩ := h.blk i c hc
    have := hle.loc _ _ _ hB1.loc
    rw [hl'] at this
    rw [Option.some.inj this]
    exact hB1.loc
  have hl' : ∀ l, M'.loc id b'.gen = some l → l = lc' := fun l e => by have := hB.loc; rw [e] at this; exact Option.some.inj this
  have hne : ∀ i c l, i ≠ id → H[i]? = some (some c) → M.loc i c.gen = some l → l.blk ≠ lc0.blk := fun i c l hi hc hm e => hi (h.inj i id c b l lc0 hc hb hm hl e)
  have hlt : ∀ i c l, H[i]? = some (some c) → M.loc i c.gen = some l → l.blk < w.heap.size := fun i c l hc hm => by
    obtain ⟨lc1, hB1⟩ := h.blk i c hc
    have := hB1.loc
    rw [hm] at this
    rw [Option.some.inj this]
    exact hB1.lt
  refine ⟨⟨?_, ?_, ?_, ?_, ?_, ?_, ?_⟩, ?_⟩
  · intro x o v hv
    rw [himm] at hv
    have h0 := h.imm x o v hv
    have hx : x ≠ lc0.blk := by rintro rfl; rw [h.sep id b lc0 hb hl o] at hv; cases hv
    rw [World.cell?_of_block (w := w) (hother x (cell_lt h0) hx)]
    exact h0
  · intro i c hc
    rcases hget i c hc with ⟨rfl, rfl⟩ | ⟨hi, hc⟩
    · exact ⟨lc', hB⟩
    · obtain ⟨lc1, hB1⟩ := h.blk i c hc
      exact ⟨lc1, hB1.kept hle (hother _ hB1.lt (hne i c lc1 hi hc hB1.loc)) hsz⟩
  · intro i c l hc hm o
    rw [himm]
    rcases hget i c hc with ⟨rfl, rfl⟩ | ⟨hi, hc⟩
    · rw [hl' l hm]
      rcases hat with e | e
      · rw [e]; exact h.sep i b lc0 hb hl o
      · cases hx : M.imm lc'.blk o with
        | none => rfl
        | some v => have := cell_lt (h.imm _ _ _ hx); omega
    · exact h.sep i c l hc (hloc i c l hi hc hm) o
  · intro i i' c c' l l2 hc hc' hm hm' e
    rcases hget i c hc with ⟨e1, e2⟩ | ⟨hi, hc1⟩ <;> rcases hget i' c' hc' with ⟨e3, e4⟩ | ⟨hi', hc1'⟩
    · rw [e1, e3]
    · exfalso
      subst e1; subst e2
      have e1 := hl' l hm
      have m' := hloc i' c' l2 hi' hc1' hm'
      have x1 := hne i' c' l2 hi' hc1' m'
      have x2 := hlt i' c' l2 hc1' m'
      rw [← e, e1] at x1 x2
      rcases hat with a | a
      · exact x1 a
      · omega
    · exfalso
      subst e3; subst e4
      have e1 := hl' l2 hm'
      have m' := hloc i c l hi hc1 hm
      have x1 := hne i c l hi hc1 m'
      have x2 := hlt i c l hc1 m'
      rw [e, e1] at x1 x2
      rcases hat with a | a
      · exact x1 a
      · omega
    · exact h.inj i i' c c' l l2 hc1 hc1' (hloc i c l hi hc1 hm) (hloc i' c' l2 hi' hc1' hm') e
  · intro i c g hc hlt'
    cases hx : M'.loc i g with
    | none => rfl
    | some l =>
      exfalso
      cases hy : M.loc i g with
      | none =>
        obtain ⟨rfl, rfl⟩ := honly i g l hx hy
        rcases hget i c hc with ⟨_, rfl⟩ | ⟨hi, _⟩
        · exact Nat.lt_irrefl _ hlt'
        · exact hi rfl
      | some l2 =>
        rcases hget i c hc with ⟨rfl, rfl⟩ | ⟨hi, hc⟩
        · have := h.gen i b g hb (Nat.lt_of_le_of_lt hg hlt')
          rw [this] at hy; cases hy
        · rw [h.gen i c g hc hlt'] at hy; cases hy
  · intro k r hr
    obtain ⟨l, h1, h2⟩ := h.lp k r hr
    refine ⟨l, by rw [hlp]; exact h1, h2.kept hle (hother l h2.lt ?_)⟩
    rintro rfl
    obtain ⟨q, hq, _⟩ := h2.obj
    have := hB0.obj
    simp [World.shape?, hq] at this
  · intro k k' r r' l h1 h2 h3 h4
    rw [hlp] at h3 h4
    exact h.lpi k k' r r' l h1 h2 h3 h4
  · refine ⟨hos, hout, hsz, hfz, ?_, ?_, ?_, by simp, Nat.le_refl _, hle, ?_, (fun i c hc => by by_cases e : i = id; (· exact ⟨b', by rw [e]; simp [hidlt]⟩); (· exact ⟨c, by rw [List.getElem?_set_ne (Ne.symm e)]; exact hc⟩)), (fun _ _ _ => by rw [himm]), ?_, fun l q hq => ⟨q, (hother l (Array.getElem?_eq_some_iff.1 hq).1 (by
      rintro rfl
      have := hB0.obj
      simp [World.shape?, hq] at this)).trans hq⟩⟩
    · intro x hx h1 _
      exact hother x hx (fun e => h1 id b lc0 hb hl e.symm)
    · intro i c l hc hm hlt'
      rcases hget i c hc with ⟨rfl, rfl⟩ | ⟨hi, hc⟩
      · refine ⟨b, lc0, hb, hl, ?_⟩
        rw [hl' l hm] at hlt' ⊢
        rcases hat with e | e
        · exact e.symm
        · omega
      · exact ⟨c, l, hc, hloc i c l hi hc hm, rfl⟩
    · intro k r l h1 h2 _
      rw [hlp] at h2
      exact ⟨r, h1, h2⟩
    · intro i g l h1 h0
      obtain ⟨rfl, _⟩ := honly i g l h1 h0
      exact ⟨b', by simp [hidlt]⟩
    · intro k l h1 h0
      rw [hlp, h0] at h1; cases h1

theorem over_len {l xs l' : List AV} {off : Nat} (h : over l off xs = some l') : l'.length = l.length ∧ off + xs.length ≤ l.length := by
  unfold over at h
  split at h
  · cases h
    simp
    omega
  · cases h

theorem gt_over {l xs l' : List AV} {off : Nat} (h : over l off xs = some l') (i : Nat) :
    gt l' i = if off ≤ i ∧ i < off + xs.length then gt xs (i - off) else gt l i := by
  unfold over at h
  split at h
  · rename_i hle
    cases h
    simp only [gt_eq, List.getD, List.append_assoc]
    by_cases h1 : i < off
    · rw [List.getElem?_append_left (by simp; omega), if_neg (by omega), List.getElem?_take, if_pos h1]
    · rw [List.getElem?_append_right (by simp; omega)]
      simp only [List.length_take]
      rw [Nat.min_eq_left (by omega)]
      by_cases h2 : i < off + xs.length
      · rw [List.getElem?_append_left (by omega), if_pos ⟨by omega, h2⟩]
      · rw [List.getElem?_append_right (by omega), if_neg (by omega), List.getElem?_drop]
        congr 2
        omega
  · cases h

/-- Cells are written into a block, its number of cells unchanged. -/
theorem wrote {P : Program} {M : Mp} {H : Hp} {L : List (Option ALoop)} {w : World} (h : Holds P M H L w) {id off : Nat} {b : Blk} {lc : Loc}
    (hb : H[id]? = some (some b)) (hl : M.loc id b.gen = some lc) {xs cs : List AV} {vs : List Value} (hx : RVs M xs vs.toArray) (h1 : ∀ v ∈ vs, v.oneCell' = true) (ho : over b.cells off xs = some cs) :
    let w' := w.setCells lc.blk (lc.base + off) vs
    Holds P M (setBlk H id b.gen cs) L w' ∧ Fr M H L w M (setBlk H id b.gen cs) L w' := by
  intro w'
  obtain ⟨lc0, hB⟩ := h.blk id b hb
  have e0 : lc0 = lc := by have := hB.loc; rw [hl] at this; exact (Option.some.inj this).symm
  subst e0
  obtain ⟨hlen, hin⟩ := over_len ho
  have hxl : xs.length = vs.length := by simpa using hx.len
  have hthere : ∀ j, j < vs.length → (w.cell? ⟨lc0.blk, lc0.base + off + j, none⟩).isSome = true := fun j hj => by
    have := hB.there (off + j) (by have := hB.room; omega)
    rwa [← Nat.add_assoc] at this
  have hsome : ∀ x : Addr, (w.cell? x).isSome = true → (w'.cell? x).isSome = true := fun x hx => World.isSome_setCells lc0.blk vs (lc0.base + off) w x hx
  refine moved (M' := M) (b' := ⟨b.gen, cs⟩) (lc' := lc0) h hb hl (Mp.le.refl M) rfl rfl (fun i g l a c => by rw [a] at c; cases c) (Nat.le_refl _) ?_ (.inl rfl)
    (fun x _ hne => setCells_other lc0.blk vs _ w x hne) (fun a => World.frozen?_setCells lc0.blk vs _ w a) (setCells_os _ _ _ _).1 (setCells_os _ _ _ _).2 (by rw [setCells_size]; exact Nat.le_refl _)
  refine ⟨hl, by rw [hB.len]; exact hlen.symm, by show cs.length ≤ _; rw [hlen]; exact hB.room, fun i hi => hsome _ (hB.there i hi), ?_, fun o => (World.frozen?_setCells lc0.blk vs _ w _).trans (hB.froz o),
    by show _ < w'.heap.size; rw [setCells_size]; exact hB.lt, ?_⟩
  · intro i hi
    have hi0 : i < b.cells.length := by rw [← hlen]; exact hi
    rw [gt_over ho i]
    by_cases hr : off ≤ i ∧ i < off + xs.length
    · rw [if_pos hr]
      have hj : i - off < vs.length := by omega
      have hc := World.cell?_setCells_in lc0.blk vs (lc0.base + off) w hthere (i - off) hj
      rw [show lc0.base + off + (i - off) = lc0.base + i by omega] at hc
      refine ⟨vs[i - off], hc, ?_, h1 _ (List.getElem_mem hj)⟩
      have := hx.rel (i - off)
      rwa [ag_of_lt (by simpa using hj), List.getElem_toArray] at this
    · rw [if_neg hr]
      obtain ⟨v, a1, a2, a3⟩ := hB.rel i hi0
      refine ⟨v, ?_, a2, a3⟩
      rw [World.cell?_setCells_out lc0.blk vs _ w _ (fun _ _ => by simp only; omega)]
      exact a1
  · have hne := hB.obj
    have : ∀ (vs : List Value) (o : Nat) (w : World), (w.shape? lc0.blk).isSome = true → ((w.setCells lc0.blk o vs).shape? lc0.blk).isSome = true := by
      intro vs
      induction vs with
      | nil => intro o w h; exact h
      | cons v r ih =>
        intro o w h
        rw [World.setCells]
        refine ih _ _ ?_
        simp only [World.shape?, World.setCell, Array.getElem?_modify, if_pos]
        simp only [World.shape?] at h
        cases hh : w.heap[lc0.blk]? with
        | none => simp [hh] at h
        | some o' => cases o' <;> simp_all
    exact this vs _ w hne

theorem look_eq {H : Hp} {id g : Nat} {l : List AV} (h : look H id g = some l) : H[id]? = some (some ⟨g, l⟩) := by
  unfold look at h
  split at h
  · rename_i b hb
    split at h
    · rename_i e
      cases h
      rw [hb]
      cases b
      simp_all
    · cases h
  · cases h

theorem stored {P : Program} {M : Mp} {H H' : Hp} {L : List (Option ALoop)} {w : World} (h : Holds P M H L w) {id g off : Nat} {lc : Loc} (hl : M.loc id g = some lc)
    {xs : List AV} {vs : List Value} (hx : RVs M xs vs.toArray) (h1 : ∀ v ∈ vs, v.oneCell' = true) (hs : storeAt H id g off xs = some H') :
    (∀ j, j < vs.length → (w.cell? ⟨lc.blk, lc.base + off + j, none⟩).isSome = true) ∧ (∀ o, w.frozen? ⟨lc.blk, o, none⟩ = false) ∧
    Holds P M H' L (w.setCells lc.blk (lc.base + off) vs) ∧ Fr M H L w M H' L (w.setCells lc.blk (lc.base + off) vs) := by
  unfold storeAt at hs
  cases hk : look H id g with
  | none => simp [hk] at hs
  | some l =>
    cases ho : over l off xs with
    | none => simp [hk, ho] at hs
    | some cs =>
      simp [hk, ho] at hs
      subst hs
      have hb := look_eq hk
      obtain ⟨lc0, hB⟩ := h.blk id _ hb
      have e0 : lc0 = lc := by have := hB.loc; simp only at this; rw [hl] at this; exact (Option.some.inj this).symm
      subst e0
      have := wrote (off := off) h hb hl hx h1 ho
      obtain ⟨hlen, hin⟩ := over_len ho
      have hxl : xs.length = vs.length := by simpa using hx.len
      refine ⟨fun j hj => ?_, hB.froz, this⟩
      have := hB.there (off + j) (by have := hB.room; simp only at this; omega)
      rwa [← Nat.add_assoc] at this

end Go.Zz
