import Derived.Test.YtgchabldcnmccacGreatDoorAbsD
import Derived.OrdersIn

set_option linter.unusedSimpArgs false
set_option linter.unusedVariables false

namespace Go.Zz
theorem merge [Globs] {P : Program} {M M' : Mp} {G Hk Hout G' : Hp} {L L' : List (Option ALoop)} {w w' : World} (hG : Holds P M G L w) (hs : Sub Hk G) (ho : Holds P M' Hout L' w') (k : Fr M Hk L w M' Hout L' w')
  (ha : ∀ (id : Nat) (b : Blk), G'[id]? = some (some b) → Hout[id]? = some (some b) ∨ (G[id]? = some (some b) ∧ ∀ b' : Blk, Hout[id]? ≠ some (some b')))
  (hb : ∀ (id : Nat) (b : Blk), Hout[id]? = some (some b) → ∃ b' : Blk, G'[id]? = some (some b')) (hc : ∀ (id : Nat) (b : Blk), G[id]? = some (some b) → ∃ b' : Blk, G'[id]? = some (some b')) (hd : G.length ≤ G'.length) :
  Holds P M' G' L' w' ∧ Fr M G L w M' G' L' w' := by
 -- a block that the run did not see
 have unseen : ∀ (id : Nat) (b : Blk) lc, G[id]? = some (some b) → (∀ b' : Blk, Hout[id]? ≠ some (some b')) → HB M w id b lc → w'.heap[lc.blk]? = w.heap[lc.blk]? := by
  intro id b lc hg hn hB
  refine k.keep _ hB.lt (fun id' b' lc' h1 h2 e => ?_) (fun i r h1 h2 => ?_)
  ·have := hG.inj id' id b' b lc' lc (hs _ _ h1) hg h2 hB.loc e
   subst this
   obtain ⟨b2, hb2⟩ := k.live _ _ h1
   exact hn b2 hb2
  ·obtain ⟨l, g1, g2⟩ := hG.lp i r h1
   rw [h2] at g1
   cases g1
   have := hB.obj
   rcases g2.is with ⟨q, hq⟩ | ⟨es, c, hq⟩ <;> simp [World.shape?, hq] at this
 have locs : ∀ (id : Nat) (b : Blk) lc, G[id]? = some (some b) → M'.loc id b.gen = some lc → M.loc id b.gen = some lc := by
  intro id b lc hg hl
  obtain ⟨lc0, hB⟩ := hG.blk id b hg
  have := k.le.loc _ _ _ hB.loc
  rw [hl] at this
  rw [Option.some.inj this]
  exact hB.loc
 have lts : ∀ (id : Nat) (b : Blk) lc, G[id]? = some (some b) → M.loc id b.gen = some lc → lc.blk < w.heap.size := by
  intro id b lc hg hl
  obtain ⟨lc0, hB⟩ := hG.blk id b hg
  have := hB.loc
  rw [hl] at this
  rw [Option.some.inj this]
  exact hB.lt
 have cross : ∀ (id id' : Nat) (b b' : Blk) lc lc', G[id]? = some (some b) → M.loc id b.gen = some lc → Hout[id']? = some (some b') → M'.loc id' b'.gen = some lc' → lc.blk = lc'.blk → id = id' := by
  intro id id' b b' lc lc' h1 h2 h3 h4 e
  obtain ⟨bl0, lc0, x1, x2, x3⟩ := k.old id' b' lc' h3 h4 (e ▸ lts id b lc h1 h2)
  exact hG.inj id id' b bl0 lc lc0 h1 (hs _ _ x1) h2 x2 (e.trans x3.symm)
 refine ⟨⟨ho.imm, ?_, ?_, ?_, ?_, ho.lp, ho.lpi⟩, ?_⟩
 ·intro id b hg
  rcases ha id b hg with h1 | ⟨h1, h2⟩
  ·exact ho.blk id b h1
  ·obtain ⟨lc, hB⟩ := hG.blk id b h1
   exact ⟨lc, hB.kept k.le (unseen id b lc h1 h2 hB) k.size⟩
 ·intro id b lc hg hl o
  rcases ha id b hg with h1 | ⟨h1, h2⟩
  ·exact ho.sep id b lc h1 hl o
  ·rw [k.imm _ _ (lts id b lc h1 (locs id b lc h1 hl))]; exact hG.sep id b lc h1 (locs id b lc h1 hl) o
 ·intro id id' b b' lc lc' hg hg' hl hl' e
  rcases ha id b hg with h1 | ⟨h1, h2⟩ <;> rcases ha id' b' hg' with h3 | ⟨h3, h4⟩
  ·exact ho.inj id id' b b' lc lc' h1 h3 hl hl' e
  ·exact (cross id' id b' b lc' lc h3 (locs _ _ _ h3 hl') h1 hl e.symm).symm
  ·exact cross id id' b b' lc lc' h1 (locs _ _ _ h1 hl) h3 hl' e
  ·exact hG.inj id id' b b' lc lc' h1 h3 (locs _ _ _ h1 hl) (locs _ _ _ h3 hl') e
 ·intro id b g hg hlt
  rcases ha id b hg with h1 | ⟨h1, h2⟩
  ·exact ho.gen id b g h1 hlt
  ·cases hx : M'.loc id g with
   | none => rfl
   | some lc =>
    obtain ⟨b2, hb2⟩ := k.only id g lc hx (hG.gen id b g h1 hlt)
    exact absurd hb2 (h2 b2)
 ·refine ⟨k.os, k.output, k.size, k.froz, ?_, ?_, k.oldl, hd, k.llen, k.le, ?_, hc, k.imm, k.onlyl, k.lstay⟩
  ·intro b hlt h1 h2
   exact k.keep b hlt (fun id bl lc h3 h4 => h1 id bl lc (hs _ _ h3) h4) h2
  ·intro id bl lc hg hl hlt
   rcases ha id bl hg with h1 | ⟨h1, h2⟩
   ·obtain ⟨bl0, lc0, x1, x2, x3⟩ := k.old id bl lc h1 hl hlt
    exact ⟨bl0, lc0, hs _ _ x1, x2, x3⟩
   ·exact ⟨bl, lc, h1, locs _ _ _ h1 hl, rfl⟩
  ·intro id g lc h1 h2
   obtain ⟨b, hb'⟩ := k.only id g lc h1 h2
   exact hb id b hb'
theorem padded [Globs] {P : Program} {M : Mp} {H G : Hp} {L : List (Option ALoop)} {w w' : World} (h : Holds P M H L w) (hG : ∀ (id : Nat) (b : Blk), G[id]? = some (some b) ↔ H[id]? = some (some b)) (hl : H.length ≤ G.length)
  (hw : w'.heap = w.heap) (hos : w'.os = w.os) (hout : w'.output = w.output) : Holds P M G L w' ∧ Fr M H L w M G L w' := by
 have hz : w.heap.size ≤ w'.heap.size := by rw [hw]; exact Nat.le_refl _
 have hk : ∀ b : Nat, w'.heap[b]? = w.heap[b]? := fun b => by rw [hw]
 refine ⟨⟨fun b o v hv => by rw [World.cell?_of_block (w := w) (hk _)]; exact h.imm b o v hv, fun id b hb => ?_, fun id b lc hb => h.sep id b lc ((hG _ _).1 hb), fun id id' b b' lc lc' h1 h2 => h.inj id id' b b' lc lc' ((hG _ _).1 h1) ((hG _ _).1 h2),
  fun id b g hb => h.gen id b g ((hG _ _).1 hb), fun i r hr => ?_, h.lpi⟩, ⟨hos, hout, hz, fun a => World.frozen?_of_block (hk _), fun b _ _ _ => hk b, fun id bl lc h1 h2 _ => ⟨bl, lc, (hG _ _).1 h1, h2, rfl⟩, fun i r l h1 h2 _ => ⟨r, h1, h2⟩,
  hl, Nat.le_refl _, Mp.le.refl _, (fun _ _ _ h1 h2 => by rw [h1] at h2; cases h2), fun id b hb => ⟨b, (hG _ _).2 hb⟩, (fun _ _ _ => rfl), (fun _ _ h1 h2 => by rw [h1] at h2; cases h2), fun l q hq => ⟨q, (hk l).trans hq⟩⟩⟩
 ·obtain ⟨lc, hB⟩ := h.blk id b ((hG _ _).1 hb)
  exact ⟨lc, hB.kept (Mp.le.refl _) (hk _) hz⟩
 ·obtain ⟨l, h1, h2⟩ := h.lp i r hr
  exact ⟨l, h1, h2.kept (Mp.le.refl _) (hk _)⟩
theorem List.all_zipIdx {α : Type} {l : List α} {f : α → Nat → Bool} (h : (l.zipIdx.all fun p => f p.1 p.2) = true) {i : Nat} {x : α} (hx : l[i]? = some x) : f x i = true := by
 rw [List.all_eq_true] at h
 refine h (x, i) ?_
 rw [List.mk_mem_zipIdx_iff_getElem?]
 exact hx
theorem slotsOk_spec [Globs] {b : Array Nat} {l : List IOper} (h : slotsOk b l = true) {i j : Nat} {oi oj : IOper} (hi : l[i]? = some oi) (hj : l[j]? = some oj) (hne : i ≠ j) {t : Nat} (hd : oi.dst = some t) (ht : t ∈ oj.slots) : ordered b i j = true := by
 unfold slotsOk at h
 have h1 := List.all_zipIdx (f := fun oj j => l.zipIdx.all fun p => p.2 == j || (match p.1.dst with | some t => !(oj.slots.contains t) || ordered b p.2 j | none => true)) h hj
 have h2 := List.all_zipIdx (f := fun oi i => i == j || (match oi.dst with | some t => !(oj.slots.contains t) || ordered b i j | none => true)) h1 hi
 simpa [hne, hd, ht] using h2
theorem permOk_spec {n : Nat} {perm : List Nat} (h : permOk n perm = true) : perm.length = n ∧ (∀ i, i < n → ∃ p, p < n ∧ perm.getD p n = i) ∧ ∀ p q, p < n → q < n → perm.getD p n = perm.getD q n → p = q := by
 unfold permOk at h
 simp only [Bool.and_eq_true, beq_iff_eq, List.all_eq_true, List.mem_range, Bool.or_eq_true, bne_iff_ne, ne_eq] at h
 obtain ⟨⟨h1, h2⟩, h3⟩ := h
 refine ⟨h1, fun i hi => ?_, fun p q hp hq e => ?_⟩
 ·have := h2 i hi
  rw [List.contains_iff_mem] at this
  obtain ⟨p, hp, e⟩ := List.getElem_of_mem this
  exact ⟨p, by omega, by simp [List.getD, hp, e]⟩
 ·rcases h3 p hp q hq with e2 | e2
  ·exact e2
  ·exact absurd e e2
theorem closed_back {b : Array Nat} {ops : Array Oper} {perm : List Nat} (h : closedOk b ops perm = true) {p : Nat} (hp : p < ops.size) : ∃ o, ops[perm.getD p ops.size]? = some o ∧ (∀ e ∈ o.after, Region.binds .any e = true → ∃ q, q < p ∧ perm.getD q ops.size = e.on) ∧
  ∀ i, i < ops.size → (b.getD p 0).testBit i = true → ∃ e ∈ o.after, Region.binds .any e = true ∧ ∃ q, q < p ∧ perm.getD q ops.size = e.on ∧ (q = i ∨ (b.getD q 0).testBit i = true) := by
 unfold closedOk at h
 rw [List.all_eq_true] at h
 have h1 := h p (by simpa using hp)
 split at h1
 ·rename_i o ho
  simp only [Bool.and_eq_true, Array.all_eq_true', List.all_eq_true, List.mem_range] at h1
  obtain ⟨h2, h3⟩ := h1
  refine ⟨o, ho, fun e he hb => ?_, fun i hi hb => ?_⟩
  ·have := h2 e he
   rw [hb] at this
   simp only [Bool.not_true, Bool.false_or, List.any_eq_true, List.mem_range, beq_iff_eq] at this
   exact this
  ·have := h3 i hi
   rw [hb] at this
   simp only [Bool.not_true, Bool.false_or, Array.any_eq_true', Bool.and_eq_true, List.any_eq_true, List.mem_range, beq_iff_eq, Bool.or_eq_true] at this
   obtain ⟨e, e1, e2, q, e3, e4, e5⟩ := this
   exact ⟨e, e1, e2, q, e3, e4, e5⟩
 ·cases h1
def Down (ops : Array Oper) (E : Nat → Bool) : Prop := ∀ (i : Nat) (o : Oper), E i = true → ops[i]? = some o → ∀ e ∈ o.after, Region.binds .any e = true → E e.on = true
theorem closed_spec {b : Array Nat} {ops : Array Oper} {perm : List Nat} (h : closedOk b ops perm = true) {E : Nat → Bool} (hE : Down ops E) :
  ∀ (p : Nat) (o : Oper), p < ops.size → ops[perm.getD p ops.size]? = some o → (∀ e ∈ o.after, Region.binds .any e = true → E e.on = true) → ∀ i, i < ops.size → (b.getD p 0).testBit i = true → E (perm.getD i ops.size) = true ∧ i < p := by
 intro p
 induction p using Nat.strongRecOn with
 | ind p ih =>
  intro o hp ho he i hi hb
  obtain ⟨o', ho', _, h3⟩ := closed_back h hp
  rw [ho] at ho'
  cases ho'
  obtain ⟨e, e1, e2, q, e3, e4, e5⟩ := h3 i hi hb
  have e6 := he e e1 e2
  rcases e5 with rfl | e5
  ·exact ⟨e4 ▸ e6, e3⟩
  ·obtain ⟨oq, hoq, _, _⟩ := closed_back h (p := q) (by omega)
   obtain ⟨g1, g2⟩ := ih q e3 oq (by omega) hoq (fun e' h1 h2 => hE _ oq (e4 ▸ e6) hoq e' h1 h2) i hi e5
   exact ⟨g1, by omega⟩
theorem closed_lt {b : Array Nat} {ops : Array Oper} {perm : List Nat} (h : closedOk b ops perm = true) {p i : Nat} (hp : p < ops.size) (hi : i < ops.size) (hb : (b.getD p 0).testBit i = true) : i < p := by
 obtain ⟨o, ho, _, _⟩ := closed_back h hp
 exact (closed_spec h (E := fun _ => true) (fun _ _ _ _ _ _ _ => rfl) p o hp ho (fun _ _ _ => rfl) i hi hb).2
end Go.Zz


namespace Go.Zz
theorem fo_none {κ V : Type} {u : Nat → κ → Option V} {f0 : κ → V} {D : Nat → Bool} {x : κ} : ∀ (n : Nat), (∀ i, i < n → D i = true → u i x = none) → fo u f0 D n x = f0 x
 | 0, _ => rfl
 | n + 1, h => by
  rw [fo, fo_none n fun i hi => h i (by omega)]
  split
  ·rename_i hd; rw [h n (by omega) hd]; rfl
  ·rfl
structure Dr [Globs] (P : Program) (call : AV → List AV → Mem → Option (AV × Mem)) (ops : Array Oper) (perm : List Nat) (b : Array Nat) (l : List IOper) (tx : Nat → St) (sn : Nat → Hp × Nat × Nat) : Prop where
 calls : CallOk P call
 len : l.length = ops.size
 get : ∀ p, p < l.length → ∃ o io, ops[perm.getD p ops.size]? = some o ∧ l[p]? = some io ∧ cOper P ops o = some io
 permok : permOk ops.size perm = true
 closed : closedOk b ops perm = true
 slots : slotsOk b l = true
 behind : callsOk b l = true
 fact : ∀ (k : Nat) (io : IOper), l[k]? = some io → Fact call (seenOf sn k) (tx k) (tx (k + 1)) (sn k) (dOper b l io k)
def view (b : Array Nat) (l : List IOper) (tx : Nat → St) (sn : Nat → Hp × Nat × Nat) (k : Nat) (io : IOper) : Hp := limit (tx k).T io.op (strikes (tx k).heap (seenOf sn k) (masksOf b l k io))
def us (l : List IOper) (tx : Nat → St) (k t : Nat) : Option AV :=
 match l[k]? with
 | some io => if io.dst = some t then some (gt (tx (k + 1)).T t) else none
 | none => none
def ul [Globs] (l : List IOper) (tx : Nat → St) (k : Nat) (_ : Unit) : Option (List (Option ALoop)) :=
 match l[k]? with
 | some io => if isCall io.op then some (tx (k + 1)).loops else none
 | none => none
def Wr (b : Array Nat) (l : List IOper) (tx : Nat → St) (sn : Nat → Hp × Nat × Nat) (k id : Nat) : Prop :=
 ∃ io, l[k]? = some io ∧ wantedI (tx k).T io.guard = true ∧ freeOp io.op = false ∧ readOp io.op = false ∧ ((∃ x : Blk, (view b l tx sn k io)[id]? = some (some x)) ∨ ((tx k).heap.length ≤ id ∧ id < (tx (k + 1)).heap.length))
open Classical in
noncomputable def uh (b : Array Nat) (l : List IOper) (tx : Nat → St) (sn : Nat → Hp × Nat × Nat) (k id : Nat) : Option (Option Blk) :=
 if Wr b l tx sn k id then some ((tx (k + 1)).heap[id]?).join else none
noncomputable def fh (b : Array Nat) (l : List IOper) (tx : Nat → St) (sn : Nat → Hp × Nat × Nat) (D : Nat → Bool) (n id : Nat) : Option Blk :=
 fo (uh b l tx sn) (fun id => ((tx 0).heap[id]?).join) D n id
noncomputable def HD (b : Array Nat) (l : List IOper) (tx : Nat → St) (sn : Nat → Hp × Nat × Nat) (D : Nat → Bool) : Hp :=
 (List.range (tx l.length).heap.length).map fun id => fh b l tx sn D l.length id
def with' (D : Nat → Bool) (k : Nat) : Nat → Bool := fun i => if i = k then true else D i
section
variable {P : Program} {call : AV → List AV → Mem → Option (AV × Mem)} {ops : Array Oper} {perm : List Nat} {b : Array Nat} {l : List IOper} {tx : Nat → St} {sn : Nat → Hp × Nat × Nat}
theorem dOper_o (b : Array Nat) (l : List IOper) (io : IOper) (k : Nat) : (dOper b l io k).o = io := by
 unfold dOper; split <;> rfl
theorem Fact.put {k : Nat} {io : IOper} {seen : List (Hp × Nat × Nat)} {s s' : St} {x : Hp × Nat × Nat} (h : Fact call seen s s' x (dOper b l io k)) : ∃ v m', s' = s.put io.dst v m' := by
 cases h with
 | skip hw e => rw [dOper_o] at e; exact ⟨_, _, e⟩
 | free hw hf v m' h e => rw [dOper_o] at e; exact ⟨_, _, e⟩
 | op hw hf v m' h hd e => rw [dOper_o] at e; exact ⟨_, _, e⟩
theorem put_len (s : St) (d : Option Nat) (v : AV) (m' : Mem) : (s.put d v m').T.length = s.T.length := by
 cases d <;> simp [St.put, pt_length]
theorem gt_put (s : St) (d : Option Nat) (v : AV) (m' : Mem) (t : Nat) : gt (s.put d v m').T t = if d = some t ∧ t < s.T.length then v else gt s.T t := by
 cases d with
 | none => simp [St.put]
 | some d =>
  simp only [St.put, gt_pt, Option.some.injEq]
  by_cases h : t = d
  ·subst h; simp
  ·rw [if_neg (by simp [h]), if_neg (by simp [Ne.symm h])]
theorem Dr.at [Globs] (_ : Dr P call ops perm b l tx sn) {k : Nat} (hk : k < l.length) : ∃ io, l[k]? = some io := ⟨l[k], by simp [hk]⟩
theorem Dr.lenT [Globs] (h : Dr P call ops perm b l tx sn) : ∀ k, k ≤ l.length → (tx k).T.length = (tx 0).T.length
 | 0, _ => rfl
 | k + 1, hk => by
  obtain ⟨io, hio⟩ := h.at (k := k) (by omega)
  obtain ⟨v, m', e⟩ := (h.fact k io hio).put
  rw [e, put_len, h.lenT k (by omega)]
theorem Dr.T [Globs] (h : Dr P call ops perm b l tx sn) (t : Nat) : ∀ k, k ≤ l.length → gt (tx k).T t = fo (us l tx) (gt (tx 0).T) (upto k) k t
 | 0, _ => rfl
 | k + 1, hk => by
  rw [fo_succ, ← h.T t k (by omega)]
  obtain ⟨io, hio⟩ := h.at (k := k) (by omega)
  obtain ⟨v, m', e⟩ := (h.fact k io hio).put
  simp only [us, hio]
  split
  ·rfl
  ·rename_i hd
   rw [e, gt_put, if_neg (by simp [hd])]
   rfl
inductive Goes (call : AV → List AV → Mem → Option (AV × Mem)) (V : Hp) (s s' : St) (x : Hp × Nat × Nat) (io : IOper) : Prop
 | skip (hw : wantedI s.T io.guard = false) (e : s' = s.put io.dst und s.mem) (hn : x = ([], 0, 0))
 | free (hw : wantedI s.T io.guard = true) (hf : freeOp io.op = true) (v : AV) (e : s' = s.put io.dst v s.mem) (hn : x = ([], 0, 0)) (hv : ∀ call' m2, evOp call' s.T m2 io.op = some (v, m2))
 | op (hw : wantedI s.T io.guard = true) (hf : freeOp io.op = false) (v : AV) (m' : Mem) (hv : evOp call s.T ⟨V, s.loops⟩ io.op = some (v, m')) (hV : Part V s.heap) (hle : V.length ≤ m'.heap.length)
   (hd : ∀ (id : Nat) (x : Blk), id < V.length → m'.heap[id]? = some (some x) → ∃ y : Blk, V[id]? = some (some y)) (e : s' = s.put io.dst v ⟨back s.heap V m'.heap, m'.loops⟩) (hl : s'.heap.length = m'.heap.length)
   (hget : ∀ id, s'.heap[id]? = if id < s.heap.length then (if (V[id]?).join.isSome then m'.heap[id]? else s.heap[id]?) else m'.heap[id]?) (hn : x = (V, s.heap.length, m'.heap.length))
theorem Dr.lens [Globs] (h : Dr P call ops perm b l tx sn) : ∀ k, k ≤ l.length → (∀ i, i < k → (sn i).2.2 ≤ (tx k).heap.length) ∧ ∀ io, l[k]? = some io → Goes call (view b l tx sn k io) (tx k) (tx (k + 1)) (sn k) io := by
 have seen_get : ∀ (k i : Nat) (V : Hp) (a c : Nat), (seenOf sn k)[i]? = some (V, a, c) → i < k ∧ sn i = (V, a, c) := by
  intro k i V a c hi
  unfold seenOf at hi
  rw [List.getElem?_map] at hi
  by_cases hlt : i < k
  ·rw [List.getElem?_range hlt] at hi; exact ⟨hlt, by simpa using hi⟩
  ·rw [List.getElem?_eq_none (by simp; omega)] at hi; cases hi
 have step : ∀ k, (∀ i, i < k → (sn i).2.2 ≤ (tx k).heap.length) → ∀ io, l[k]? = some io → Goes call (view b l tx sn k io) (tx k) (tx (k + 1)) (sn k) io := by
  intro k hA io hio
  cases h.fact k io hio with
  | skip hw e hn => rw [dOper_o] at hw e; exact .skip hw e hn
  | free hw hf v m' hv e hn =>
   rw [dOper_o] at hw e hf hv
   have := (free_any (call' := call) hf hv).1
   subst this
   exact .free hw hf v e hn fun call' m2 => (free_any (call' := call') hf hv).2 m2
  | op hw hf v m' hv hd e hn =>
   rw [dOper_o] at hw hf
   have e1 : (dOper b l io k).ms = masksOf b l k io := by unfold dOper; rw [if_neg (by simp [hf])]
   rw [dOper_o, e1] at hv hd e hn
   have hV : Part (view b l tx sn k io) (tx k).heap := (limit_part _ _ _).trans (strikes_spec _ _ fun i V a c hi => by
    obtain ⟨h1, h2⟩ := seen_get k i V a c hi
    have := hA i h1
    rw [h2] at this
    exact this).1
   obtain ⟨d1, d2⟩ := stillDead_spec _ _ hd
   have hb := back_get (tx k).heap (view b l tx sn k io) m'.heap hV.1 (by rw [← hV.1]; exact d1)
   exact .op hw hf v m' hv hV d1 d2 e (by rw [e]; exact hb.1) (by rw [e]; exact hb.2) hn
 intro k
 induction k with
 | zero => intro _; exact ⟨fun i hi => by omega, step 0 fun i hi => by omega⟩
 | succ k ih =>
  intro hk
  obtain ⟨hA, hG⟩ := ih (by omega)
  obtain ⟨io, hio⟩ := h.at (k := k) (by omega)
  have hA' : ∀ i, i < k + 1 → (sn i).2.2 ≤ (tx (k + 1)).heap.length := by
   intro i hi
   cases hG io hio with
   | skip hw e hn =>
    by_cases hik : i = k
    ·subst hik; rw [hn]; exact Nat.zero_le _
    ·rw [e]; exact hA i (by omega)
   | free hw hf v e hn hv =>
    by_cases hik : i = k
    ·subst hik; rw [hn]; exact Nat.zero_le _
    ·rw [e]; exact hA i (by omega)
   | op hw hf v m' hv hV hle hd e hl hget hn =>
    rw [hl]
    by_cases hik : i = k
    ·subst hik; rw [hn]; exact Nat.le_refl _
    ·have := hA i (by omega); rw [hV.1] at hle; omega
  exact ⟨hA', step (k + 1) hA'⟩
theorem Dr.goes [Globs] (h : Dr P call ops perm b l tx sn) {k : Nat} {io : IOper} (hio : l[k]? = some io) : Goes call (view b l tx sn k io) (tx k) (tx (k + 1)) (sn k) io :=
 (h.lens k (Nat.le_of_lt (List.getElem?_eq_some_iff.1 hio).1)).2 io hio
theorem Dr.lenH1 [Globs] (h : Dr P call ops perm b l tx sn) {k : Nat} (hk : k < l.length) : (tx k).heap.length ≤ (tx (k + 1)).heap.length := by
 obtain ⟨io, hio⟩ := h.at hk
 cases h.goes hio with
 | skip hw e hn => rw [e]; exact Nat.le_refl _
 | free hw hf v e hn hv => rw [e]; exact Nat.le_refl _
 | op hw hf v m' hv hV hle hd e hl hget hn => rw [hl, ← hV.1]; exact hle
theorem Dr.lenH [Globs] (h : Dr P call ops perm b l tx sn) {i : Nat} : ∀ k, i ≤ k → k ≤ l.length → (tx i).heap.length ≤ (tx k).heap.length
 | 0, hi, _ => by rw [Nat.le_zero.1 hi]; exact Nat.le_refl _
 | k + 1, hi, hk => by
  by_cases e : i = k + 1
  ·rw [e]; exact Nat.le_refl _
  ·exact Nat.le_trans (h.lenH k (by omega) (by omega)) (h.lenH1 (by omega))
theorem live_join {x : Option (Option Blk)} : x.join.isSome = true ↔ ∃ y : Blk, x = some (some y) := by
 cases x with
 | none => simp
 | some x => cases x <;> simp
theorem join_some {x : Option (Option Blk)} {y : Blk} : x.join = some y ↔ x = some (some y) := by
 cases x with
 | none => simp
 | some x => simp
theorem Dr.heap [Globs] (h : Dr P call ops perm b l tx sn) (id : Nat) : ∀ k, k ≤ l.length → ((tx k).heap[id]?).join = fh b l tx sn (upto k) k id
 | 0, _ => rfl
 | k + 1, hk => by
  unfold fh
  rw [fo_succ]
  have ih := h.heap id k (by omega)
  unfold fh at ih
  rw [← ih]
  unfold uh
  split
  ·rfl
  ·rename_i hn
   obtain ⟨io, hio⟩ := h.at (k := k) (by omega)
   have hg := h.goes hio
   cases hg with
   | skip hw e hn => rw [e]; rfl
   | free hw hf v e hn hv => rw [e]; rfl
   | op hw hf v m' hv hV hle hd e hl hget _ =>
    rw [hget]
    by_cases hr : readOp io.op = true
    ·have := read_still hr hv
     subst this
     split
     ·split
      ·rename_i hs
       obtain ⟨y, hy⟩ := live_join.1 hs
       have := hV.2 id y hy
       simp only [this, hy]
       rfl
      ·rfl
     ·rename_i hlt
      rw [List.getElem?_eq_none (by simp only; rw [hV.1]; omega), List.getElem?_eq_none (by omega)]
      rfl
    ·have hn' : ¬ ((∃ x : Blk, (view b l tx sn k io)[id]? = some (some x)) ∨ ((tx k).heap.length ≤ id ∧ id < (tx (k + 1)).heap.length)) := fun hx => hn ⟨io, hio, hw, hf, by simpa using hr, hx⟩
     split
     ·rw [if_neg]
      ·rfl
      ·rw [live_join]; exact fun hx => hn' (.inl hx)
     ·rename_i hlt
      rw [List.getElem?_eq_none (i := id) (l := m'.heap) (by
       refine Nat.le_of_not_lt fun hx => hn' (.inr ⟨by omega, by rw [hl]; exact hx⟩)), List.getElem?_eq_none (by omega)]
      rfl
theorem Dr.loops [Globs] (h : Dr P call ops perm b l tx sn) : ∀ k, k ≤ l.length → (tx k).loops = fo (ul l tx) (fun _ => (tx 0).loops) (upto k) k ()
 | 0, _ => rfl
 | k + 1, hk => by
  rw [fo_succ, ← h.loops k (by omega)]
  obtain ⟨io, hio⟩ := h.at (k := k) (by omega)
  simp only [ul, hio]
  split
  ·rfl
  ·rename_i hc
   cases h.goes hio with
   | skip hw e hn => rw [e]; rfl
   | free hw hf v e hn hv => rw [e]; rfl
   | op hw hf v m' hv hV hle hd e hl hget _ =>
    rw [e]
    exact (evOp_loops (by simpa using hc) hv).1
theorem HD_get {D : Nat → Bool} {id : Nat} {x : Blk} : (HD b l tx sn D)[id]? = some (some x) ↔ id < (tx l.length).heap.length ∧ fh b l tx sn D l.length id = some x := by
 unfold HD
 rw [List.getElem?_map]
 by_cases h : id < (tx l.length).heap.length
 ·rw [List.getElem?_range h]; simp [h]
 ·rw [List.getElem?_eq_none (by simp; omega)]; simp [h]
theorem HD_length {D : Nat → Bool} : (HD b l tx sn D).length = (tx l.length).heap.length := by simp [HD]
theorem HD_all [Globs] (h : Dr P call ops perm b l tx sn) {D : Nat → Bool} (hD : ∀ i, i < l.length → D i = true) : HD b l tx sn D = (tx l.length).heap := by
 refine List.ext_getElem (by simp [HD]) fun id h1 h2 => ?_
 have e : fh b l tx sn D l.length id = ((tx l.length).heap[id]?).join := by
  rw [h.heap id _ (Nat.le_refl _)]
  exact fo_agree _ fun i hi hu => by rw [hD i hi]; simp [upto, hi]
 simp only [HD, List.getElem_map, List.getElem_range, e, List.getElem?_eq_getElem h2]
 rfl
theorem HD_none [Globs] (h : Dr P call ops perm b l tx sn) (id : Nat) (x : Blk) : (HD b l tx sn fun _ => false)[id]? = some (some x) ↔ (tx 0).heap[id]? = some (some x) := by
 rw [HD_get]
 have e : fh b l tx sn (fun _ => false) l.length id = ((tx 0).heap[id]?).join := fo_none _ fun i _ hd => by cases hd
 rw [e, join_some]
 refine ⟨fun h => h.2, fun h1 => ⟨?_, h1⟩⟩
 have := (List.getElem?_eq_some_iff.1 h1).1
 have := h.lenH (i := 0) l.length (Nat.zero_le _) (Nat.le_refl _)
 omega
theorem uh_wr {i id : Nat} (h : (uh b l tx sn i id).isSome = true) : Wr b l tx sn i id := by
 unfold uh at h
 split at h
 ·assumption
 ·cases h
def Stands (b : Array Nat) (D : Nat → Bool) (n k : Nat) : Prop := D k = false ∧ ∀ i, i < n → ordered b i k = true → (D i = true ↔ i < k)
theorem slots_at [Globs] (h : Dr P call ops perm b l tx sn) {D : Nat → Bool} {k : Nat} {io : IOper} (hio : l[k]? = some io) (hs : Stands b D l.length k) {t : Nat} (ht : t ∈ io.slots) :
  fo (us l tx) (gt (tx 0).T) D l.length t = gt (tx k).T t := by
 have hk := (List.getElem?_eq_some_iff.1 hio).1
 rw [h.T t k (by omega)]
 refine fo_text (by omega) fun i hi hu => ?_
 by_cases e : i = k
 ·subst e; simp [hs.1]
 ·refine hs.2 i hi ?_
  obtain ⟨oi, hoi⟩ := h.at hi
  unfold us at hu
  rw [hoi] at hu
  simp only at hu
  split at hu
  ·rename_i hd
   exact slotsOk_spec h.slots hoi hio e hd ht
  ·cases hu
theorem with_text {D : Nat → Bool} {n k : Nat} (hs : Stands b D n k) {i : Nat} (hi : i < n) (h : i = k ∨ ordered b i k = true) : with' D k i = true ↔ i < k + 1 := by
 unfold with'
 by_cases e : i = k
 ·simp [e]
 ·rw [if_neg e, hs.2 i hi (h.resolve_left e)]
  omega
theorem without_text {D : Nat → Bool} {n k : Nat} (hs : Stands b D n k) {i : Nat} (hi : i < n) (h : i = k ∨ ordered b i k = true) : D i = true ↔ i < k := by
 by_cases e : i = k
 ·subst e; simp [hs.1]
 ·exact hs.2 i hi (h.resolve_left e)
theorem slots_step [Globs] (h : Dr P call ops perm b l tx sn) {D : Nat → Bool} {k : Nat} {io : IOper} (hio : l[k]? = some io) (hs : Stands b D l.length k) {s : St} (hl : s.T.length = (tx 0).T.length) (hT : ∀ t, gt s.T t = fo (us l tx) (gt (tx 0).T) D l.length t)
  {v : AV} {m' m2 : Mem} (he : tx (k + 1) = (tx k).put io.dst v m') : (s.put io.dst v m2).T.length = (tx 0).T.length ∧ ∀ t, gt (s.put io.dst v m2).T t = fo (us l tx) (gt (tx 0).T) (with' D k) l.length t := by
 have hk := (List.getElem?_eq_some_iff.1 hio).1
 refine ⟨by rw [put_len, hl], fun t => ?_⟩
 by_cases hd : io.dst = some t
 ·rw [fo_text (k := k + 1) (by omega) fun i hi hu => with_text hs hi ?_, ← h.T t (k + 1) (by omega), he, gt_put, gt_put, h.lenT k (by omega), hl]
  ·by_cases hlt : t < (tx 0).T.length
   ·rw [if_pos ⟨hd, hlt⟩, if_pos ⟨hd, hlt⟩]
   ·rw [if_neg (by simp [hlt]), if_neg (by simp [hlt]), gt_of_ge (by rw [hl]; omega), gt_of_ge (by rw [h.lenT k (by omega)]; omega)]
  ·by_cases e : i = k
   ·exact .inl e
   ·refine .inr ?_
    obtain ⟨oi, hoi⟩ := h.at hi
    unfold us at hu
    rw [hoi] at hu
    simp only at hu
    split at hu
    ·rename_i hd'
     exact slotsOk_spec h.slots hoi hio e hd' (by simp [IOper.slots, hd])
    ·cases hu
 ·rw [gt_put, if_neg (by simp [hd]), hT t]
  refine fo_agree _ fun i hi hu => ?_
  unfold with'
  rw [if_neg]
  rintro rfl
  simp [us, hio, hd] at hu
theorem unord_of {i k : Nat} (h : ¬ (i = k ∨ ordered b i k = true)) : unord b i k = true := by
 simp only [not_or, ordered, Bool.or_eq_true, not_or, Bool.not_eq_true] at h
 unfold unord
 rw [h.2.1, h.2.2]
 simp [h.1]
theorem unord_comm {i k : Nat} : unord b i k = unord b k i := by
 unfold unord
 rw [Bool.and_assoc, Bool.and_assoc, Bool.and_comm (!(b.getD k 0).testBit i)]
 congr 1
 cases h : i != k <;> cases h2 : k != i <;> simp_all
theorem apart [Globs] (h : Dr P call ops perm b l tx sn) {i k : Nat} {oi ok : IOper} (hi : l[i]? = some oi) (hk : l[k]? = some ok) (hik : i < k) (hu : unord b i k = true) (hfi : freeOp oi.op = false) (hr : ¬ (readOp oi.op = true ∧ readOp ok.op = true)) (hwi : wantedI (tx i).T oi.guard = true)
  {id : Nat} {x : Blk} (hx : (view b l tx sn k ok)[id]? = some (some x)) : (∀ y : Blk, (view b l tx sn i oi)[id]? ≠ some (some y)) ∧ ¬ ((tx i).heap.length ≤ id ∧ id < (tx (i + 1)).heap.length) := by
 have hlk := h.lens k (Nat.le_of_lt (List.getElem?_eq_some_iff.1 hk).1)
 have hseen : ∀ (j : Nat) (V : Hp) (a c : Nat), (seenOf sn k)[j]? = some (V, a, c) → c ≤ (tx k).heap.length := by
  intro j V a c hj
  unfold seenOf at hj
  rw [List.getElem?_map] at hj
  by_cases hlt : j < k
  ·rw [List.getElem?_range hlt] at hj
   have := hlk.1 j hlt
   simp at hj
   rw [hj] at this
   exact this
  ·rw [List.getElem?_eq_none (by simp; omega)] at hj; cases hj
 have h1 := (limit_part _ _ _).2 id x hx
 cases h.goes hi with
 | skip hw => rw [hwi] at hw; cases hw
 | free hw hf => rw [hfi] at hf; cases hf
 | op hw hf v m' hv hV hle hd e hl hget hn =>
  have hm : i ∈ masksOf b l k ok := by
   unfold masksOf
   simp only [List.mem_filter, List.mem_range, hi, hu, Bool.true_and]
   refine ⟨hik, ?_⟩
   rw [hfi]
   simp only [Bool.not_false, Bool.true_and, Bool.not_eq_true', Bool.and_eq_false_iff]
   cases h3 : readOp oi.op with
   | false => exact .inl rfl
   | true => exact .inr (by cases h4 : readOp ok.op with | false => rfl | true => exact absurd ⟨h3, h4⟩ hr)
  have := (strikes_spec _ _ hseen).2 id x h1 i hm _ _ _ (by
   unfold seenOf
   rw [List.getElem?_map, List.getElem?_range hik, Option.map_some, hn])
  rw [hl]
  exact ⟨this.2, this.1⟩
theorem view_wr [Globs] (h : Dr P call ops perm b l tx sn) {k : Nat} {io : IOper} (hio : l[k]? = some io) (hf : freeOp io.op = false) (hw : wantedI (tx k).T io.guard = true) {id : Nat} {x : Blk} (hx : (view b l tx sn k io)[id]? = some (some x)) :
  ∀ i, i < l.length → Wr b l tx sn i id → i = k ∨ ordered b i k = true := by
 intro i hi ⟨oi, hoi, wi, fi, ri, ht⟩
 have hk := (List.getElem?_eq_some_iff.1 hio).1
 by_cases hord : i = k ∨ ordered b i k = true
 ·exact hord
 exfalso
 have hun := unord_of hord
 have hne : i ≠ k := fun e => hord (.inl e)
 rcases Nat.lt_or_gt_of_ne hne with hlt | hgt
 ·obtain ⟨g1, g2⟩ := apart h hoi hio hlt hun fi (by simp [ri]) wi hx
  rcases ht with ⟨y, hy⟩ | ht
  ·exact g1 y hy
  ·exact g2 ht
 ·rcases ht with ⟨y, hy⟩ | ht
  ·exact (apart h hio hoi hgt (by rw [unord_comm]; exact hun) hf (by simp [ri]) hw hy).1 x hx
  ·cases h.goes hio with
   | skip hw' => rw [hw] at hw'; cases hw'
   | free _ hf' => rw [hf] at hf'; cases hf'
   | op _ _ v m' hv hV hle hd e hl hget hn =>
    have h1 := (List.getElem?_eq_some_iff.1 hx).1
    rw [hV.1] at h1
    have := h.lenH (i := k) i (by omega) (by omega)
    omega
theorem view_sub [Globs] (h : Dr P call ops perm b l tx sn) {D : Nat → Bool} {k : Nat} {io : IOper} (hio : l[k]? = some io) (hf : freeOp io.op = false) (hw : wantedI (tx k).T io.guard = true) (hs : Stands b D l.length k) : Sub (view b l tx sn k io) (HD b l tx sn D) := by
 intro id x hv
 have hk := (List.getElem?_eq_some_iff.1 hio).1
 cases h.goes hio with
 | skip hw' => rw [hw] at hw'; cases hw'
 | free _ hf' => rw [hf] at hf'; cases hf'
 | op _ _ v m' _ hV hle hd e hl hget hn =>
  have h1 := hV.2 id x hv
  rw [HD_get]
  refine ⟨Nat.lt_of_lt_of_le (List.getElem?_eq_some_iff.1 h1).1 (h.lenH _ (by omega) (Nat.le_refl _)), ?_⟩
  unfold fh
  rw [fo_text (k := k) (by omega) fun i hi hu => without_text hs hi (view_wr h hio hf hw hv i hi (uh_wr hu))]
  have := h.heap id k (by omega)
  unfold fh at this
  rw [← this, h1]
  rfl
theorem new_wr [Globs] (h : Dr P call ops perm b l tx sn) {k : Nat} {io : IOper} (hio : l[k]? = some io) (hf : freeOp io.op = false) (hw : wantedI (tx k).T io.guard = true) (hr : readOp io.op = false) {id : Nat} (hid : (tx k).heap.length ≤ id ∧ id < (tx (k + 1)).heap.length) :
  ∀ i, i < l.length → Wr b l tx sn i id → i = k ∨ ordered b i k = true := by
 intro i hi ⟨oi, hoi, wi, fi, ri, ht⟩
 have hk := (List.getElem?_eq_some_iff.1 hio).1
 by_cases hord : i = k ∨ ordered b i k = true
 ·exact hord
 exfalso
 have hun := unord_of hord
 have hne : i ≠ k := fun e => hord (.inl e)
 rcases ht with ⟨y, hy⟩ | ht
 ·rcases Nat.lt_or_gt_of_ne hne with hlt | hgt
  ·cases h.goes hoi with
   | skip hw' => rw [wi] at hw'; cases hw'
   | free _ hf' => rw [fi] at hf'; cases hf'
   | op _ _ v m' hv hV hle hd e hl hget hn =>
    have h1 := (List.getElem?_eq_some_iff.1 hy).1
    rw [hV.1] at h1
    have := h.lenH (i := i) k (by omega) (by omega)
    omega
  ·exact (apart h hio hoi hgt (by rw [unord_comm]; exact hun) hf (by simp [ri]) hw hy).2 hid
 ·rcases Nat.lt_or_gt_of_ne hne with hlt | hgt
  ·have := h.lenH (i := i + 1) k (by omega) (by omega); omega
  ·have := h.lenH (i := k + 1) i (by omega) (by omega); omega
theorem HD_other {D : Nat → Bool} {k id : Nat} (hn : ¬ Wr b l tx sn k id) : fh b l tx sn (with' D k) l.length id = fh b l tx sn D l.length id := by
 refine fo_agree _ fun i hi hu => ?_
 unfold with'
 rw [if_neg]
 rintro rfl
 exact hn (uh_wr hu)
theorem HD_wr [Globs] (h : Dr P call ops perm b l tx sn) {D : Nat → Bool} {k id : Nat} (hk : k < l.length) (hs : Stands b D l.length k) (ht : ∀ i, i < l.length → Wr b l tx sn i id → i = k ∨ ordered b i k = true) :
  fh b l tx sn (with' D k) l.length id = ((tx (k + 1)).heap[id]?).join ∧ fh b l tx sn D l.length id = ((tx k).heap[id]?).join := by
 constructor
 ·rw [h.heap id (k + 1) (by omega)]
  exact fo_text (by omega) fun i hi hu => with_text hs hi (ht i hi (uh_wr hu))
 ·rw [h.heap id k (by omega)]
  exact fo_text (by omega) fun i hi hu => without_text hs hi (ht i hi (uh_wr hu))
end
end Go.Zz


namespace Go.Zz
section
variable {P : Program} {call : AV → List AV → Mem → Option (AV × Mem)} {ops : Array Oper} {perm : List Nat} {b : Array Nat} {l : List IOper} {tx : Nat → St} {sn : Nat → Hp × Nat × Nat}
structure Inv [Globs] (P : Program) (b : Array Nat) (l : List IOper) (tx : Nat → St) (sn : Nat → Hp × Nat × Nat) (M0 : Mp) (w0 : World) (ds : List Deferred) (D : Nat → Bool) (s : St) (M : Mp) (a : Act) (w : World) : Prop where
 post : Post P M0 (tx 0) w0 ds s M a w
 len : s.T.length = (tx 0).T.length
 sl : ∀ t, gt s.T t = fo (us l tx) (gt (tx 0).T) D l.length t
 heap : s.heap = HD b l tx sn D
 loops : s.loops = fo (ul l tx) (fun _ => (tx 0).loops) D l.length ()
theorem ordered_comm [Globs] {i k : Nat} : ordered b i k = ordered b k i := by
 unfold ordered; rw [Bool.or_comm]
theorem Dr.behind' [Globs] (h : Dr P call ops perm b l tx sn) {k i : Nat} {ok oi : IOper} (hk : l[k]? = some ok) (hi : l[i]? = some oi) (hc : isCall ok.op = true) (hki : k < i) (hu : ordered b i k = false) : makesNone oi.op = true := by
 have h1 := List.all_zipIdx (f := fun (oj : IOper) (j : Nat) => !isCallI oj.op || l.zipIdx.all fun p => decide (p.2 ≤ j) || ordered b p.2 j || makesNone p.1.op) h.behind hk
 have e : isCallI ok.op = true := by cases hop : ok.op <;> rw [hop] at hc <;> first | rfl | cases hc
 simp only [e, Bool.not_true, Bool.false_or] at h1
 have h2 := List.all_zipIdx (f := fun (oi : IOper) (i : Nat) => decide (i ≤ k) || ordered b i k || makesNone oi.op) h1 hi
 rw [hu] at h2
 simpa [Nat.not_le.2 hki] using h2
theorem Dr.callord [Globs] (h : Dr P call ops perm b l tx sn) {k i : Nat} {ok oi : IOper} (hk : l[k]? = some ok) (hi : l[i]? = some oi) (hc : isCall ok.op = true) (hc' : isCall oi.op = true) (hne : i ≠ k) : ordered b i k = true := by
 cases ho : ordered b i k with
 | true => rfl
 | false =>
  have nm : ∀ {o : IOper}, isCall o.op = true → makesNone o.op = true → False := by
   intro o h1 h2
   cases hop : o.op <;> rw [hop] at h1 h2 <;> first | (cases h1; done) | (simp [makesNone, freeOp] at h2)
  rcases Nat.lt_or_gt_of_ne hne with hlt | hgt
  ·exact (nm hc (h.behind' hi hk hc' hlt (by rw [ordered_comm]; exact ho))).elim
  ·exact (nm hc' (h.behind' hk hi hc hgt ho)).elim
theorem loops_call [Globs] (h : Dr P call ops perm b l tx sn) {D : Nat → Bool} {k : Nat} {io : IOper} (hio : l[k]? = some io) (hs : Stands b D l.length k) (hc : isCall io.op = true) :
  fo (ul l tx) (fun _ => (tx 0).loops) D l.length () = (tx k).loops ∧ fo (ul l tx) (fun _ => (tx 0).loops) (with' D k) l.length () = (tx (k + 1)).loops := by
 have hk := (List.getElem?_eq_some_iff.1 hio).1
 have key : ∀ i, i < l.length → (ul l tx i ()).isSome = true → i = k ∨ ordered b i k = true := by
  intro i hi hu
  by_cases e : i = k
  ·exact .inl e
  ·refine .inr ?_
   obtain ⟨oi, hoi⟩ := h.at hi
   unfold ul at hu
   rw [hoi] at hu
   simp only at hu
   split at hu
   ·rename_i hci; exact h.callord hio hoi hc hci e
   ·cases hu
 constructor
 ·rw [h.loops k (by omega)]
  exact fo_text (by omega) fun i hi hu => without_text hs hi (key i hi hu)
 ·rw [h.loops (k + 1) (by omega)]
  exact fo_text (by omega) fun i hi hu => with_text hs hi (key i hi hu)
theorem loops_other [Globs] {D : Nat → Bool} {k : Nat} {io : IOper} (hio : l[k]? = some io) (hc : isCall io.op = false) :
  fo (ul l tx) (fun _ => (tx 0).loops) (with' D k) l.length () = fo (ul l tx) (fun _ => (tx 0).loops) D l.length () := by
 refine fo_agree _ fun i hi hu => ?_
 unfold with'
 rw [if_neg]
 rintro rfl
 simp [ul, hio, hc] at hu
theorem maker [Globs] (h : Dr P call ops perm b l tx sn) {k id : Nat} : ∀ i, k ≤ i → i ≤ l.length → (tx k).heap.length ≤ id → id < (tx i).heap.length → ∃ j, k ≤ j ∧ j < i ∧ (tx j).heap.length ≤ id ∧ id < (tx (j + 1)).heap.length
 | 0, hk, _, h1, h2 => by rw [Nat.le_zero.1 hk] at h1; omega
 | i + 1, hk, hi, h1, h2 => by
  by_cases e : k = i + 1
  ·subst e; omega
  ·by_cases hlt : id < (tx i).heap.length
   ·obtain ⟨j, g1, g2, g3⟩ := maker h i (by omega) (by omega) h1 hlt
    exact ⟨j, g1, by omega, g3⟩
   ·exact ⟨i, by omega, by omega, by omega, h2⟩
theorem makes [Globs] (h : Dr P call ops perm b l tx sn) {j id : Nat} {oj : IOper} (hj : l[j]? = some oj) (h1 : (tx j).heap.length ≤ id) (h2 : id < (tx (j + 1)).heap.length) : wantedI (tx j).T oj.guard = true ∧ freeOp oj.op = false ∧ readOp oj.op = false ∧ makesNone oj.op = false := by
 cases h.goes hj with
 | skip hw e hn => rw [e] at h2; simp [St.put, St.mem] at h2; omega
 | free hw hf v e hn hv => rw [e] at h2; simp [St.put, St.mem] at h2; omega
 | op hw hf v m' hv hV hle hd e hl hget hn =>
  have hne : m'.heap.length ≠ (view b l tx sn j oj).length := by rw [hV.1]; omega
  refine ⟨hw, hf, ?_, ?_⟩
  ·cases hr : readOp oj.op with
   | false => rfl
   | true => exact absurd (by rw [read_still hr hv]) hne
  ·cases hr : makesNone oj.op with
   | false => rfl
   | true => exact absurd (none_made hr hv) hne
theorem draw_step [Globs] (h : Dr P call ops perm b l tx sn) {M0 : Mp} {w0 : World} {ds : List Deferred} (hf0 : Fresh M0 (tx 0).heap (tx 0).loops) {D : Nat → Bool} {s : St} {M : Mp} {a : Act} {w : World} (hI : Inv P b l tx sn M0 w0 ds D s M a w)
  {k : Nat} (hk : k < l.length) (hs : Stands b D l.length k) (hdown : ∀ i j, i < l.length → j < l.length → D i = true → (b.getD i 0).testBit j = true → D j = true) {ro : Option Nat} {N : Nat} {Q : Exit → Act → World → Prop} {K : Act → World → Prop}
  (hK : ∀ s' M' a' w', Inv P b l tx sn M0 w0 ds (with' D k) s' M' a' w' → K a' w') : wpOpIn (fen ro) N P ops Q (perm.getD k ops.size) K a w := by
 obtain ⟨o, io, ho, hio, hco⟩ := h.get k hk
 obtain ⟨c1, c2, c3⟩ := cOper_eq hco
 have hslots : ∀ t ∈ io.slots, gt s.T t = gt (tx k).T t := fun t ht => by rw [hI.sl t, slots_at h hio hs ht]
 have hopslots : ∀ t ∈ io.op.slots, gt s.T t = gt (tx k).T t := fun t ht => hslots t (by simp [IOper.slots, ht])
 have hwant : Region.wanted o (yielded ops a.tmps) = wantedI (tx k).T io.guard := by
  rw [wanted_sound hI.post.rt c2]
  exact wanted_congr fun t b hg => hslots t (by simp [IOper.slots, hg])
 have hnew : ∀ id g, (tx 0).heap.length ≤ id → (∀ x : Blk, s.heap[id]? ≠ some (some x)) → M.loc id g = none := fun id g h1 h2 => by
  cases hx : M.loc id g with
  | none => rfl
  | some lc =>
   obtain ⟨x, hx⟩ := hI.post.fr.only id g lc hx (hf0.loc id g h1)
   exact absurd hx (h2 x)
 have hn0 : (tx 0).heap.length ≤ (tx k).heap.length := h.lenH k (Nat.zero_le _) (by omega)
 -- how it goes on
 have go : ∀ (v : AV) (m' m2 : Mem) (cv : Value) (M' : Mp) (w' : World), tx (k + 1) = (tx k).put io.dst v m' → RV M' v cv → Holds P M' m2.heap m2.loops w' → Fr M s.heap s.loops w M' m2.heap m2.loops w' →
   m2.heap = HD b l tx sn (with' D k) → m2.loops = fo (ul l tx) (fun _ => (tx 0).loops) (with' D k) l.length () → K (a.put o.dst cv) w' := by
  intro v m' m2 cv M' w' he hv hh hfr e1 e2
  obtain ⟨g1, g2⟩ := slots_step h hio hs hI.len hI.sl (m2 := m2) he
  refine hK (s.put io.dst v m2) M' _ w' ⟨hI.post.trans ⟨?_, hh, hfr, .of_same (by cases o.dst <;> rfl)⟩, g1, g2, e1, e2⟩
  rw [c3]
  exact RT.put (hI.post.rt.mono hfr.le) hv
 have same : (∀ id, ¬ Wr b l tx sn k id) → s.heap = HD b l tx sn (with' D k) := by
  intro hn
  rw [hI.heap]
  unfold HD
  exact List.map_congr_left fun id _ => (HD_other (hn id)).symm
 unfold wpOpIn
 rw [ho]
 simp only
 rw [hwant]
 cases h.goes hio with
 | skip hw e hn =>
  rw [hw]
  simp only [Bool.false_eq_true, if_false]
  refine ⟨fun _ _ => trivial, ?_⟩
  refine go und _ s.mem undef M w e .tup0 hI.post.holds (Fr.refl _ _ _ _) (same ?_) ?_
  ·rintro id ⟨io', h1, h2, _⟩
   rw [hio] at h1
   cases h1
   rw [hw] at h2
   cases h2
  ·show s.loops = _
   rw [hI.loops]
   cases hc : isCall io.op with
   | false => exact (loops_other hio hc).symm
   | true =>
    obtain ⟨g1, g2⟩ := loops_call h hio hs hc
    rw [g1, g2, e]
    rfl
 | free hw hf v e hn hv =>
  rw [hw]
  simp only [if_true]
  have hc : isCall io.op = false := by cases hop : io.op <;> first | rfl | (rw [hop] at hf; simp [freeOp] at hf)
  have hev := hv call s.mem
  rw [evOp_congr (T' := s.T) fun t ht => (hopslots t ht).symm] at hev
  obtain ⟨cv, w', M', h1, h2, h3, h4⟩ := op_sound (m := s.mem) hI.post.holds (fun hlt => absurd hlt (Nat.lt_irrefl _)) hI.post.rt c1 hc hev
  refine wpIn_gives (cOp_defer c1) h1 (go v _ s.mem cv M' w' e h2 h3 h4 (same ?_) ?_)
  ·rintro id ⟨io', g1, _, g3, _⟩
   rw [hio] at g1
   cases g1
   rw [hf] at g3
   cases g3
  ·show s.loops = _
   rw [hI.loops, loops_other hio hc]
 | op hw hf v m' hv hV hle hd e hl hget hn =>
  rw [hw]
  simp only [if_true]
  have hsub : Sub (view b l tx sn k io) s.heap := by rw [hI.heap]; exact view_sub h hio hf hw hs
  have hVl := hV.1
  have hmono : (tx (k + 1)).heap.length ≤ (tx l.length).heap.length := h.lenH _ (by omega) (Nat.le_refl _)
  have hholds : Holds P M (view b l tx sn k io) s.loops w := hI.post.holds.sub hsub
  have hwr : readOp io.op = false → ∀ id, ((∃ x : Blk, (view b l tx sn k io)[id]? = some (some x)) ∨ ((tx k).heap.length ≤ id ∧ id < (tx (k + 1)).heap.length)) → Wr b l tx sn k id := fun hr id hx => ⟨io, hio, hw, hf, hr, hx⟩
  have hord : ∀ id, Wr b l tx sn k id → ∀ i, i < l.length → Wr b l tx sn i id → i = k ∨ ordered b i k = true := by
   rintro id ⟨io', g1, g2, g3, g4, g5⟩
   rw [hio] at g1
   cases g1
   rcases g5 with ⟨x, hx⟩ | g5
   ·exact view_wr h hio hf hw hx
   ·exact new_wr h hio hf hw g4 g5
  have hnow : ∀ id, Wr b l tx sn k id → (tx (k + 1)).heap[id]? = m'.heap[id]? := by
   rintro id ⟨io', g1, g2, g3, g4, g5⟩
   rw [hio] at g1
   cases g1
   rw [hget]
   rcases g5 with ⟨x, hx⟩ | g5
   ·rw [if_pos (live_join.2 ⟨x, hx⟩)]; split <;> rfl
   ·rw [if_neg (by omega)]
  have unborn : ∀ id, (tx k).heap.length ≤ id → id < (tx (k + 1)).heap.length → ∀ x : Blk, s.heap[id]? ≠ some (some x) := by
   intro id g1 g2 x hx
   obtain ⟨_, _, g3, _⟩ := makes h hio g1 g2
   rw [hI.heap, HD_get, (HD_wr h hk hs (new_wr h hio hf hw g3 ⟨g1, g2⟩)).2, List.getElem?_eq_none g1] at hx
   simp at hx
  have wrget : ∀ id, Wr b l tx sn k id → ∀ x : Blk, (HD b l tx sn (with' D k))[id]? = some (some x) ↔ m'.heap[id]? = some (some x) := by
   intro id hx x
   rw [HD_get, (HD_wr h hk hs (hord id hx)).1, hnow id hx, join_some]
   refine ⟨fun g => g.2, fun g => ⟨?_, g⟩⟩
   have := (List.getElem?_eq_some_iff.1 g).1
   omega
  have other : ∀ id, ¬ Wr b l tx sn k id → ∀ x : Blk, (HD b l tx sn (with' D k))[id]? = some (some x) ↔ s.heap[id]? = some (some x) := by
   intro id hx x
   rw [hI.heap, HD_get, HD_get, HD_other hx]
  have rd : readOp io.op = true → m'.heap = view b l tx sn k io := fun hr => by rw [read_still hr hv]
  have fin : ∀ (cv : Value) (M' : Mp) (w' : World) (L' : List (Option ALoop)), L' = fo (ul l tx) (fun _ => (tx 0).loops) (with' D k) l.length () → RV M' v cv → Holds P M' m'.heap L' w' → Fr M (view b l tx sn k io) s.loops w M' m'.heap L' w' → K (a.put o.dst cv) w' := by
   intro cv M' w' L' hL g1 g2 g3
   have mm : Holds P M' (HD b l tx sn (with' D k)) L' w' ∧ Fr M s.heap s.loops w M' (HD b l tx sn (with' D k)) L' w' := by
    refine merge hI.post.holds hsub g2 g3 ?_ ?_ ?_ (by rw [hI.heap, HD_length, HD_length]; exact Nat.le_refl _)
    ·intro id x hx
     by_cases hW : Wr b l tx sn k id
     ·exact .inl ((wrget id hW x).1 hx)
     ·have hx' := (other id hW x).1 hx
      by_cases hv' : ∃ y : Blk, m'.heap[id]? = some (some y)
      ·left
       obtain ⟨y, hy⟩ := hv'
       cases hr : readOp io.op with
       | true =>
        have hy' := hy
        rw [rd hr] at hy
        have := hsub id y hy
        rw [hx'] at this
        cases this
        exact hy'
       | false =>
        exfalso
        by_cases hlt : id < (view b l tx sn k io).length
        ·obtain ⟨z, hz⟩ := hd id y hlt hy
         exact hW (hwr hr id (.inl ⟨z, hz⟩))
        ·have := (List.getElem?_eq_some_iff.1 hy).1
         exact hW (hwr hr id (.inr ⟨by omega, by omega⟩))
      ·exact .inr ⟨hx', fun y hy => hv' ⟨y, hy⟩⟩
    ·intro id x hx
     cases hr : readOp io.op with
     | true =>
      rw [rd hr] at hx
      refine ⟨x, (other id ?_ x).2 (hsub id x hx)⟩
      rintro ⟨io', q1, _, _, q4, _⟩
      rw [hio] at q1
      cases q1
      rw [hr] at q4
      cases q4
     | false =>
      by_cases hlt : id < (view b l tx sn k io).length
      ·obtain ⟨z, hz⟩ := hd id x hlt hx
       exact ⟨x, (wrget id (hwr hr id (.inl ⟨z, hz⟩)) x).2 hx⟩
      ·have := (List.getElem?_eq_some_iff.1 hx).1
       exact ⟨x, (wrget id (hwr hr id (.inr ⟨by omega, by omega⟩)) x).2 hx⟩
    ·intro id x hx
     by_cases hW : Wr b l tx sn k id
     ·have hW' := hW
      obtain ⟨io', q1, _, _, q4, q5⟩ := hW'
      rw [hio] at q1
      cases q1
      rcases q5 with ⟨y, hy⟩ | q5
      ·obtain ⟨z, hz⟩ := g3.live id y hy
       exact ⟨z, (wrget id hW z).2 hz⟩
      ·exact absurd hx (unborn id q5.1 q5.2 x)
     ·exact ⟨x, (other id hW x).2 hx⟩
   exact go v _ ⟨HD b l tx sn (with' D k), L'⟩ cv M' w' e g1 mm.1 mm.2 rfl hL
  rw [evOp_congr (T' := s.T) fun t ht => (hopslots t ht).symm] at hv
  cases hic : isCall io.op with
  | false =>
   have hv2 := (evOp_loops hic hv).2 call s.loops
   obtain ⟨cv, w', M', h1, h2, h3, h4⟩ := op_sound (m := ⟨view b l tx sn k io, s.loops⟩) hholds (fun hlt g => by
    simp only [hVl] at hlt ⊢
    exact hnew _ g hn0 (unborn _ (Nat.le_refl _) (by omega))) hI.post.rt c1 hic hv2
   exact wpIn_gives (cOp_defer c1) h1 (fin cv M' w' s.loops (by rw [hI.loops, loops_other hio hic]) h2 h3 h4)
  | true =>
   obtain ⟨l1, l2⟩ := loops_call h hio hs hic
   have el : s.loops = (tx k).loops := by rw [hI.loops, l1]
   have el2 : (tx (k + 1)).loops = m'.loops := by rw [e]; rfl
   rw [← el] at hv
   have dead : ∀ id, (tx k).heap.length ≤ id → ∀ x : Blk, s.heap[id]? ≠ some (some x) := by
    intro id hid x hx
    rw [hI.heap, HD_get] at hx
    have : fh b l tx sn D l.length id = ((tx 0).heap[id]?).join := by
     refine fo_none _ fun i hi hD => ?_
     cases hu : uh b l tx sn i id with
     | none => rfl
     | some z =>
      exfalso
      have hW : Wr b l tx sn i id := uh_wr (by rw [hu]; rfl)
      obtain ⟨oi, hoi, wi, fi, ri, ht⟩ := hW
      rcases Nat.lt_trichotomy i k with h1 | h1 | h1
      ·rcases ht with ⟨y, hy⟩ | ht
       ·cases h.goes hoi with
        | skip hw' => rw [wi] at hw'; cases hw'
        | free _ hf' => rw [fi] at hf'; cases hf'
        | op _ _ _ _ _ hV' _ _ _ _ _ _ =>
         have h1' := (List.getElem?_eq_some_iff.1 hy).1
         rw [hV'.1] at h1'
         have := h.lenH (i := i) k (by omega) (by omega)
         omega
       ·have := h.lenH (i := i + 1) k (by omega) (by omega); omega
      ·subst h1; rw [hs.1] at hD; cases hD
      ·have hno : ordered b i k = false := by
        cases hor : ordered b i k with
        | false => rfl
        | true => have := (hs.2 i hi hor).1 hD; omega
       have hmn := h.behind' hio hoi hic h1 hno
       rcases ht with ⟨y, hy⟩ | ht
       ·have hli : id < (tx i).heap.length := by
         cases h.goes hoi with
         | skip hw' => rw [wi] at hw'; cases hw'
         | free _ hf' => rw [fi] at hf'; cases hf'
         | op _ _ _ _ _ hV' _ _ _ _ _ _ =>
          have h1' := (List.getElem?_eq_some_iff.1 hy).1
          rw [hV'.1] at h1'
          exact h1'
        obtain ⟨j, j1, j2, j3, j4⟩ := maker h i (by omega) (by omega) hid hli
        obtain ⟨oj, hoj⟩ := h.at (k := j) (by omega)
        obtain ⟨m1, m2, m3, m4⟩ := makes h hoj j3 j4
        have hord2 := view_wr h hoi fi wi hy j (by omega) ⟨oj, hoj, m1, m2, m3, .inr ⟨j3, j4⟩⟩
        have hji : (b.getD i 0).testBit j = true := by
         rcases hord2 with e1 | e1
         ·omega
         ·unfold ordered at e1
          rw [Bool.or_eq_true] at e1
          rcases e1 with e1 | e1
          ·exact e1
          ·have := closed_lt h.closed (p := j) (i := i) (by rw [← h.len]; omega) (by rw [← h.len]; omega) e1
           omega
        have hDj := hdown i j hi (by omega) hD hji
        by_cases hjk : j = k
        ·subst hjk; rw [hs.1] at hDj; cases hDj
        ·cases hor : ordered b j k with
         | true => have := (hs.2 j (by omega) hor).1 hDj; omega
         | false =>
          have := h.behind' hio hoj hic (by omega) hor
          rw [m4] at this
          cases this
       ·have := (makes h hoi ht.1 ht.2).2.2.2
        rw [hmn] at this
        cases this
    rw [this, List.getElem?_eq_none (by omega)] at hx
    simp at hx
   have hfresh : Fresh M (view b l tx sn k io) s.loops := ⟨fun id g hid => hnew id g (by omega) (dead id (by omega)), (hf0.fr hI.post.fr).lp⟩
   exact oper_gives h.calls (m := ⟨view b l tx sn k io, s.loops⟩) hholds hfresh hI.post.rt c1 hv fun M' cv w' g1 g2 g3 => fin cv M' w' m'.loops (by rw [l2, el2]) g1 g2 g3
theorem ready_mem {listed : Array Bool} (hsz : listed.size = ops.size) {i : Nat} : i ∈ Region.ready .any ops listed ↔ ∃ o, ops[i]? = some o ∧ listed.getD i false = false ∧ ∀ e ∈ o.after, Region.binds .any e = true → listed.getD e.on false = true := by
 unfold Region.ready
 simp only [List.mem_filter, List.mem_range]
 constructor
 ·rintro ⟨h1, h2⟩
  rw [Array.getElem?_eq_getElem h1] at h2
  simp only [Bool.and_eq_true, Option.map_some, Option.getD_some, Array.all_eq_true', Bool.not_eq_true'] at h2
  refine ⟨ops[i], by simp [h1], ?_, fun e he hb => ?_⟩
  ·have := h2.1
   simp only [Array.getD, hsz, h1, dite_true] at this ⊢
   exact this
  ·have := h2.2 e he
   simpa [hb] using this
 ·rintro ⟨o, h1, h2, h3⟩
  have hlt := (Array.getElem?_eq_some_iff.1 h1).1
  refine ⟨hlt, ?_⟩
  rw [h1]
  simp only [Bool.and_eq_true, Option.map_some, Option.getD_some, Array.all_eq_true', Bool.not_eq_true']
  refine ⟨?_, fun e he => ?_⟩
  ·simp only [Array.getD, hsz, hlt, dite_true] at h2 ⊢
   exact h2
  ·cases hb : Region.binds .any e with
   | false => rfl
   | true => simpa using h3 e he hb
theorem Inv.last [Globs] (h : Dr P call ops perm b l tx sn) {M0 : Mp} {w0 : World} {ds : List Deferred} {D : Nat → Bool} {s : St} {M : Mp} {a : Act} {w : World} (hI : Inv P b l tx sn M0 w0 ds D s M a w) (hall : ∀ i, i < l.length → D i = true) : s = tx l.length := by
 have hT : s.T = (tx l.length).T := by
  refine List.ext_getElem (by rw [hI.len, h.lenT _ (Nat.le_refl _)]) fun t h1 h2 => ?_
  have := hI.sl t
  rw [fo_text (k := l.length) (Nat.le_refl _) (fun i hi _ => by simp [hall i hi, hi]), ← h.T t _ (Nat.le_refl _), gt_of_lt h1, gt_of_lt h2] at this
  exact this
 have hH : s.heap = (tx l.length).heap := by rw [hI.heap, HD_all h hall]
 have hL : s.loops = (tx l.length).loops := by
  rw [hI.loops, fo_text (k := l.length) (Nat.le_refl _) (fun i hi _ => by simp [hall i hi, hi]), ← h.loops _ (Nat.le_refl _)]
 obtain ⟨T, H, L⟩ := s
 generalize tx l.length = s' at *
 obtain ⟨T', H', L'⟩ := s'
 simp only at hT hH hL
 rw [hT, hH, hL]
theorem any_sound [Globs] (h : Dr P call ops perm b l tx sn) {M0 : Mp} {w0 : World} {ds : List Deferred} (hf0 : Fresh M0 (tx 0).heap (tx 0).loops) {ro : Option Nat} {N : Nat} {Q : Exit → Act → World → Prop}
  (hQ : ∀ M a w, Post P M0 (tx 0) w0 ds (tx l.length) M a w → Q .normal a w) :
  ∀ (fuel : Nat) (listed : Array Bool) (s : St) (M : Mp) (a : Act) (w : World), listed.size = ops.size → listed.toList.count false ≤ fuel → Down ops (fun i => listed.getD i false) → Inv P b l tx sn M0 w0 ds (fun p => listed.getD (perm.getD p ops.size) false) s M a w →
   wpAnyIn (fen ro) N P .any ops Q fuel listed a w := by
 intro fuel
 obtain ⟨pl, psurj, pinj⟩ := permOk_spec h.permok
 have hle := h.len
 have hdone : ∀ (listed : Array Bool) (s : St) (M : Mp) (a : Act) (w : World), listed.size = ops.size → Region.ready .any ops listed = [] → Inv P b l tx sn M0 w0 ds (fun p => listed.getD (perm.getD p ops.size) false) s M a w → Q .normal a w := by
  intro listed s M a w hsz hr hI
  refine hQ M a w ?_
  have hall : ∀ p, p < l.length → listed.getD (perm.getD p ops.size) false = true := by
   intro p
   induction p using Nat.strongRecOn with
   | ind p ih =>
    intro hp
    cases hd : listed.getD (perm.getD p ops.size) false with
    | true => rfl
    | false =>
     obtain ⟨o, ho, hb, _⟩ := closed_back h.closed (p := p) (by rw [← h.len]; exact hp)
     have : perm.getD p ops.size ∈ Region.ready .any ops listed := (ready_mem hsz).2 ⟨o, ho, hd, fun e he hbi => by
      obtain ⟨q, q1, q2⟩ := hb e he hbi
      rw [← q2]
      exact ih q q1 (by omega)⟩
     rw [hr] at this
     cases this
  rw [← hI.last h hall]
  exact hI.post
 induction fuel with
 | zero =>
  intro listed s M a w hsz hcnt hD hI
  have hr : Region.ready .any ops listed = [] := by
   rw [List.eq_nil_iff_forall_not_mem]
   intro i hi
   obtain ⟨o, h1, h2, _⟩ := (ready_mem hsz).1 hi
   have hlt : i < listed.size := by rw [hsz]; exact (Array.getElem?_eq_some_iff.1 h1).1
   have : false ∈ listed.toList := by
    simp only [Array.getD, hlt, dite_true] at h2
    rw [← h2]
    exact Array.getElem_mem_toList hlt
   have := List.count_pos_iff.2 this
   omega
  exact ⟨hr, hdone listed s M a w hsz hr hI⟩
 | succ fuel ih =>
  intro listed s M a w hsz hcnt hD hI
  refine ⟨fun hr => hdone listed s M a w hsz hr hI, fun i hi => ?_⟩
  obtain ⟨o, h1, h2, h3⟩ := (ready_mem hsz).1 hi
  have hops := (Array.getElem?_eq_some_iff.1 h1).1
  have hlt : i < listed.size := by rw [hsz]; exact hops
  obtain ⟨k, hk, rfl⟩ := psurj i hops
  have hkl : k < l.length := by rw [h.len]; exact hk
  have e : ∀ p, p < l.length → (listed.setIfInBounds (perm.getD k ops.size) true).getD (perm.getD p ops.size) false = with' (fun p => listed.getD (perm.getD p ops.size) false) k p := by
   intro p hp
   unfold with'
   simp only [Array.getD_eq_getD_getElem?, Array.getElem?_setIfInBounds]
   by_cases hj : p = k
   ·subst hj; rw [if_pos rfl, if_pos rfl, if_pos hlt]; rfl
   ·rw [if_neg (fun x => hj (pinj k p hk (by omega) x).symm), if_neg hj]
  have hdown : ∀ i j, i < l.length → j < l.length → (fun p => listed.getD (perm.getD p ops.size) false) i = true → (b.getD i 0).testBit j = true → (fun p => listed.getD (perm.getD p ops.size) false) j = true := by
   intro i j hi hj hDi hb
   obtain ⟨oi, hoi, _, _⟩ := closed_back h.closed (p := i) (by omega)
   exact (closed_spec h.closed hD i oi (by omega) hoi (fun e he hbi => hD _ oi hDi hoi e he hbi) j (by omega) hb).1
  have hst : Stands b (fun p => listed.getD (perm.getD p ops.size) false) l.length k := by
   refine ⟨h2, fun i hi hord => ?_⟩
   unfold ordered at hord
   rw [Bool.or_eq_true] at hord
   rcases hord with g | g
   ·obtain ⟨g1, g2⟩ := closed_spec h.closed hD k o hk h1 h3 i (by omega) g
    simp only [g1, g2]
   ·have hlt := closed_lt h.closed (p := i) (i := k) (by omega) hk g
    cases hd : listed.getD (perm.getD i ops.size) false with
    | false =>
     show listed.getD (perm.getD i ops.size) false = true ↔ _
     rw [hd]
     simp
     omega
    | true =>
     have := hdown i k hi hkl hd g
     simp only at this
     rw [h2] at this
     cases this
  refine draw_step h hf0 hI hkl hst hdown fun s' M' a' w' hI' => ?_
  have hI2 : Inv P b l tx sn M0 w0 ds (fun p => (listed.setIfInBounds (perm.getD k ops.size) true).getD (perm.getD p ops.size) false) s' M' a' w' := by
   refine ⟨hI'.post, hI'.len, fun t => ?_, ?_, ?_⟩
   ·rw [hI'.sl t]; exact fo_agree _ fun p hp _ => (e p hp).symm
   ·rw [hI'.heap]; unfold HD fh; exact List.map_congr_left fun id _ => fo_agree _ fun p hp _ => (e p hp).symm
   ·rw [hI'.loops]; exact fo_agree _ fun p hp _ => (e p hp).symm
  refine ih _ s' M' a' w' (by simpa using hsz) ?_ ?_ hI2
  ·have hg : listed.toList[perm.getD k ops.size] = false := by
    simp only [Array.getD, hlt, dite_true] at h2
    simpa using h2
   rw [Array.toList_setIfInBounds, List.count_set (by simpa using hlt), hg]
   have : false ∈ listed.toList := by rw [← hg]; exact List.getElem_mem _
   have := List.count_pos_iff.2 this
   rw [if_pos (by rfl), if_neg (by decide)]
   omega
  ·intro j oj hj hoj e2 he hb
   simp only [Array.getD_eq_getD_getElem?, Array.getElem?_setIfInBounds] at hj ⊢
   split
   ·rfl
   ·split at hj
    ·rename_i hji
     rw [← hji, h1] at hoj
     cases hoj
     have := h3 e2 he hb
     rwa [Array.getD_eq_getD_getElem?] at this
    ·have := hD j oj (by simp only [Array.getD_eq_getD_getElem?]; exact hj) hoj e2 he hb
     simpa only [Array.getD_eq_getD_getElem?] using this
end
theorem cOpersAt_get [Globs] {P : Program} {ops : Array Oper} : ∀ {perm : List Nat} {l : List IOper}, cOpersAt P ops perm = some l → l.length = perm.length ∧ ∀ (p i : Nat), perm[p]? = some i → ∃ o io, ops[i]? = some o ∧ l[p]? = some io ∧ cOper P ops o = some io
 | [], l, h => by cases h; simp
 | i :: r, l, h => by
  unfold cOpersAt at h
  split at h
  ·rename_i o ho
   split at h
   ·rename_i a l' h1 h2
    cases h
    obtain ⟨g1, g2⟩ := cOpersAt_get h2
    refine ⟨by simp [g1], fun p j hp => ?_⟩
    cases p with
    | zero => simp at hp; subst hp; exact ⟨o, a, ho, rfl, h1⟩
    | succ p => simpa using g2 p j (by simpa using hp)
   ·cases h
  ·cases h
theorem draw_sound [Globs] {P : Program} : DrawOk P := by
 intro call hcall id ops dops hc s s' he ro N M a w hh hf hT Q hQ
 simp only [cCode] at hc
 split at hc
 ·rename_i l hl
  split at hc
  ·rename_i hcond
   simp only [Bool.and_eq_true] at hcond
   obtain ⟨⟨⟨⟨d1, d2⟩, d3⟩, d4⟩, d5⟩ := hcond
   simp only [Option.some.injEq, IR.draw.injEq] at hc
   subst hc
   generalize hperm : pickOrder ops ops.size [] = perm at *
   generalize hb : tableOf ops perm = b at *
   obtain ⟨q1, q2⟩ := cOpersAt_get hl
   obtain ⟨pl, _, _⟩ := permOk_spec d2
   have hlen : l.length = ops.size := by rw [q1, pl]
   obtain ⟨tx, sn, t0, t1, t2⟩ := draw_trace _ s s' [] he
   have hdl : (l.zipIdx.map fun (o, j) => dOper b l o j).length = l.length := by simp
   have h : Dr P call ops perm b l tx sn := by
    refine ⟨hcall, hlen, fun p hp => ?_, d2, d3, d4, d5, fun k io hio => ?_⟩
    ·have hp' : p < perm.length := by omega
     obtain ⟨o, io, g1, g2, g3⟩ := q2 p perm[p] (by simp [hp'])
     exact ⟨o, io, by simpa [List.getD, hp'] using g1, g2, g3⟩
    ·have := t2 k (dOper b l io k) (by simp [hio])
     simpa using this
   refine wpIn_region_any d1 ?_
   rw [← t0] at hh hf hT hQ
   have hpad := padded (w' := { w with drawn := w.drawn + 1 }) hh (G := HD b l tx sn fun _ => false) (HD_none h) (by rw [HD_length]; exact h.lenH _ (Nat.zero_le _) (Nat.le_refl _)) rfl rfl rfl
   have hD0 : ∀ i, (Array.replicate ops.size false).getD i false = false := by
    intro i
    simp only [Array.getD_eq_getD_getElem?, Array.getElem?_replicate]
    split <;> rfl
   refine any_sound (w0 := w) (ds := a.defers) h hf (fun M' a' w' hp => hQ M' a' w' ?_) ops.size _ ⟨(tx 0).T, HD b l tx sn fun _ => false, (tx 0).loops⟩ M a _ (by simp) ?_ ?_ ?_
   ·rw [← t1, hdl]; exact hp
   ·refine Nat.le_trans (List.count_le_length) (by simp)
   ·intro i o hi
    have := (hD0 i).symm.trans hi
    cases this
   ·simp only [hD0]
    refine ⟨⟨hT, hpad.1, hpad.2, .of_same rfl⟩, rfl, fun t => ?_, rfl, ?_⟩
    ·exact (fo_none (D := fun _ => false) _ fun i _ hd => by cases hd).symm
    ·exact (fo_none (D := fun _ => false) (f0 := fun _ => (tx 0).loops) (x := ()) _ fun i _ hd => by cases hd).symm
  ·cases hc
 ·cases hc
theorem sound [Globs] {P : Program} {Γ : Env} (hΓ : EnvOk P Γ) (n : Nat) : CallOk P (fun f args m => evF Γ n f args m) := (all_sound hΓ draw_sound n).2
end Go.Zz

