/-
  Regions that draw their order, part 3: what is done, in whatever order.
-/
import Derived.Test.YtpddngcgajjacaaAbs16
namespace Go.Zz

theorem fo_none {κ V : Type} {u : Nat → κ → Option V} {f0 : κ → V} {D : Nat → Bool} {x : κ} : ∀ (n : Nat), (∀ i, i < n → D i = true → u i x = none) → fo u f0 D n x = f0 x
  | 0, _ => rfl
  | n + 1, h => by
    rw [fo, fo_none n fun i hi => h i (by omega)]
    split
    · rename_i hd; rw [h n (by omega) hd]; rfl
    · rfl

/-- What is known of a drawn region and of its trace. -/
structure Dr (P : Program) (call : AV → List AV → Mem → Option (AV × Mem)) (ops : Array Oper) (perm : List Nat) (b : Array Nat) (l : List IOper) (tx : Nat → St) (sn : Nat → Hp × Nat × Nat) : Prop where
  calls : CallOk P call
  len : l.length = ops.size
  get : ∀ p, p < l.length → ∃ o io, ops[perm.getD p ops.size]? = some o ∧ l[p]? = some io ∧ cOper P ops o = some io
  permok : permOk ops.size perm = true
  closed : closedOk b ops perm = true
  slots : slotsOk b l = true
  behind : callsOk b l = true
  fact : ∀ (k : Nat) (io : IOper), l[k]? = some io → Fact call (seenOf sn k) (tx k) (tx (k + 1)) (sn k) (dOper b l io k)

/-- What operation k looks at, in the order of the list. -/
def view (b : Array Nat) (l : List IOper) (tx : Nat → St) (sn : Nat → Hp × Nat × Nat) (k : Nat) (io : IOper) : Hp := limit (tx k).T io.op (strikes (tx k).heap (seenOf sn k) (masksOf b l k io))

def us (l : List IOper) (tx : Nat → St) (k t : Nat) : Option AV :=
  match l[k]? with
  | some io => if io.dst = some t then some (gt (tx (k + 1)).T t) else none
  | none => none

def ul (l : List IOper) (tx : Nat → St) (k : Nat) (_ : Unit) : Option (List (Option ALoop)) :=
  match l[k]? with
  | some io => if isCall io.op then some (tx (k + 1)).loops else none
  | none => none

/-- Operation k writes or makes the block. -/
def Wr (b : Array Nat) (l : List IOper) (tx : Nat → St) (sn : Nat → Hp × Nat × Nat) (k id : Nat) : Prop :=
  ∃ io, l[k]? = some io ∧ wantedI (tx k).T io.guard = true ∧ freeOp io.op = false ∧ readOp io.op = false ∧ ((∃ x : Blk, (view b l tx sn k io)[id]? = some (some x)) ∨ ((tx k).heap.length ≤ id ∧ id < (tx (k + 1)).heap.length))

open Classical in
noncomputable def uh (b : Array Nat) (l : List IOper) (tx : Nat → St) (sn : Nat → Hp × Nat × Nat) (k id : Nat) : Option (Option Blk) :=
  if Wr b l tx sn k id then some ((tx (k + 1)).heap[id]?).join else none

noncomputable def fh (b : Array Nat) (l : List IOper) (tx : Nat → St) (sn : Nat → Hp × Nat × Nat) (D : Nat → Bool) (n id : Nat) : Option Blk :=
  fo (uh b l tx sn) (fun id => ((tx 0).heap[id]?).join) D n id

noncomputable def HD (b : Array Nat) (l : List IOper) (tx : Nat → St) (sn : Nat → Hp × Nat × Nat) (D : Nat → Bool) : Hp :=
  (List.range (tx l.length).heap.length).map fun id => fh b l tx sn D l.length id

def with' (D : Nat → Bool) (k : Nat) : Nat → Bool := fun i => if i = k then true else D i

section
variable {P : Program} {call : AV → List AV → Mem → Option (AV × Mem)} {ops : Array Oper} {perm : List Nat} {b : Array Nat} {l : List IOper} {tx : Nat → St} {sn : Nat → Hp × Nat × Nat}

theorem dOper_o (b : Array Nat) (l : List IOper) (io : IOper) (k : Nat) : (dOper b l io k).o = io := by
  unfold dOper; split <;> rfl

theorem Fact.put {k : Nat} {io : IOper} {seen : List (Hp × Nat × Nat)} {s s' : St} {x : Hp × Nat × Nat} (h : Fact call seen s s' x (dOper b l io k)) : ∃ v m', s' = s.put io.dst v m' := by
  cases h with
  | skip hw e => rw [dOper_o] at e; exact ⟨_, _, e⟩
  | free hw hf v m' h e => rw [dOper_o] at e; exact ⟨_, _, e⟩
  | op hw hf v m' h hd e => rw [dOper_o] at e; exact ⟨_, _, e⟩

theorem put_len (s : St) (d : Option Nat) (v : AV) (m' : Mem) : (s.put d v m').T.length = s.T.length := by
  cases d <;> simp [St.put, pt_length]

theorem gt_put (s : St) (d : Option Nat) (v : AV) (m' : Mem) (t : Nat) : gt (s.put d v m').T t = if d = some t ∧ t < s.T.length then v else gt s.T t := by
  cases d with
  | none => simp [St.put]
  | some d =>
    simp only [St.put, gt_pt, Option.some.injEq]
    by_cases h : t = d
    · subst h; simp
    · rw [if_neg (by simp [h]), if_neg (by simp [Ne.symm h])]

theorem Dr.at (_ : Dr P call ops perm b l tx sn) {k : Nat} (hk : k < l.length) : ∃ io, l[k]? = some io := ⟨l[k], by simp [hk]⟩

theorem Dr.lenT (h : Dr P call ops perm b l tx sn) : ∀ k, k ≤ l.length → (tx k).T.length = (tx 0).T.length
  | 0, _ => rfl
  | k + 1, hk => by
    obtain ⟨io, hio⟩ := h.at (k := k) (by omega)
    obtain ⟨v, m', e⟩ := (h.fact k io hio).put
    rw [e, put_len, h.lenT k (by omega)]

theorem Dr.T (h : Dr P call ops perm b l tx sn) (t : Nat) : ∀ k, k ≤ l.length → gt (tx k).T t = fo (us l tx) (gt (tx 0).T) (upto k) k t
  | 0, _ => rfl
  | k + 1, hk => by
    rw [fo_succ, ← h.T t k (by omega)]
    obtain ⟨io, hio⟩ := h.at (k := k) (by omega)
    obtain ⟨v, m', e⟩ := (h.fact k io hio).put
    simp only [us, hio]
    split
    · rfl
    · rename_i hd
      rw [e, gt_put, if_neg (by simp [hd])]
      rfl

/-- How an operation goes, in the order of the list. -/
inductive Goes (call : AV → List AV → Mem → Option (AV × Mem)) (V : Hp) (s s' : St) (x : Hp × Nat × Nat) (io : IOper) : Prop
  | skip (hw : wantedI s.T io.guard = false) (e : s' = s.put io.dst und s.mem) (hn : x = ([], 0, 0))
  | free (hw : wantedI s.T io.guard = true) (hf : freeOp io.op = true) (v : AV) (e : s' = s.put io.dst v s.mem) (hn : x = ([], 0, 0)) (hv : ∀ call' m2, evOp call' s.T m2 io.op = some (v, m2))
  | op (hw : wantedI s.T io.guard = true) (hf : freeOp io.op = false) (v : AV) (m' : Mem) (hv : evOp call s.T ⟨V, s.loops⟩ io.op = some (v, m')) (hV : Part V s.heap) (hle : V.length ≤ m'.heap.length)
      (hd : ∀ (id : Nat) (x : Blk), id < V.length → m'.heap[id]? = some (some x) → ∃ y : Blk, V[id]? = some (some y)) (e : s' = s.put io.dst v ⟨back s.heap V m'.heap, m'.loops⟩) (hl : s'.heap.length = m'.heap.length)
      (hget : ∀ id, s'.heap[id]? = if id < s.heap.length then (if (V[id]?).join.isSome then m'.heap[id]? else s.heap[id]?) else m'.heap[id]?) (hn : x = (V, s.heap.length, m'.heap.length))

theorem Dr.lens (h : Dr P call ops perm b l tx sn) : ∀ k, k ≤ l.length → (∀ i, i < k → (sn i).2.2 ≤ (tx k).heap.length) ∧ ∀ io, l[k]? = some io → Goes call (view b l tx sn k io) (tx k) (tx (k + 1)) (sn k) io := by
  have seen_get : ∀ (k i : Nat) (V : Hp) (a c : Nat), (seenOf sn k)[i]? = some (V, a, c) → i < k ∧ sn i = (V, a, c) := by
    intro k i V a c hi
    unfold seenOf at hi
    rw [List.getElem?_map] at hi
    by_cases hlt : i < k
    · rw [List.getElem?_range hlt] at hi; exact ⟨hlt, by simpa using hi⟩
    · rw [List.getElem?_eq_none (by simp; omega)] at hi; cases hi
  have step : ∀ k, (∀ i, i < k → (sn i).2.2 ≤ (tx k).heap.length) → ∀ io, l[k]? = some io → Goes call (view b l tx sn k io) (tx k) (tx (k + 1)) (sn k) io := by
    intro k hA io hio
    cases h.fact k io hio with
    | skip hw e hn => rw [dOper_o] at hw e; exact .skip hw e hn
    | free hw hf v m' hv e hn =>
      rw [dOper_o] at hw e hf hv
      have := (free_any (call' := call) hf hv).1
      subst this
      exact .free hw hf v e hn fun call' m2 => (free_any (call' := call') hf hv).2 m2
    | op hw hf v m' hv hd e hn =>
      rw [dOper_o] at hw hf
      have e1 : (dOper b l io k).ms = masksOf b l k io := by unfold dOper; rw [if_neg (by simp [hf])]
      rw [dOper_o, e1] at hv hd e hn
      have hV : Part (view b l tx sn k io) (tx k).heap := (limit_part _ _ _).trans (strikes_spec _ _ fun i V a c hi => by
        obtain ⟨h1, h2⟩ := seen_get k i V a c hi
        have := hA i h1
        rw [h2] at this
        exact this).1
      obtain ⟨d1, d2⟩ := stillDead_spec _ _ hd
      have hb := back_get (tx k).heap (view b l tx sn k io) m'.heap hV.1 (by rw [← hV.1]; exact d1)
      exact .op hw hf v m' hv hV d1 d2 e (by rw [e]; exact hb.1) (by rw [e]; exact hb.2) hn
  intro k
  induction k with
  | zero => intro _; exact ⟨fun i hi => by omega, step 0 fun i hi => by omega⟩
  | succ k ih =>
    intro hk
    obtain ⟨hA, hG⟩ := ih (by omega)
    obtain ⟨io, hio⟩ := h.at (k := k) (by omega)
    have hA' : ∀ i, i < k + 1 → (sn i).2.2 ≤ (tx (k + 1)).heap.length := by
      intro i hi
      cases hG io hio with
      | skip hw e hn =>
        by_cases hik : i = k
        · subst hik; rw [hn]; exact Nat.zero_le _
        · rw [e]; exact hA i (by omega)
      | free hw hf v e hn hv =>
        by_cases hik : i = k
        · subst hik; rw [hn]; exact Nat.zero_le _
        · rw [e]; exact hA i (by omega)
      | op hw hf v m' hv hV hle hd e hl hget hn =>
        rw [hl]
        by_cases hik : i = k
        · subst hik; rw [hn]; exact Nat.le_refl _
        · have := hA i (by omega); rw [hV.1] at hle; omega
    exact ⟨hA', step (k + 1) hA'⟩

theorem Dr.goes (h : Dr P call ops perm b l tx sn) {k : Nat} {io : IOper} (hio : l[k]? = some io) : Goes call (view b l tx sn k io) (tx k) (tx (k + 1)) (sn k) io :=
  (h.lens k (Nat.le_of_lt (List.getElem?_eq_some_iff.1 hio).1)).2 io hio

theorem Dr.lenH1 (h : Dr P call ops perm b l tx sn) {k : Nat} (hk : k < l.length) : (tx k).heap.length ≤ (tx (k + 1)).heap.length := by
  obtain ⟨io, hio⟩ := h.at hk
  cases h.goes hio with
  | skip hw e hn => rw [e]; exact Nat.le_refl _
  | free hw hf v e hn hv => rw [e]; exact Nat.le_refl _
  | op hw hf v m' hv hV hle hd e hl hget hn => rw [hl, ← hV.1]; exact hle

theorem Dr.lenH (h : Dr P call ops perm b l tx sn) {i : Nat} : ∀ k, i ≤ k → k ≤ l.length → (tx i).heap.length ≤ (tx k).heap.length
  | 0, hi, _ => by rw [Nat.le_zero.1 hi]; exact Nat.le_refl _
  | k + 1, hi, hk => by
    by_cases e : i = k + 1
    · rw [e]; exact Nat.le_refl _
    · exact Nat.le_trans (h.lenH k (by omega) (by omega)) (h.lenH1 (by omega))

theorem live_join {x : Option (Option Blk)} : x.join.isSome = true ↔ ∃ y : Blk, x = some (some y) := by
  cases x with
  | none => simp
  | some x => cases x <;> simp

theorem join_some {x : Option (Option Blk)} {y : Blk} : x.join = some y ↔ x = some (some y) := by
  cases x with
  | none => simp
  | some x => simp

/-- The memory in the order of the list. -/
theorem Dr.heap (h : Dr P call ops perm b l tx sn) (id : Nat) : ∀ k, k ≤ l.length → ((tx k).heap[id]?).join = fh b l tx sn (upto k) k id
  | 0, _ => rfl
  | k + 1, hk => by
    unfold fh
    rw [fo_succ]
    have ih := h.heap id k (by omega)
    unfold fh at ih
    rw [← ih]
    unfold uh
    split
    · rfl
    · rename_i hn
      obtain ⟨io, hio⟩ := h.at (k := k) (by omega)
      have hg := h.goes hio
      cases hg with
      | skip hw e hn => rw [e]; rfl
      | free hw hf v e hn hv => rw [e]; rfl
      | op hw hf v m' hv hV hle hd e hl hget _ =>
        rw [hget]
        by_cases hr : readOp io.op = true
        · have := read_still hr hv
          subst this
          split
          · split
            · rename_i hs
              obtain ⟨y, hy⟩ := live_join.1 hs
              have := hV.2 id y hy
              simp only [this, hy]
              rfl
            · rfl
          · rename_i hlt
            rw [List.getElem?_eq_none (by simp only; rw [hV.1]; omega), List.getElem?_eq_none (by omega)]
            rfl
        · have hn' : ¬ ((∃ x : Blk, (view b l tx sn k io)[id]? = some (some x)) ∨ ((tx k).heap.length ≤ id ∧ id < (tx (k + 1)).heap.length)) := fun hx => hn ⟨io, hio, hw, hf, by simpa using hr, hx⟩
          split
          · rw [if_neg]
            · rfl
            · rw [live_join]; exact fun hx => hn' (.inl hx)
          · rename_i hlt
            rw [List.getElem?_eq_none (i := id) (l := m'.heap) (by
              refine Nat.le_of_not_lt fun hx => hn' (.inr ⟨by omega, by rw [hl]; exact hx⟩)), List.getElem?_eq_none (by omega)]
            rfl

theorem Dr.loops (h : Dr P call ops perm b l tx sn) : ∀ k, k ≤ l.length → (tx k).loops = fo (ul l tx) (fun _ => (tx 0).loops) (upto k) k ()
  | 0, _ => rfl
  | k + 1, hk => by
    rw [fo_succ, ← h.loops k (by omega)]
    obtain ⟨io, hio⟩ := h.at (k := k) (by omega)
    simp only [ul, hio]
    split
    · rfl
    · rename_i hc
      cases h.goes hio with
      | skip hw e hn => rw [e]; rfl
      | free hw hf v e hn hv => rw [e]; rfl
      | op hw hf v m' hv hV hle hd e hl hget _ =>
        rw [e]
        exact (evOp_loops (by simpa using hc) hv).1

theorem HD_get {D : Nat → Bool} {id : Nat} {x : Blk} : (HD b l tx sn D)[id]? = some (some x) ↔ id < (tx l.length).heap.length ∧ fh b l tx sn D l.length id = some x := by
  unfold HD
  rw [List.getElem?_map]
  by_cases h : id < (tx l.length).heap.length
  · rw [List.getElem?_range h]; simp [h]
  · rw [List.getElem?_eq_none (by simp; omega)]; simp [h]

theorem HD_length {D : Nat → Bool} : (HD b l tx sn D).length = (tx l.length).heap.length := by simp [HD]

theorem HD_all (h : Dr P call ops perm b l tx sn) {D : Nat → Bool} (hD : ∀ i, i < l.length → D i = true) : HD b l tx sn D = (tx l.length).heap := by
  refine List.ext_getElem (by simp [HD]) fun id h1 h2 => ?_
  have e : fh b l tx sn D l.length id = ((tx l.length).heap[id]?).join := by
    rw [h.heap id _ (Nat.le_refl _)]
    exact fo_agree _ fun i hi hu => by rw [hD i hi]; simp [upto, hi]
  simp only [HD, List.getElem_map, List.getElem_range, e, List.getElem?_eq_getElem h2]
  rfl

theorem HD_none (h : Dr P call ops perm b l tx sn) (id : Nat) (x : Blk) : (HD b l tx sn fun _ => false)[id]? = some (some x) ↔ (tx 0).heap[id]? = some (some x) := by
  rw [HD_get]
  have e : fh b l tx sn (fun _ => false) l.length id = ((tx 0).heap[id]?).join := fo_none _ fun i _ hd => by cases hd
  rw [e, join_some]
  refine ⟨fun h => h.2, fun h1 => ⟨?_, h1⟩⟩
  have := (List.getElem?_eq_some_iff.1 h1).1
  have := h.lenH (i := 0) l.length (Nat.zero_le _) (Nat.le_refl _)
  omega

theorem uh_wr {i id : Nat} (h : (uh b l tx sn i id).isSome = true) : Wr b l tx sn i id := by
  unfold uh at h
  split at h
  · assumption
  · cases h

/-! ### What stands in order with an operation -/

/-- All that stands in order with k and comes before it is done; nothing that comes behind. -/
def Stands (b : Array Nat) (D : Nat → Bool) (n k : Nat) : Prop := D k = false ∧ ∀ i, i < n → ordered b i k = true → (D i = true ↔ i < k)

theorem slotsOk_spec' (h : Dr P call ops perm b l tx sn) {i j : Nat} {oi oj : IOper} (hi : l[i]? = some oi) (hj : l[j]? = some oj) (hne : i ≠ j) {t : Nat} (hd : oi.dst = some t) (ht : t ∈ oj.slots) : ordered b i j = true := slotsOk_spec h.slots hi hj hne hd ht

theorem slots_at (h : Dr P call ops perm b l tx sn) {D : Nat → Bool} {k : Nat} {io : IOper} (hio : l[k]? = some io) (hs : Stands b D l.length k) {t : Nat} (ht : t ∈ io.slots) :
    fo (us l tx) (gt (tx 0).T) D l.length t = gt (tx k).T t := by
  have hk := (List.getElem?_eq_some_iff.1 hio).1
  rw [h.T t k (by omega)]
  refine fo_text (by omega) fun i hi hu => ?_
  by_cases e : i = k
  · subst e; simp [hs.1]
  · refine hs.2 i hi ?_
    obtain ⟨oi, hoi⟩ := h.at hi
    unfold us at hu
    rw [hoi] at hu
    simp only at hu
    split at hu
    · rename_i hd
      exact slotsOk_spec h.slots hoi hio e hd ht
    · cases hu

theorem with_text {D : Nat → Bool} {n k : Nat} (hs : Stands b D n k) {i : Nat} (hi : i < n) (h : i = k ∨ ordered b i k = true) : with' D k i = true ↔ i < k + 1 := by
  unfold with'
  by_cases e : i = k
  · simp [e]
  · rw [if_neg e, hs.2 i hi (h.resolve_left e)]
    omega

theorem without_text {D : Nat → Bool} {n k : Nat} (hs : Stands b D n k) {i : Nat} (hi : i < n) (h : i = k ∨ ordered b i k = true) : D i = true ↔ i < k := by
  by_cases e : i = k
  · subst e; simp [hs.1]
  · exact hs.2 i hi (h.resolve_left e)

/-- The slots behind the operation. -/
theorem slots_step (h : Dr P call ops perm b l tx sn) {D : Nat → Bool} {k : Nat} {io : IOper} (hio : l[k]? = some io) (hs : Stands b D l.length k) {s : St} (hl : s.T.length = (tx 0).T.length) (hT : ∀ t, gt s.T t = fo (us l tx) (gt (tx 0).T) D l.length t)
    {v : AV} {m' m2 : Mem} (he : tx (k + 1) = (tx k).put io.dst v m') : (s.put io.dst v m2).T.length = (tx 0).T.length ∧ ∀ t, gt (s.put io.dst v m2).T t = fo (us l tx) (gt (tx 0).T) (with' D k) l.length t := by
  have hk := (List.getElem?_eq_some_iff.1 hio).1
  refine ⟨by rw [put_len, hl], fun t => ?_⟩
  by_cases hd : io.dst = some t
  · rw [fo_text (k := k + 1) (by omega) fun i hi hu => with_text hs hi ?_, ← h.T t (k + 1) (by omega), he, gt_put, gt_put, h.lenT k (by omega), hl]
    · by_cases hlt : t < (tx 0).T.length
      · rw [if_pos ⟨hd, hlt⟩, if_pos ⟨hd, hlt⟩]
      · rw [if_neg (by simp [hlt]), if_neg (by simp [hlt]), gt_of_ge (by rw [hl]; omega), gt_of_ge (by rw [h.lenT k (by omega)]; omega)]
    · by_cases e : i = k
      · exact .inl e
      · refine .inr ?_
        obtain ⟨oi, hoi⟩ := h.at hi
        unfold us at hu
        rw [hoi] at hu
        simp only at hu
        split at hu
        · rename_i hd'
          exact slotsOk_spec h.slots hoi hio e hd' (by simp [IOper.slots, hd])
        · cases hu
  · rw [gt_put, if_neg (by simp [hd]), hT t]
    refine fo_agree _ fun i hi hu => ?_
    unfold with'
    rw [if_neg]
    rintro rfl
    simp [us, hio, hd] at hu

theorem unord_of {i k : Nat} (h : ¬ (i = k ∨ ordered b i k = true)) : unord b i k = true := by
  simp only [not_or, ordered, Bool.or_eq_true, not_or, Bool.not_eq_true] at h
  unfold unord
  rw [h.2.1, h.2.2]
  simp [h.1]

theorem unord_comm {i k : Nat} : unord b i k = unord b k i := by
  unfold unord
  rw [Bool.and_assoc, Bool.and_assoc, Bool.and_comm (!(b.getD k 0).testBit i)]
  congr 1
  cases h : i != k <;> cases h2 : k != i <;> simp_all

/-- What an earlier operation touched, one that stands in no order with it does not see. -/
theorem apart (h : Dr P call ops perm b l tx sn) {i k : Nat} {oi ok : IOper} (hi : l[i]? = some oi) (hk : l[k]? = some ok) (hik : i < k) (hu : unord b i k = true) (hfi : freeOp oi.op = false) (hr : ¬ (readOp oi.op = true ∧ readOp ok.op = true)) (hwi : wantedI (tx i).T oi.guard = true)
    {id : Nat} {x : Blk} (hx : (view b l tx sn k ok)[id]? = some (some x)) : (∀ y : Blk, (view b l tx sn i oi)[id]? ≠ some (some y)) ∧ ¬ ((tx i).heap.length ≤ id ∧ id < (tx (i + 1)).heap.length) := by
  have hlk := h.lens k (Nat.le_of_lt (List.getElem?_eq_some_iff.1 hk).1)
  have hseen : ∀ (j : Nat) (V : Hp) (a c : Nat), (seenOf sn k)[j]? = some (V, a, c) → c ≤ (tx k).heap.length := by
    intro j V a c hj
    unfold seenOf at hj
    rw [List.getElem?_map] at hj
    by_cases hlt : j < k
    · rw [List.getElem?_range hlt] at hj
      have := hlk.1 j hlt
      simp at hj
      rw [hj] at this
      exact this
    · rw [List.getElem?_eq_none (by simp; omega)] at hj; cases hj
  have h1 := (limit_part _ _ _).2 id x hx
  cases h.goes hi with
  | skip hw => rw [hwi] at hw; cases hw
  | free hw hf => rw [hfi] at hf; cases hf
  | op hw hf v m' hv hV hle hd e hl hget hn =>
    have hm : i ∈ masksOf b l k ok := by
      unfold masksOf
      simp only [List.mem_filter, List.mem_range, hi, hu, Bool.true_and]
      refine ⟨hik, ?_⟩
      rw [hfi]
      simp only [Bool.not_false, Bool.true_and, Bool.not_eq_true', Bool.and_eq_false_iff]
      cases h3 : readOp oi.op with
      | false => exact .inl rfl
      | true => exact .inr (by cases h4 : readOp ok.op with | false => rfl | true => exact absurd ⟨h3, h4⟩ hr)
    have := (strikes_spec _ _ hseen).2 id x h1 i hm _ _ _ (by
      unfold seenOf
      rw [List.getElem?_map, List.getElem?_range hik, Option.map_some, hn])
    rw [hl]
    exact ⟨this.2, this.1⟩

/-- The writers of what an operation sees stand in order with it. -/
theorem view_wr (h : Dr P call ops perm b l tx sn) {k : Nat} {io : IOper} (hio : l[k]? = some io) (hf : freeOp io.op = false) (hw : wantedI (tx k).T io.guard = true) {id : Nat} {x : Blk} (hx : (view b l tx sn k io)[id]? = some (some x)) :
    ∀ i, i < l.length → Wr b l tx sn i id → i = k ∨ ordered b i k = true := by
  intro i hi ⟨oi, hoi, wi, fi, ri, ht⟩
  have hk := (List.getElem?_eq_some_iff.1 hio).1
  by_cases hord : i = k ∨ ordered b i k = true
  · exact hord
  exfalso
  have hun := unord_of hord
  have hne : i ≠ k := fun e => hord (.inl e)
  rcases Nat.lt_or_gt_of_ne hne with hlt | hgt
  · obtain ⟨g1, g2⟩ := apart h hoi hio hlt hun fi (by simp [ri]) wi hx
    rcases ht with ⟨y, hy⟩ | ht
    · exact g1 y hy
    · exact g2 ht
  · rcases ht with ⟨y, hy⟩ | ht
    · exact (apart h hio hoi hgt (by rw [unord_comm]; exact hun) hf (by simp [ri]) hw hy).1 x hx
    · cases h.goes hio with
      | skip hw' => rw [hw] at hw'; cases hw'
      | free _ hf' => rw [hf] at hf'; cases hf'
      | op _ _ v m' hv hV hle hd e hl hget hn =>
        have h1 := (List.getElem?_eq_some_iff.1 hx).1
        rw [hV.1] at h1
        have := h.lenH (i := k) i (by omega) (by omega)
        omega

/-- It is part of what is there. -/
theorem view_sub (h : Dr P call ops perm b l tx sn) {D : Nat → Bool} {k : Nat} {io : IOper} (hio : l[k]? = some io) (hf : freeOp io.op = false) (hw : wantedI (tx k).T io.guard = true) (hs : Stands b D l.length k) : Sub (view b l tx sn k io) (HD b l tx sn D) := by
  intro id x hv
  have hk := (List.getElem?_eq_some_iff.1 hio).1
  cases h.goes hio with
  | skip hw' => rw [hw] at hw'; cases hw'
  | free _ hf' => rw [hf] at hf'; cases hf'
  | op _ _ v m' _ hV hle hd e hl hget hn =>
    have h1 := hV.2 id x hv
    rw [HD_get]
    refine ⟨Nat.lt_of_lt_of_le (List.getElem?_eq_some_iff.1 h1).1 (h.lenH _ (by omega) (Nat.le_refl _)), ?_⟩
    unfold fh
    rw [fo_text (k := k) (by omega) fun i hi hu => without_text hs hi (view_wr h hio hf hw hv i hi (uh_wr hu))]
    have := h.heap id k (by omega)
    unfold fh at this
    rw [← this, h1]
    rfl

/-- The writers of a new block: its maker, and those that stand in order with it. -/
theorem new_wr (h : Dr P call ops perm b l tx sn) {k : Nat} {io : IOper} (hio : l[k]? = some io) (hf : freeOp io.op = false) (hw : wantedI (tx k).T io.guard = true) (hr : readOp io.op = false) {id : Nat} (hid : (tx k).heap.length ≤ id ∧ id < (tx (k + 1)).heap.length) :
    ∀ i, i < l.length → Wr b l tx sn i id → i = k ∨ ordered b i k = true := by
  intro i hi ⟨oi, hoi, wi, fi, ri, ht⟩
  have hk := (List.getElem?_eq_some_iff.1 hio).1
  by_cases hord : i = k ∨ ordered b i k = true
  · exact hord
  exfalso
  have hun := unord_of hord
  have hne : i ≠ k := fun e => hord (.inl e)
  rcases ht with ⟨y, hy⟩ | ht
  · rcases Nat.lt_or_gt_of_ne hne with hlt | hgt
    · cases h.goes hoi with
      | skip hw' => rw [wi] at hw'; cases hw'
      | free _ hf' => rw [fi] at hf'; cases hf'
      | op _ _ v m' hv hV hle hd e hl hget hn =>
        have h1 := (List.getElem?_eq_some_iff.1 hy).1
        rw [hV.1] at h1
        have := h.lenH (i := i) k (by omega) (by omega)
        omega
    · exact (apart h hio hoi hgt (by rw [unord_comm]; exact hun) hf (by simp [ri]) hw hy).2 hid
  · rcases Nat.lt_or_gt_of_ne hne with hlt | hgt
    · have := h.lenH (i := i + 1) k (by omega) (by omega); omega
    · have := h.lenH (i := k + 1) i (by omega) (by omega); omega

/-- What the operation does not write stays. -/
theorem HD_other {D : Nat → Bool} {k id : Nat} (hn : ¬ Wr b l tx sn k id) : fh b l tx sn (with' D k) l.length id = fh b l tx sn D l.length id := by
  refine fo_agree _ fun i hi hu => ?_
  unfold with'
  rw [if_neg]
  rintro rfl
  exact hn (uh_wr hu)

/-- What it writes is as in the order of the list. -/
theorem HD_wr (h : Dr P call ops perm b l tx sn) {D : Nat → Bool} {k id : Nat} (hk : k < l.length) (hs : Stands b D l.length k) (ht : ∀ i, i < l.length → Wr b l tx sn i id → i = k ∨ ordered b i k = true) :
    fh b l tx sn (with' D k) l.length id = ((tx (k + 1)).heap[id]?).join ∧ fh b l tx sn D l.length id = ((tx k).heap[id]?).join := by
  constructor
  · rw [h.heap id (k + 1) (by omega)]
    exact fo_text (by omega) fun i hi hu => with_text hs hi (ht i hi (uh_wr hu))
  · rw [h.heap id k (by omega)]
    exact fo_text (by omega) fun i hi hu => without_text hs hi (ht i hi (uh_wr hu))

end
end Go.Zz
