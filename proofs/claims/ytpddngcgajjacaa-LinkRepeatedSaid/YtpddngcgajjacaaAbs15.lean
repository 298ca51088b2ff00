/-
  Regions that draw their order, part 1: the trace in the order of the list; what an operation looks at.
-/
import Derived.Test.YtpddngcgajjacaaAbs14
namespace Go.Zz

/-! ### Updates, some of them done -/

def fo {κ V : Type} (u : Nat → κ → Option V) (f0 : κ → V) (D : Nat → Bool) : Nat → κ → V
  | 0, x => f0 x
  | n + 1, x => if D n then (u n x).getD (fo u f0 D n x) else fo u f0 D n x

def upto (k : Nat) : Nat → Bool := fun i => decide (i < k)

theorem fo_agree {κ V : Type} {u : Nat → κ → Option V} {f0 : κ → V} {D D' : Nat → Bool} {x : κ} : ∀ (n : Nat), (∀ i, i < n → (u i x).isSome = true → D i = D' i) → fo u f0 D n x = fo u f0 D' n x
  | 0, _ => rfl
  | n + 1, h => by
    have ih := fo_agree (f0 := f0) (x := x) n fun i hi => h i (by omega)
    simp only [fo, ih]
    cases hu : u n x with
    | none => simp
    | some v => rw [h n (by omega) (by simp [hu])]

theorem fo_upto {κ V : Type} {u : Nat → κ → Option V} {f0 : κ → V} {x : κ} {k : Nat} : ∀ (n : Nat), k ≤ n → fo u f0 (upto k) n x = fo u f0 (upto k) k x
  | 0, h => by rw [Nat.le_zero.1 h]
  | n + 1, h => by
    by_cases e : k = n + 1
    · rw [e]
    · rw [fo, if_neg (by simp [upto]; omega)]
      exact fo_upto n (by omega)

theorem fo_text {κ V : Type} {u : Nat → κ → Option V} {f0 : κ → V} {D : Nat → Bool} {x : κ} {n k : Nat} (hk : k ≤ n) (h : ∀ i, i < n → (u i x).isSome = true → (D i = true ↔ i < k)) : fo u f0 D n x = fo u f0 (upto k) k x := by
  rw [← fo_upto n hk]
  refine fo_agree n fun i hi hu => ?_
  have := h i hi hu
  cases hD : D i <;> simp_all [upto]

theorem fo_succ {κ V : Type} {u : Nat → κ → Option V} {f0 : κ → V} {x : κ} (k : Nat) : fo u f0 (upto (k + 1)) (k + 1) x = (u k x).getD (fo u f0 (upto k) k x) := by
  rw [fo, if_pos (by simp [upto]), fo_agree (D' := upto k) k fun i hi _ => by simp [upto]; omega]

/-! ### The trace -/

inductive Fact (call : AV → List AV → Mem → Option (AV × Mem)) (seen : List (Hp × Nat × Nat)) (s s' : St) (sn : Hp × Nat × Nat) (d : DOper) : Prop
  | skip (hw : wantedI s.T d.o.guard = false) (e : s' = s.put d.o.dst und s.mem) (hn : sn = ([], 0, 0))
  | free (hw : wantedI s.T d.o.guard = true) (hf : freeOp d.o.op = true) (v : AV) (m' : Mem) (h : evOp call s.T s.mem d.o.op = some (v, m')) (e : s' = s.put d.o.dst v m') (hn : sn = ([], 0, 0))
  | op (hw : wantedI s.T d.o.guard = true) (hf : freeOp d.o.op = false) (v : AV) (m' : Mem) (h : evOp call s.T ⟨limit s.T d.o.op (strikes s.heap seen d.ms), s.loops⟩ d.o.op = some (v, m'))
      (hd : stillDead (limit s.T d.o.op (strikes s.heap seen d.ms)) m'.heap = true) (e : s' = s.put d.o.dst v ⟨back s.heap (limit s.T d.o.op (strikes s.heap seen d.ms)) m'.heap, m'.loops⟩)
      (hn : sn = (limit s.T d.o.op (strikes s.heap seen d.ms), s.heap.length, m'.heap.length))

def seenOf (sn : Nat → Hp × Nat × Nat) (k : Nat) : List (Hp × Nat × Nat) := (List.range k).map sn

def consT {α : Type} (s : α) (tx : Nat → α) : Nat → α
  | 0 => s
  | k + 1 => tx k

theorem seen_cons (x : Hp × Nat × Nat) (sn : Nat → Hp × Nat × Nat) (k : Nat) : seenOf (consT x sn) (k + 1) = x :: seenOf sn k := by
  unfold seenOf
  rw [List.range_succ_eq_map]
  simp [consT, Function.comp_def]

theorem draw_trace {call : AV → List AV → Mem → Option (AV × Mem)} : ∀ (ops : List DOper) (s s' : St) (seen : List (Hp × Nat × Nat)), evDraw call ops s seen = some s' →
    ∃ (tx : Nat → St) (sn : Nat → Hp × Nat × Nat), tx 0 = s ∧ tx ops.length = s' ∧ ∀ k d, ops[k]? = some d → Fact call (seen ++ seenOf sn k) (tx k) (tx (k + 1)) (sn k) d
  | [], s, s', seen, h => by
    simp [evDraw] at h
    exact ⟨fun _ => s, fun _ => ([], 0, 0), rfl, h, by simp⟩
  | d :: r, s, s', seen, h => by
    have fin : ∀ (s1 : St) (x : Hp × Nat × Nat), evDraw call r s1 (seen ++ [x]) = some s' → Fact call seen s s1 x d →
        ∃ (tx : Nat → St) (sn : Nat → Hp × Nat × Nat), tx 0 = s ∧ tx (d :: r).length = s' ∧ ∀ k e, (d :: r)[k]? = some e → Fact call (seen ++ seenOf sn k) (tx k) (tx (k + 1)) (sn k) e := by
      intro s1 x h1 hf
      obtain ⟨tx, sn, t0, t1, t2⟩ := draw_trace r s1 s' _ h1
      refine ⟨consT s tx, consT x sn, rfl, t1, fun k e he => ?_⟩
      cases k with
      | zero =>
        simp at he
        subst he
        show Fact call _ s (tx 0) x d
        rw [t0]
        simpa [seenOf] using hf
      | succ k =>
        have := t2 k e (by simpa using he)
        rw [seen_cons]
        rw [List.append_assoc, List.singleton_append] at this
        exact this
    simp only [evDraw] at h
    split at h
    · rename_i hw
      split at h
      · rename_i hf
        split at h
        · rename_i v m' hv
          exact fin _ _ h (.free hw hf v m' hv rfl rfl)
        · cases h
      · rename_i hf
        split at h
        · rename_i v m' hv
          split at h
          · rename_i hd
            exact fin _ _ h (.op hw (by simpa using hf) v m' hv hd rfl rfl)
          · cases h
        · cases h
    · rename_i hw
      exact fin _ _ h (.skip (by simpa using hw) rfl rfl)

/-! ### What is struck -/

/-- Part of it, of the same length. -/
def Part (H' H : Hp) : Prop := H'.length = H.length ∧ ∀ (id : Nat) (b : Blk), H'[id]? = some (some b) → H[id]? = some (some b)

theorem Part.refl (H : Hp) : Part H H := ⟨rfl, fun _ _ h => h⟩
theorem Part.trans {A B C : Hp} (h : Part A B) (k : Part B C) : Part A C := ⟨h.1.trans k.1, fun id b x => k.2 id b (h.2 id b x)⟩

theorem blanks_part (H : Hp) : Part (blanks H) H := by
  refine ⟨by simp [blanks], fun id b h => ?_⟩
  simp [blanks] at h

theorem onlyAt_part : ∀ (H : Hp) (i : Nat), Part (onlyAt H i) H
  | [], i => by cases i <;> exact ⟨rfl, fun _ _ h => by simp [onlyAt] at h⟩
  | h :: H, 0 => by
    refine ⟨by simp [onlyAt, blanks], fun id b hb => ?_⟩
    cases id with
    | zero => simpa [onlyAt] using hb
    | succ id => simp [onlyAt, blanks] at hb
  | h :: H, i + 1 => by
    obtain ⟨e1, e2⟩ := onlyAt_part H i
    refine ⟨by simp [onlyAt, e1], fun id b hb => ?_⟩
    cases id with
    | zero => simp [onlyAt] at hb
    | succ id => simpa using e2 id b (by simpa [onlyAt] using hb)

theorem limit_part (T : List AV) (op : IOp) (H : Hp) : Part (limit T op H) H := by
  unfold limit
  split
  · split
    · exact onlyAt_part _ _
    · exact blanks_part _
  · split
    · exact onlyAt_part _ _
    · exact blanks_part _
  · split
    · exact onlyAt_part _ _
    · exact blanks_part _
  · split
    · exact onlyAt_part _ _
    · exact blanks_part _
  · exact blanks_part _
  · exact blanks_part _
  · exact blanks_part _
  · exact blanks_part _
  · exact Part.refl _

theorem strikeV_spec : ∀ (H V : Hp), Part (strikeV H V) H ∧ ∀ (id : Nat) (b : Blk), (strikeV H V)[id]? = some (some b) → ∀ x : Blk, V[id]? ≠ some (some x)
  | [], V => by cases V <;> exact ⟨⟨rfl, fun _ _ h => by simp [strikeV] at h⟩, fun _ _ h => by simp [strikeV] at h⟩
  | h :: H, [] => ⟨by simp only [strikeV]; exact Part.refl _, fun _ _ _ x hx => by simp at hx⟩
  | h :: H, some v :: V => by
    obtain ⟨⟨e1, e2⟩, e3⟩ := strikeV_spec H V
    refine ⟨⟨by simp [strikeV, e1], fun id b hb => ?_⟩, fun id b hb => ?_⟩
    · cases id with
      | zero => simp [strikeV] at hb
      | succ id => simpa using e2 id b (by simpa [strikeV] using hb)
    · cases id with
      | zero => simp [strikeV] at hb
      | succ id => simpa using e3 id b (by simpa [strikeV] using hb)
  | h :: H, none :: V => by
    obtain ⟨⟨e1, e2⟩, e3⟩ := strikeV_spec H V
    refine ⟨⟨by simp [strikeV, e1], fun id b hb => ?_⟩, fun id b hb => ?_⟩
    · cases id with
      | zero => simpa [strikeV] using hb
      | succ id => simpa using e2 id b (by simpa [strikeV] using hb)
    · cases id with
      | zero => simp
      | succ id => simpa using e3 id b (by simpa [strikeV] using hb)

theorem strike_spec {H : Hp} {a b : Nat} (h2 : b ≤ H.length) : Part (strike H a b) H ∧ ∀ (id : Nat) (x : Blk), (strike H a b)[id]? = some (some x) → ¬ (a ≤ id ∧ id < b) := by
  unfold strike
  split
  · rename_i hab
    have get : ∀ id : Nat, (H.take a ++ List.replicate (b - a) none ++ H.drop b)[id]? = if a ≤ id ∧ id < b then some none else H[id]? := by
      intro id
      by_cases c1 : id < a
      · rw [List.append_assoc, List.getElem?_append_left (by simp; omega), List.getElem?_take, if_pos c1, if_neg (by omega)]
      · by_cases c2 : id < b
        · rw [List.append_assoc, List.getElem?_append_right (by simp; omega), List.getElem?_append_left (by simp; omega), if_pos (by omega), List.getElem?_replicate, if_pos (by simp; omega)]
        · rw [List.getElem?_append_right (by simp; omega), if_neg (by omega), List.getElem?_drop]
          congr 1
          simp
          omega
    refine ⟨⟨by simp; omega, fun id x h => ?_⟩, fun id x h => ?_⟩
    · rw [get] at h
      split at h
      · cases h
      · exact h
    · rw [get] at h
      split at h
      · cases h
      · assumption
  · exact ⟨Part.refl _, fun id x _ => by omega⟩

theorem strikes_spec {seen : List (Hp × Nat × Nat)} : ∀ (ms : List Nat) (H : Hp), (∀ (i : Nat) (V : Hp) (a b : Nat), seen[i]? = some (V, a, b) → b ≤ H.length) →
    Part (strikes H seen ms) H ∧ ∀ (id : Nat) (x : Blk), (strikes H seen ms)[id]? = some (some x) → ∀ i ∈ ms, ∀ V a b, seen[i]? = some (V, a, b) → ¬ (a ≤ id ∧ id < b) ∧ ∀ y : Blk, V[id]? ≠ some (some y)
  | [], H, _ => ⟨Part.refl _, fun id x _ => by simp⟩
  | i :: ms, H, hm => by
    cases hi : seen[i]? with
    | none =>
      have e : strikes H seen (i :: ms) = strikes H seen ms := by simp [strikes, hi]
      rw [e]
      obtain ⟨g1, g2⟩ := strikes_spec ms H hm
      refine ⟨g1, fun id x h j hj V a b hab => ?_⟩
      rcases List.mem_cons.1 hj with rfl | hj
      · rw [hi] at hab; cases hab
      · exact g2 id x h j hj V a b hab
    | some q =>
      obtain ⟨V, a, b⟩ := q
      have e : strikes H seen (i :: ms) = strikes (strikeV (strike H a b) V) seen ms := by simp [strikes, hi]
      rw [e]
      obtain ⟨p1, p2⟩ := strike_spec (a := a) (hm i V a b hi)
      obtain ⟨q1, q2⟩ := strikeV_spec (strike H a b) V
      obtain ⟨g1, g2⟩ := strikes_spec (seen := seen) ms (strikeV (strike H a b) V) (fun (i : Nat) V a b h => by rw [q1.1, p1.1]; exact hm i V a b h)
      refine ⟨g1.trans (q1.trans p1), fun id x h j hj V2 a2 b2 hab => ?_⟩
      rcases List.mem_cons.1 hj with rfl | hj
      · rw [hi] at hab; cases hab
        have h1 := g1.2 id x h
        exact ⟨p2 id x (q1.2 id x h1), q2 id x h1⟩
      · exact g2 id x h j hj V2 a2 b2 hab

theorem back_get : ∀ (H V H' : Hp), V.length = H.length → H.length ≤ H'.length → (back H V H').length = H'.length ∧ ∀ id, (back H V H')[id]? = if id < H.length then (if (V[id]?).join.isSome then H'[id]? else H[id]?) else H'[id]?
  | [], V, H', _, _ => by cases V <;> simp [back]
  | h :: H, [], H', e, _ => by simp at e
  | h :: H, v :: V, [], _, hl => by simp at hl
  | h :: H, v :: V, h' :: H', e, hl => by
    obtain ⟨g1, g2⟩ := back_get H V H' (by simpa using e) (by simpa using hl)
    refine ⟨by simp [back, g1], fun id => ?_⟩
    cases id with
    | zero => cases v <;> simp [back]
    | succ id => simpa [back] using g2 id

theorem stillDead_spec : ∀ (V H' : Hp), stillDead V H' = true → V.length ≤ H'.length ∧ ∀ (id : Nat) (x : Blk), id < V.length → H'[id]? = some (some x) → ∃ y : Blk, V[id]? = some (some y)
  | [], H', _ => ⟨by simp, fun id x h => by simp at h⟩
  | none :: V, none :: H', h => by
    obtain ⟨g1, g2⟩ := stillDead_spec V H' (by simpa [stillDead] using h)
    refine ⟨by simpa using g1, fun id x hlt hx => ?_⟩
    cases id with
    | zero => simp at hx
    | succ id => simpa using g2 id x (by simpa using hlt) (by simpa using hx)
  | some v :: V, h' :: H', h => by
    obtain ⟨g1, g2⟩ := stillDead_spec V H' (by simpa [stillDead] using h)
    refine ⟨by simpa using g1, fun id x hlt hx => ?_⟩
    cases id with
    | zero => exact ⟨v, rfl⟩
    | succ id => simpa using g2 id x (by simpa using hlt) (by simpa using hx)
  | none :: V, some h' :: H', h => by simp [stillDead] at h
  | none :: V, [], h => by simp [stillDead] at h
  | some v :: V, [], h => by simp [stillDead] at h

/-! ### What an operation looks at -/

theorem ev_congr {T T' : List AV} {x : Opd} (h : ∀ t ∈ x.slots, gt T t = gt T' t) : x.ev T = x.ev T' := by
  cases x with
  | tmp t => exact h t (by simp [Opd.slots])
  | con v => rfl

theorem evO_congr {T T' : List AV} {x : Option Opd} (h : ∀ t ∈ slotsO x, gt T t = gt T' t) : x.map (·.ev T) = x.map (·.ev T') := by
  cases x with
  | none => rfl
  | some x => simp [ev_congr (x := x) (T := T) (T' := T') (by simpa [slotsO] using h)]

theorem evL_congr {T T' : List AV} : ∀ {xs : List Opd}, (∀ t ∈ slotsL xs, gt T t = gt T' t) → xs.map (·.ev T) = xs.map (·.ev T')
  | [], _ => rfl
  | x :: r, h => by
    simp only [slotsL, List.mem_append] at h
    simp [ev_congr (x := x) fun t ht => h t (.inl ht), evL_congr (xs := r) fun t ht => h t (.inr ht)]

theorem fillP_congr {T T' : List AV} : ∀ {ps : List (Nat × Nat × Opd)} {cs : List AV}, (∀ t ∈ slotsP ps, gt T t = gt T' t) → fillP T cs ps = fillP T' cs ps
  | [], _, _ => rfl
  | (o, s, x) :: r, cs, h => by
    simp only [slotsP, List.mem_append] at h
    simp only [fillP, ev_congr (x := x) fun t ht => h t (.inl ht)]
    cases (x.ev T').cells with
    | none => rfl
    | some c =>
      simp only [Option.bind_eq_bind, Option.bind_some]
      split
      · cases over cs o c with
        | none => rfl
        | some cs' => exact fillP_congr fun t ht => h t (.inr ht)
      · rfl

theorem evOp_congr {call : AV → List AV → Mem → Option (AV × Mem)} {T T' : List AV} {m : Mem} {op : IOp} (h : ∀ t ∈ op.slots, gt T t = gt T' t) : evOp call T m op = evOp call T' m op := by
  cases op <;> simp only [IOp.slots, List.mem_append] at h <;> simp only [evOp]
  case move x => rw [ev_congr (x := x) h]
  case pick c a b => rw [ev_congr (x := c) fun t ht => h t (.inl ht), ev_congr (x := a) fun t ht => h t (.inr (.inl ht)), ev_congr (x := b) fun t ht => h t (.inr (.inr ht))]
  case build z ps => rw [fillP_congr h]
  case buildSlice n s z ps => rw [fillP_congr h]
  case makeFunc f a b => rw [evL_congr (xs := a) fun t ht => h t (.inl ht), evL_congr (xs := b) fun t ht => h t (.inr ht)]
  case slice s x lo hi mx =>
    rw [ev_congr (x := x) fun t ht => h t (.inl ht), evO_congr (x := lo) fun t ht => h t (.inr (.inl ht)), evO_congr (x := hi) fun t ht => h t (.inr (.inr (.inl ht))), evO_congr (x := mx) fun t ht => h t (.inr (.inr (.inr ht)))]
  case sliceArr n s x lo hi mx =>
    rw [ev_congr (x := x) fun t ht => h t (.inl ht), evO_congr (x := lo) fun t ht => h t (.inr (.inl ht)), evO_congr (x := hi) fun t ht => h t (.inr (.inr (.inl ht))), evO_congr (x := mx) fun t ht => h t (.inr (.inr (.inr ht)))]
  case minmax b xs => rw [evL_congr (xs := xs) h]
  case call f args => rw [ev_congr (x := f) fun t ht => h t (.inl ht), evL_congr (xs := args) fun t ht => h t (.inr ht)]
  case box x => rw [ev_congr (x := x) h]
  case nilCheck x => rw [ev_congr (x := x) h]
  case un o x => rw [ev_congr (x := x) h]
  case conv o x => rw [ev_congr (x := x) h]
  case fieldAddr o x => rw [ev_congr (x := x) h]
  case field a o s x => rw [ev_congr (x := x) h]
  case extract x i => rw [ev_congr (x := x) h]
  case lenS x => rw [ev_congr (x := x) h]
  case capS x => rw [ev_congr (x := x) h]
  case clear s z x => rw [ev_congr (x := x) h]
  case load a s x => rw [ev_congr (x := x) h]
  case store s x y => rw [ev_congr (x := x) fun t ht => h t (.inl ht), ev_congr (x := y) fun t ht => h t (.inr ht)]
  case bin s x y => rw [ev_congr (x := x) fun t ht => h t (.inl ht), ev_congr (x := y) fun t ht => h t (.inr ht)]
  case beq s x y => rw [ev_congr (x := x) fun t ht => h t (.inl ht), ev_congr (x := y) fun t ht => h t (.inr ht)]
  case aggEq s g x y => rw [ev_congr (x := x) fun t ht => h t (.inl ht), ev_congr (x := y) fun t ht => h t (.inr ht)]
  case nilEq s g x y => rw [ev_congr (x := x) fun t ht => h t (.inl ht), ev_congr (x := y) fun t ht => h t (.inr ht)]
  case makeSlice s b z x y => rw [ev_congr (x := x) fun t ht => h t (.inl ht), ev_congr (x := y) fun t ht => h t (.inr ht)]
  case indexAddr s x y => rw [ev_congr (x := x) fun t ht => h t (.inl ht), ev_congr (x := y) fun t ht => h t (.inr ht)]
  case indexAddrArr n s x y => rw [ev_congr (x := x) fun t ht => h t (.inl ht), ev_congr (x := y) fun t ht => h t (.inr ht)]
  case index n a s x y => rw [ev_congr (x := x) fun t ht => h t (.inl ht), ev_congr (x := y) fun t ht => h t (.inr ht)]
  case append s b x y => rw [ev_congr (x := x) fun t ht => h t (.inl ht), ev_congr (x := y) fun t ht => h t (.inr ht)]
  case copy s x y => rw [ev_congr (x := x) fun t ht => h t (.inl ht), ev_congr (x := y) fun t ht => h t (.inr ht)]

theorem wanted_congr {T T' : List AV} {g : Option (Nat × Bool)} (h : ∀ t b, g = some (t, b) → gt T t = gt T' t) : wantedI T g = wantedI T' g := by
  cases g with
  | none => rfl
  | some tb => simp only [wantedI, h _ _ rfl]

/-- Free operations leave the memory as it is, and give the same over any. -/
theorem free_any {call call' : AV → List AV → Mem → Option (AV × Mem)} {T : List AV} {m m' : Mem} {op : IOp} {v : AV} (hf : freeOp op = true) (h : evOp call T m op = some (v, m')) : m' = m ∧ ∀ m2, evOp call' T m2 op = some (v, m2) := by
  cases op <;> simp [freeOp] at hf <;> simp only [evOp] at h ⊢
  case beq n x y =>
    split at h
    · simp at h; obtain ⟨rfl, rfl⟩ := h; exact ⟨rfl, fun m2 => by simp_all⟩
    · cases h
  case pick c a b =>
    split at h
    · simp at h; obtain ⟨rfl, rfl⟩ := h; exact ⟨rfl, fun m2 => by simp_all⟩
    · cases h
  case aggEq n sg x y =>
    split at h
    · rename_i ha hb
      simp only [Option.map_eq_some_iff, Prod.mk.injEq] at h
      obtain ⟨r, hr, rfl, rfl⟩ := h
      exact ⟨rfl, fun m2 => by simp [ha, hb, hr]⟩
    · cases h
  case conv k x =>
    split at h
    · simp at h; obtain ⟨rfl, rfl⟩ := h; exact ⟨rfl, fun m2 => by simp_all⟩
    · cases h
  case field a o s x =>
    split at h
    · rename_i hx
      simp only [Option.map_eq_some_iff, Prod.mk.injEq] at h
      obtain ⟨r, hr, rfl, rfl⟩ := h
      exact ⟨rfl, fun m2 => by simp [hx, hr]⟩
    · cases h
  case indexAddrArr n s x i =>
    simp only [Option.bind_eq_some_iff, Option.map_eq_some_iff, Prod.mk.injEq] at h
    obtain ⟨j, hj, r, hr, rfl, rfl⟩ := h
    exact ⟨rfl, fun m2 => by simp [hj, hr]⟩
  case index n a s x i =>
    split at h
    · rename_i hx
      simp only [Option.bind_eq_some_iff, Option.map_eq_some_iff, Prod.mk.injEq] at h
      obtain ⟨j, hj, r, hr, rfl, rfl⟩ := h
      exact ⟨rfl, fun m2 => by simp [hx, hj, hr]⟩
    · cases h
  case lenS x =>
    cases hx : slen (x.ev T) with
    | none => simp [hx] at h
    | some n =>
      simp [hx] at h
      exact ⟨h.2.symm, fun m2 => by simp [h.1]⟩
  case extract x i =>
    split at h
    · rename_i hx
      simp only [Option.map_eq_some_iff, Prod.mk.injEq] at h
      obtain ⟨r, hr, rfl, rfl⟩ := h
      exact ⟨rfl, fun m2 => by simp [hx, hr]⟩
    · cases h
  all_goals first
    | (simp only [Option.some.injEq, Prod.mk.injEq] at h; obtain ⟨rfl, rfl⟩ := h; exact ⟨rfl, fun m2 => rfl⟩)
    | (simp only [Option.map_eq_some_iff, Prod.mk.injEq] at h; obtain ⟨r, hr, rfl, rfl⟩ := h; exact ⟨rfl, fun m2 => by simp [hr]⟩)

/-- The loops' records are no matter of operations other than calls. -/
theorem evOp_loops {call : AV → List AV → Mem → Option (AV × Mem)} {T : List AV} {m m' : Mem} {op : IOp} {v : AV} (hc : isCall op = false) (h : evOp call T m op = some (v, m')) :
    m'.loops = m.loops ∧ ∀ (call' : AV → List AV → Mem → Option (AV × Mem)) (L : List (Option ALoop)), evOp call' T ⟨m.heap, L⟩ op = some (v, ⟨m'.heap, L⟩) := by
  by_cases hf : freeOp op = true
  · have := (free_any (call' := call) hf h).1
    subst this
    exact ⟨rfl, fun call' L => (free_any (call' := call') hf h).2 _⟩
  cases op <;> simp [freeOp] at hf <;> simp [isCall] at hc <;> simp only [evOp] at h ⊢
  case alloc z =>
    simp only [Option.some.injEq, Prod.mk.injEq] at h
    obtain ⟨rfl, rfl⟩ := h
    exact ⟨rfl, fun _ _ => rfl⟩
  case box x =>
    simp only [Option.map_eq_some_iff, Prod.mk.injEq] at h
    obtain ⟨c, hx, rfl, rfl⟩ := h
    exact ⟨rfl, fun _ _ => by simp [hx, newBlk]⟩
  case buildSlice n s z ps =>
    simp only [Option.map_eq_some_iff, Prod.mk.injEq] at h
    obtain ⟨c, hx, rfl, rfl⟩ := h
    exact ⟨rfl, fun _ _ => by simp [hx, newBlk]⟩
  case load a s x =>
    simp only [Option.map_eq_some_iff, Prod.mk.injEq] at h
    obtain ⟨c, hx, rfl, rfl⟩ := h
    exact ⟨rfl, fun _ _ => by simp [hx]⟩
  case sliceArr n s x lo hi mx =>
    simp only [Option.map_eq_some_iff, Prod.mk.injEq] at h
    obtain ⟨c, hx, rfl, rfl⟩ := h
    exact ⟨rfl, fun _ _ => by simp [hx]⟩
  case slice s x lo hi mx =>
    simp only [Option.map_eq_some_iff, Prod.mk.injEq] at h
    obtain ⟨c, hx, rfl, rfl⟩ := h
    exact ⟨rfl, fun _ _ => by simp [hx]⟩
  case makeSlice s b z l c =>
    split at h
    · rename_i hl hc
      split at h
      · rename_i hcond
        simp only [Option.some.injEq, Prod.mk.injEq] at h
        obtain ⟨rfl, rfl⟩ := h
        exact ⟨rfl, fun _ _ => by rw [if_pos hcond]; rfl⟩
      · cases h
    · cases h
  case store size a x =>
    split at h
    · rename_i id g off ha
      simp only [Option.bind_eq_some_iff] at h
      obtain ⟨c, hc, h⟩ := h
      split at h
      · rename_i hs
        simp only [Option.map_eq_some_iff, Prod.mk.injEq] at h
        obtain ⟨H, hH, rfl, rfl⟩ := h
        exact ⟨rfl, fun _ _ => by simp [hc, hs, hH]⟩
      · cases h
    · cases h
  case append s b x y =>
    revert h
    unfold appendAV
    generalize x.ev T = xs
    generalize y.ev T = ys
    intro h
    simp only [Option.bind_eq_bind, Option.bind_eq_some_iff] at h
    obtain ⟨c, hc, n, hn, h⟩ := h
    simp only [hc, hn, Option.bind_eq_bind, Option.bind_some]
    split at h
    · split at h
      · simp at h; obtain ⟨rfl, rfl⟩ := h; refine ⟨rfl, fun _ _ => by simp_all⟩
      · split at h
        · simp at h; obtain ⟨rfl, rfl⟩ := h; refine ⟨rfl, fun _ _ => by simp_all [newBlk]⟩
        · cases h
    · split at h
      · simp at h; obtain ⟨rfl, rfl⟩ := h; refine ⟨rfl, fun _ _ => by simp_all⟩
      · split at h
        · simp at h; obtain ⟨rfl, rfl⟩ := h; refine ⟨rfl, fun _ _ => by simp_all [newBlk]⟩
        · cases h
    · split at h
      · rename_i hsz
        simp only [Option.bind_eq_some_iff] at h
        obtain ⟨l, hl, old, ho, h⟩ := h
        split at h
        · split at h
          · rename_i hle
            simp only [Option.bind_eq_some_iff, Option.some.injEq, Prod.mk.injEq] at h
            obtain ⟨H, hH, rfl, rfl⟩ := h
            exact ⟨rfl, fun _ _ => by simp [hsz, hl, ho, hle, hH]⟩
          · rename_i hle
            split at h
            · rename_i hb
              simp only [Option.some.injEq, Prod.mk.injEq] at h
              obtain ⟨rfl, rfl⟩ := h
              exact ⟨rfl, fun _ _ => by simp only [hsz, hl, ho, if_true, Option.bind_some, if_neg hle, if_pos hb]; rfl⟩
            · cases h
        · split at h
          · rename_i hle
            simp only [Option.bind_eq_some_iff, Option.some.injEq, Prod.mk.injEq] at h
            obtain ⟨H, hH, rfl, rfl⟩ := h
            exact ⟨rfl, fun _ _ => by simp [hsz, hl, ho, hle, hH]⟩
          · rename_i hle
            split at h
            · rename_i hb
              simp only [Option.some.injEq, Prod.mk.injEq] at h
              obtain ⟨rfl, rfl⟩ := h
              exact ⟨rfl, fun _ _ => by simp only [hsz, hl, ho, if_true, Option.bind_some, if_neg hle, if_pos hb]⟩
            · cases h
      · cases h
    · cases h
  case copy s d x =>
    revert h
    unfold copyAV
    generalize d.ev T = ds
    generalize x.ev T = xs
    intro h
    simp only [Option.bind_eq_bind, Option.bind_eq_some_iff] at h
    obtain ⟨c, hc, n, hn, h⟩ := h
    simp only [hc, hn, Option.bind_eq_bind, Option.bind_some]
    split at h
    · simp at h; obtain ⟨rfl, rfl⟩ := h; exact ⟨rfl, fun _ _ => by simp⟩
    · split at h
      · rename_i hsz
        simp only [Option.bind_eq_some_iff, Option.some.injEq, Prod.mk.injEq] at h
        obtain ⟨H, hH, rfl, rfl⟩ := h
        exact ⟨rfl, fun _ _ => by simp [hsz, hH]⟩
      · cases h
    · cases h
  case clear s z x =>
    revert h
    unfold clearAV
    generalize x.ev T = xs
    intro h
    simp only [Option.map_eq_some_iff, Prod.mk.injEq] at h
    obtain ⟨m2, hm, rfl, rfl⟩ := h
    split at hm
    · cases hm; exact ⟨rfl, fun _ _ => by simp⟩
    · cases hm; exact ⟨rfl, fun _ _ => by simp⟩
    · split at hm
      · rename_i h0
        cases hm; exact ⟨rfl, fun _ _ => by simp [h0]⟩
      · rename_i h0
        simp only [Option.map_eq_some_iff] at hm
        obtain ⟨H, hH, rfl⟩ := hm
        exact ⟨rfl, fun _ _ => by simp [h0, hH]⟩
    · cases hm

theorem read_still {call : AV → List AV → Mem → Option (AV × Mem)} {T : List AV} {m m' : Mem} {op : IOp} {v : AV} (hr : readOp op = true) (h : evOp call T m op = some (v, m')) : m' = m := by
  cases op <;> simp [readOp] at hr <;> simp only [evOp, Option.map_eq_some_iff, Prod.mk.injEq] at h <;> (obtain ⟨_, _, _, rfl⟩ := h; rfl)

theorem none_made {call : AV → List AV → Mem → Option (AV × Mem)} {T : List AV} {m m' : Mem} {op : IOp} {v : AV} (hr : makesNone op = true) (h : evOp call T m op = some (v, m')) : m'.heap.length = m.heap.length := by
  by_cases hf : freeOp op = true
  · rw [(free_any (call' := call) hf h).1]
  by_cases hd : readOp op = true
  · rw [read_still hd h]
  cases op <;> simp [makesNone, freeOp] at hr <;> simp [freeOp] at hf <;> simp [readOp] at hd
  simp only [evOp] at h
  split at h
  · simp only [Option.bind_eq_some_iff] at h
    obtain ⟨c, hc, h⟩ := h
    split at h
    · simp only [Option.map_eq_some_iff, Prod.mk.injEq, storeAt, Option.bind_eq_bind, Option.bind_eq_some_iff, Option.some.injEq] at h
      obtain ⟨H, ⟨l, _, l', _, rfl⟩, _, rfl⟩ := h
      simp [setBlk]
    · cases h
  · cases h

/-- What it is limited to does not hang on more than its slots. -/
theorem limit_congr {T T' : List AV} {op : IOp} {H : Hp} (h : ∀ t ∈ op.slots, gt T t = gt T' t) : limit T op H = limit T' op H := by
  cases op <;> simp only [IOp.slots, List.mem_append] at h <;> simp only [limit]
  case load a s x => rw [ev_congr (x := x) h]
  case store s x y => rw [ev_congr (x := x) fun t ht => h t (.inl ht)]
  case sliceArr n s x lo hi mx => rw [ev_congr (x := x) fun t ht => h t (.inl ht)]
  case slice s x lo hi mx => rw [ev_congr (x := x) fun t ht => h t (.inl ht)]

end Go.Zz
