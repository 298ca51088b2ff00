/-
  Reading cells: loads, slices' cells, equality.
-/
import Derived.Test.YtpddngcgajjacaaAbs4
namespace Go.Zz

/-- The cells l lie in block b from o on. -/
def CellsAt (M : Mp) (w : World) (b o : Nat) (l : List AV) : Prop :=
  ∃ f : Nat → Value, ∀ i, i < l.length → w.cell? ⟨b, o + i, none⟩ = some (f i) ∧ RV M (gt l i) (f i) ∧ (f i).oneCell' = true

theorem cellsAt_blk {P : Program} {M : Mp} {H : Hp} {L : List (Option ALoop)} {w : World} (h : Holds P M H L w) {id g : Nat} {l : List AV} {lc : Loc} (hk : look H id g = some l) (hl : M.loc id g = some lc) :
    CellsAt M w lc.blk lc.base l := by
  obtain ⟨lc0, hB⟩ := h.blk id _ (look_eq hk)
  have e0 : lc0 = lc := by have := hB.loc; simp only at this; rw [hl] at this; exact (Option.some.inj this).symm
  subst e0
  refine ⟨fun i => (w.cell? ⟨lc0.blk, lc0.base + i, none⟩).getD undef, fun i hi => ?_⟩
  obtain ⟨v, h1, h2, h3⟩ := hB.rel i hi
  simp only [h1, Option.getD_some]
  exact ⟨trivial, h2, h3⟩

theorem cellsAt_imm {P : Program} {M : Mp} {H : Hp} {L : List (Option ALoop)} {w : World} (h : Holds P M H L w) {b o : Nat} {l : List AV} {f : Nat → Value}
    (hi : ∀ i, i < l.length → M.imm b (o + i) = some (f i)) (hr : ∀ i, i < l.length → RV M (gt l i) (f i)) (h1 : ∀ i, i < l.length → (f i).oneCell' = true) : CellsAt M w b o l :=
  ⟨f, fun i hlt => ⟨h.imm _ _ _ (hi i hlt), hr i hlt, h1 i hlt⟩⟩

theorem CellsAt.drop {M : Mp} {w : World} {b o : Nat} {l : List AV} (h : CellsAt M w b o l) (k : Nat) : CellsAt M w b (o + k) (l.drop k) := by
  obtain ⟨f, hf⟩ := h
  refine ⟨fun i => f (k + i), fun i hi => ?_⟩
  rw [List.length_drop] at hi
  obtain ⟨h1, h2, h3⟩ := hf (k + i) (by omega)
  refine ⟨by rw [Nat.add_assoc]; exact h1, ?_, h3⟩
  rw [gt_eq] at h2 ⊢
  simpa [List.getD, List.getElem?_drop] using h2

theorem CellsAt.take {M : Mp} {w : World} {b o : Nat} {l : List AV} (h : CellsAt M w b o l) (k : Nat) : CellsAt M w b o (l.take k) := by
  obtain ⟨f, hf⟩ := h
  refine ⟨f, fun i hi => ?_⟩
  rw [List.length_take] at hi
  obtain ⟨h1, h2, h3⟩ := hf i (by omega)
  refine ⟨h1, ?_, h3⟩
  rw [gt_eq] at h2 ⊢
  simpa [List.getD, List.getElem?_take, show i < k by omega] using h2

/-- The list of the cells' values. -/
theorem CellsAt.list {M : Mp} {w : World} {b o : Nat} {l : List AV} (h : CellsAt M w b o l) :
    ∃ vs : List Value, vs.length = l.length ∧ (∀ j v, vs[j]? = some v → w.cell? ⟨b, o + j, none⟩ = some v) ∧ RVs M l vs.toArray ∧ ∀ v ∈ vs, v.oneCell' = true := by
  obtain ⟨f, hf⟩ := h
  refine ⟨(List.range l.length).map f, by simp, ?_, ?_, ?_⟩
  · intro j v hv
    rw [List.getElem?_map] at hv
    by_cases hj : j < l.length
    · simp [hj] at hv
      rw [← hv]
      exact (hf j hj).1
    · simp [hj] at hv
  · refine RVs.of_lt (by simp) fun i h1 h2 => ?_
    have := (hf i h1).2.1
    rw [gt_of_lt h1] at this
    simpa using this
  · intro v hv
    obtain ⟨i, hi, rfl⟩ := List.mem_map.1 hv
    exact (hf i (by simpa using hi)).2.2

theorem cut_eq {l l' : List AV} {off n : Nat} (h : cut l off n = some l') : l' = (l.drop off).take n ∧ off + n ≤ l.length := by
  unfold cut at h
  split at h
  · cases h; exact ⟨rfl, by assumption⟩
  · cases h

theorem agg_of_list {M : Mp} {l : List AV} {vs : List Value} (h : RVs M l vs.toArray) (h1 : ∀ v ∈ vs, v.oneCell' = true) : RV M (.agg l) (.agg vs.toArray) :=
  .agg l vs.toArray h.len h.rel (by simpa using h1)

theorem szOf_eq {P : Program} {t : TypeId} {s : Nat} (h : szOf P t = some s) : ∃ i, P.info? t = some i ∧ i.size = s ∧ 0 < s := by
  unfold szOf at h
  cases hi : P.info? t with
  | none => simp [hi] at h
  | some i =>
    simp [hi] at h
    exact ⟨i, rfl, h.2, h.2 ▸ h.1⟩

theorem aggOf_eq {P : Program} {t : TypeId} {g : Bool} (h : aggOf P t = some g) : ∃ d, P.underlying t = some d ∧ g = d.isRow := by
  unfold aggOf at h
  cases hi : P.underlying t with
  | none => simp [hi] at h
  | some d =>
    simp [hi] at h
    refine ⟨d, rfl, ?_⟩
    rw [← h]
    cases d <;> rfl

theorem run_isAgg {P : Program} {t : TypeId} {d : TypeDesc} (h : P.underlying t = some d) (w : World) : (isAgg t).run P w = .ok d.isRow w := by
  unfold isAgg
  rw [Sem.run_bind, run_underlying h w]
  cases d <;> rfl

theorem oneCell_tuple {v : Value} (h : v.oneCell' = true) : (∀ c, v ≠ .agg c) ∧ (∀ c, v ≠ .tuple c) := by
  cases v <;> simp_all [Value.oneCell']

/-- A variable of type t is read. -/
theorem run_load {P : Program} {M : Mp} {w : World} {b o off : Nat} {l : List AV} (hc : CellsAt M w b o l) {t : TypeId} {g : Bool} {s : Nat} (hg : aggOf P t = some g) (hs : szOf P t = some s)
    {x : AV} (hx : loadCs g s l off = some x) : ∃ v, (loadVar t ⟨b, o + off, none⟩).run P w = .ok v w ∧ RV M x v := by
  obtain ⟨d, hd, rfl⟩ := aggOf_eq hg
  obtain ⟨i, hi, hsz, hpos⟩ := szOf_eq hs
  unfold loadCs at hx
  split at hx
  · rename_i hrow
    cases hcut : cut l off s with
    | none => simp [hcut] at hx
    | some l' =>
      simp [hcut] at hx
      subst hx
      obtain ⟨rfl, hin⟩ := cut_eq hcut
      obtain ⟨vs, h1, h2, h3, h4⟩ := ((hc.drop off).take s).list
      refine ⟨.agg vs.toArray, ?_, agg_of_list h3 h4⟩
      refine run_loadVar_mid (P := P) w b (o + off) t vs d (fun j v hv => h2 j v hv) hd hrow ?_
      simp [hi, hsz, h1]
      omega
  · rename_i hrow
    obtain ⟨f, hf⟩ := hc
    have hlt : off < l.length := (List.getElem?_eq_some_iff.1 hx).1
    obtain ⟨h1, h2, _⟩ := hf off hlt
    refine ⟨f off, ?_, by rw [gt_of_some hx] at h2; exact h2⟩
    have : d.isRow = false := by simpa using hrow
    simp [loadVar, run_isAgg hd, this, load, Sem.run, h1]

/-! ### A slice's cells -/

theorem rv_snil {M : Mp} {v : Value} (h : RV M .snil v) : v = .slice none 0 0 := by cases h; rfl

theorem scells_at {P : Program} {M : Mp} {H : Hp} {L : List (Option ALoop)} {w : World} (h : Holds P M H L w) {s : AV} {v : Value} (hv : RV M s v) {sz n : Nat} {xs : List AV}
    (hx : scells H sz s = some xs) (hn : slen s = some n) : xs.length = n * sz ∧ ((s = .snil ∧ v = .slice none 0 0 ∧ xs = [] ∧ n = 0) ∨
      (s ≠ .snil ∧ ∃ b o cap, v = .slice (some ⟨b, o, none⟩) n cap ∧ CellsAt M w b o xs)) := by
  cases hv with
  | snil => simp [scells, slen] at hx hn; subst hx; subst hn; simp
  | sval full len l b o cap f hc hf hi hr h1 =>
    simp [scells, slen] at hx hn
    obtain ⟨e, rfl⟩ := hx
    subst hn
    exact ⟨e, .inr ⟨by simp, b, o, cap, rfl, cellsAt_imm h hi hr h1⟩⟩
  | sref id g off sz' len cap lc ccap hl hc hr he ho =>
    simp [scells, slen] at hx hn
    obtain ⟨rfl, hx⟩ := hx
    subst hn
    cases hk : look H id g with
    | none => simp [hk] at hx
    | some l =>
      simp [hk] at hx
      obtain ⟨rfl, hin⟩ := cut_eq hx
      refine ⟨by simp; omega, .inr ⟨by simp, lc.blk, lc.base + off, ccap, rfl, ?_⟩⟩
      exact ((cellsAt_blk h hk hl).drop off).take (len * sz')
  | _ => simp [scells] at hx

theorem firstCells_at {M : Mp} {w : World} {b o n sz : Nat} {xs : List AV} (hl : xs.length = n * sz) (hc : CellsAt M w b o xs) :
    ∃ vs : List Value, vs.length = n * sz ∧ (∀ j v, vs[j]? = some v → w.cell? ((⟨b, o, none⟩ : Addr).add j) = some v) ∧ RVs M xs vs.toArray ∧ ∀ v ∈ vs, v.oneCell' = true := by
  obtain ⟨vs, h1, h2, h3, h4⟩ := hc.list
  refine ⟨vs, by omega, fun j v hv => ?_, h3, h4⟩
  rw [Addr.add_mid]
  exact h2 j v hv

/-! ### Equality cell by cell -/

theorem sig_row {P : Program} : ∀ {d : Nat} {t : TypeId} {sg : List Bool}, sigOf P d t = some sg → ∃ D i, P.underlying t = some D ∧ P.info? t = some i ∧ i.size = sg.length ∧
      (D.isRow = false → (D = .bool ∧ sg = [false]) ∨ ((∃ k, D = .int k) ∧ sg = [true]))
  | 0, _, _, h => by simp [sigOf] at h
  | d + 1, t, sg, h => by
    unfold sigOf at h
    split at h
    · rename_i i h1 h2
      split at h
      · cases h; exact ⟨_, i, h1, h2, by simpa, fun _ => .inl ⟨rfl, rfl⟩⟩
      · cases h
    · rename_i k i h1 h2
      split at h
      · cases h; exact ⟨_, i, h1, h2, by simpa, fun _ => .inr ⟨⟨k, rfl⟩, rfl⟩⟩
      · cases h
    · rename_i fs i h1 h2
      split at h
      · cases h
      · split at h
        · split at h
          · rename_i e
            cases h
            exact ⟨_, i, h1, h2, e.symm, fun hr => by simp at hr⟩
          · cases h
        · cases h
    · rename_i n e i h1 h2
      split at h
      · rename_i x0 se0 hse
        split at h
        · rename_i e'
          cases h
          refine ⟨_, i, h1, h2, ?_, fun hr => by simp at hr⟩
          rw [← e']
          generalize x0 :: se0 = se
          clear e' h1 h2 hse
          induction n with
          | zero => simp [reps]
          | succ n ih => simp [reps, ← ih, Nat.add_mul]; omega
        · cases h
      · cases h
    · cases h

/-- A value of type t with these cells. -/
def IsVal (P : Program) (t : TypeId) (vs : List Value) (v : Value) : Prop :=
  ∃ D, P.underlying t = some D ∧ ((D.isRow = true ∧ v = .agg vs.toArray) ∨ (D.isRow = false ∧ vs = [v]))

theorem run_part {P : Program} {w : World} {d : Nat} {t : TypeId} {sg : List Bool} (h : sigOf P d t = some sg) {vs : List Value} {off : Nat} (hin : off + sg.length ≤ vs.length) :
    ∃ v, (part t vs.toArray off).run P w = .ok v w ∧ IsVal P t ((vs.drop off).take sg.length) v := by
  obtain ⟨D, i, h1, h2, h3, h4⟩ := sig_row h
  cases hr : D.isRow with
  | true =>
    refine ⟨.agg ((vs.drop off).take sg.length).toArray, ?_, D, h1, .inl ⟨hr, rfl⟩⟩
    simp only [part, Sem.run_bind, run_isAgg h1, hr, Result.andThen_ok, if_true]
    simp only [sizeOf, typeInfo, Sem.run_bind, run_program, h2, Result.andThen_ok, Sem.run_pure]
    congr 2
    rw [h3]
    apply Array.ext'
    simp [List.take_drop]
  | false =>
    have hl : sg.length = 1 := by rcases h4 hr with ⟨_, rfl⟩ | ⟨_, rfl⟩ <;> rfl
    have hlt : off < vs.length := by omega
    refine ⟨vs[off], ?_, D, h1, .inr ⟨hr, ?_⟩⟩
    · simp only [part, Sem.run_bind, run_isAgg h1, hr, Result.andThen_ok]
      simp [hlt]
    · rw [hl, List.drop_eq_getElem_cons hlt]
      rfl

theorem cellsEq_split : ∀ {s1 s2 : List Bool} {l r : List AV} {q : Bool}, cellsEq (s1 ++ s2) l r = some q →
    ∃ q1 q2, cellsEq s1 (l.take s1.length) (r.take s1.length) = some q1 ∧ cellsEq s2 (l.drop s1.length) (r.drop s1.length) = some q2 ∧ q = (q1 && q2)
  | [], s2, l, r, q, h => ⟨true, q, by simp [cellsEq], by simpa using h, by simp⟩
  | k :: s1, s2, l, r, q, h => by
    cases l with
    | nil => simp [cellsEq] at h
    | cons x l => cases r with
      | nil => simp [cellsEq] at h
      | cons y r =>
        simp only [List.cons_append, cellsEq] at h
        cases hc : cellEq k x y with
        | none => simp [hc] at h
        | some c =>
          simp only [hc] at h
          cases hr : cellsEq (s1 ++ s2) l r with
          | none => simp [hr] at h
          | some q' =>
            simp [hr] at h
            obtain ⟨q1, q2, h1, h2, h3⟩ := cellsEq_split hr
            refine ⟨c && q1, q2, by simp [cellsEq, hc, h1], by simpa using h2, ?_⟩
            rw [← h, h3, Bool.and_assoc]

theorem cellsEq_len : ∀ {s : List Bool} {l r : List AV} {q : Bool}, cellsEq s l r = some q → l.length = s.length ∧ r.length = s.length
  | [], [], [], _, _ => ⟨rfl, rfl⟩
  | k :: s, x :: l, y :: r, q, h => by
    simp only [cellsEq] at h
    cases hc : cellEq k x y with
    | none => simp [hc] at h
    | some c =>
      simp only [hc] at h
      cases hr : cellsEq s l r with
      | none => simp [hr] at h
      | some q' => have := cellsEq_len hr; simp [this]
  | [], _ :: _, _, _, h => by simp [cellsEq] at h
  | [], [], _ :: _, _, h => by simp [cellsEq] at h
  | _ :: _, [], _, _, h => by simp [cellsEq] at h
  | _ :: _, _ :: _, [], _, h => by simp [cellsEq] at h

theorem RVs.drop {M : Mp} {l : List AV} {vs : List Value} (h : RVs M l vs.toArray) (k : Nat) : RVs M (l.drop k) (vs.drop k).toArray := by
  refine RVs.of_lt (by have := h.len; simp at this; simp [this]) fun i h1 h2 => ?_
  have := h.rel (k + i)
  simp at h1 h2
  rw [gt_of_lt (by omega), ag_of_lt (by simp; omega)] at this
  simpa using this
theorem RVs.take {M : Mp} {l : List AV} {vs : List Value} (h : RVs M l vs.toArray) (k : Nat) : RVs M (l.take k) (vs.take k).toArray := by
  refine RVs.of_lt (by have := h.len; simp at this; simp [this]) fun i h1 h2 => ?_
  have := h.rel i
  simp at h1 h2
  rw [gt_of_lt (by omega), ag_of_lt (by simp; omega)] at this
  simpa using this

theorem run_eq {P : Program} {M : Mp} {w : World} : ∀ {k : Nat} {t : TypeId} {sg : List Bool}, sigOf P k t = some sg → ∀ (d : Nat), k ≤ d → ∀ (l l' : List AV) (vs vs' : List Value) (v v' : Value) (r : Bool),
    RVs M l vs.toArray → RVs M l' vs'.toArray → cellsEq sg l l' = some r → IsVal P t vs v → IsVal P t vs' v' → (Op.equalIn d t v v').run P w = .ok r w
  | 0, _, _, h => by simp [sigOf] at h
  | k + 1, t, sg, h => by
    intro d hkd l l' vs vs' v v' r hl hl' hr hv hv'
    obtain ⟨d, rfl⟩ : ∃ e, d = e + 1 := ⟨d - 1, by omega⟩
    have hkd' : k ≤ d := by omega
    obtain ⟨D, i, h1, h2, h3, h4⟩ := sig_row h
    obtain ⟨D1, e1, hv⟩ := hv
    obtain ⟨D2, e2, hv'⟩ := hv'
    rw [h1] at e1 e2
    cases e1
    cases e2
    cases hrow : D.isRow with
    | false =>
      simp [hrow] at hv hv'
      subst hv; subst hv'
      rcases h4 hrow with ⟨rfl, rfl⟩ | ⟨⟨k', rfl⟩, rfl⟩
      · have hlen := cellsEq_len hr
        obtain ⟨x, rfl⟩ := List.length_eq_one_iff.1 hlen.1
        obtain ⟨y, rfl⟩ := List.length_eq_one_iff.1 hlen.2
        have hx := hl.rel 0
        have hy := hl'.rel 0
        simp [gt, ag] at hx hy
        simp only [cellsEq] at hr
        unfold cellEq at hr
        cases x <;> cases y <;> simp at hr
        cases hx; cases hy
        subst hr
        exact run_equalIn_bool w d t _ _ h1
      · have hlen := cellsEq_len hr
        obtain ⟨x, rfl⟩ := List.length_eq_one_iff.1 hlen.1
        obtain ⟨y, rfl⟩ := List.length_eq_one_iff.1 hlen.2
        have hx := hl.rel 0
        have hy := hl'.rel 0
        simp [gt, ag] at hx hy
        simp only [cellsEq] at hr
        unfold cellEq at hr
        cases x <;> cases y <;> simp at hr
        split at hr
        · rename_i k2 b ek
          simp at hr
          split at ek
          · rename_i e5
            subst e5
            cases ek
            cases hx; cases hy
            subst hr
            exact run_equalIn_int w d t _ _ _ _ h1
          · cases ek
        · cases hr
    | true =>
      simp [hrow] at hv hv'
      subst hv; subst hv'
      have hlen := cellsEq_len hr
      unfold sigOf at h
      rw [h1, h2] at h
      cases D <;> simp at hrow h
      · rename_i n e
        cases hse : sigOf P k e with
        | none => simp [hse] at h
        | some se =>
          cases se with
          | nil => simp [hse] at h
          | cons x0 se0 =>
          simp [hse] at h
          obtain ⟨hsz, rfl⟩ := h
          obtain ⟨se, hpos, esa⟩ : ∃ se : List Bool, 0 < se.length ∧ se = x0 :: se0 := ⟨_, by simp, rfl⟩
          rw [← esa] at hse hr
          obtain ⟨De, ie, g1, g2, g3, _⟩ := sig_row hse
          rw [run_equalIn_array w d vs.toArray vs'.toArray h1 g2]
          have hcells : P.cellsOf e = se.length := by simp [Program.cellsOf, g2, g3]
          rw [hcells]
          have hvl : vs.length = l.length := by have := hl.len; simp at this; omega
          have hvl' : vs'.length = l'.length := by have := hl'.len; simp at this; omega
          have key : ∀ m j q, cellsEq (reps se m) (l.drop (j * se.length)) (l'.drop (j * se.length)) = some q → (Op.eqItems d e se.length vs.toArray vs'.toArray (List.range' j m)).run P w = .ok q w := by
            intro m
            induction m with
            | zero =>
              intro j q hq
              have : q = true := by
                simp only [reps] at hq
                have := cellsEq_len hq
                simp at this
                cases hd : l.drop (j * se.length) <;> cases hd' : l'.drop (j * se.length) <;> simp [hd, hd', cellsEq] at hq
                exact hq
              subst this
              simp [Op.eqItems]
            | succ m ih =>
              intro j q hq
              simp only [reps] at hq
              obtain ⟨q1, q2, a1, a2, rfl⟩ := cellsEq_split hq
              have b1 := cellsEq_len a1
              simp at b1
              generalize hJ : j * se.length = J at *
              obtain ⟨u, p1, p2⟩ := run_part (w := w) hse (vs := vs) (off := J) (by omega)
              obtain ⟨u', p1', p2'⟩ := run_part (w := w) hse (vs := vs') (off := J) (by omega)
              have := run_eq (w := w) hse d hkd' _ _ _ _ _ _ _ ((hl.drop _).take _) ((hl'.drop _).take _) a1 p2 p2'
              rw [List.drop_drop, List.drop_drop] at a2
              have e3 : J + se.length = (j + 1) * se.length := by rw [Nat.add_mul, Nat.one_mul, hJ]
              rw [e3] at a2
              have ih' := ih (j + 1) q2 a2
              simp only [List.range'_succ, Op.eqItems, Sem.run_bind, hJ, p1, p1', this, Result.andThen_ok]
              cases q1
              · simp
              · simpa using ih'
          have := key n 0 r (by simpa using hr)
          rwa [← List.range_eq_range'] at this
      · rename_i fs
        obtain ⟨hst, h⟩ := h
        cases hsf : sigFs (sigOf P k) fs.toList 0 with
        | none => simp [hsf] at h
        | some sg' =>
          simp [hsf] at h
          obtain ⟨hsz, rfl⟩ := h
          have hfo : P.fieldsOf t = fs := by simp [Program.fieldsOf, h1]
          rw [run_equalIn_struct w d t vs.toArray vs'.toArray (by rw [hfo]; exact h1) hst, hfo]
          have hvl : vs.length = l.length := by have := hl.len; simp at this; omega
          have hvl' : vs'.length = l'.length := by have := hl'.len; simp at this; omega
          have key : ∀ (F : List Field) o sgs q, sigFs (sigOf P k) F o = some sgs → cellsEq sgs (l.drop o) (l'.drop o) = some q → (Op.eqFields d vs.toArray vs'.toArray F).run P w = .ok q w := by
            intro F
            induction F with
            | nil =>
              intro o sgs q hs hq
              simp [sigFs] at hs
              subst hs
              have : q = true := by
                cases hd : l.drop o <;> cases hd' : l'.drop o <;> simp [hd, hd', cellsEq] at hq
                exact hq
              subst this
              simp [Op.eqFields]
            | cons f F ih =>
              intro o sgs q hs hq
              unfold sigFs at hs
              split at hs
              · rename_i hn
                split at hs
                · rename_i x0 sa0 hsa
                  obtain ⟨sa, hpos, esa⟩ : ∃ sa : List Bool, 0 < sa.length ∧ sa = x0 :: sa0 := ⟨_, by simp, rfl⟩
                  rw [← esa] at hsa hs
                  split at hs
                  · rename_i sb hsb
                    cases hs
                    obtain ⟨q1, q2, a1, a2, rfl⟩ := cellsEq_split hq
                    have b1 := cellsEq_len a1
                    simp at b1
                    obtain ⟨hn1, hn2⟩ := hn
                    have hz : 0 < sa.length := hpos
                    obtain ⟨u, p1, p2⟩ := run_part (w := w) hsa (vs := vs) (off := o) (by omega)
                    obtain ⟨u', p1', p2'⟩ := run_part (w := w) hsa (vs := vs') (off := o) (by omega)
                    have := run_eq (w := w) hsa d hkd' _ _ _ _ _ _ _ ((hl.drop _).take _) ((hl'.drop _).take _) a1 p2 p2'
                    rw [List.drop_drop, List.drop_drop] at a2
                    have ih' := ih (o + sa.length) sb q2 hsb a2
                    simp only [Op.eqFields, Sem.run_ite, if_pos hn1, Sem.run_bind, hn2, p1, p1', this, Result.andThen_ok]
                    cases q1
                    · simp
                    · simpa using ih'
                  · cases hs
                · cases hs
              · cases hs
          exact key fs.toList 0 sg' r hsf (by simpa using hr)

end Go.Zz
