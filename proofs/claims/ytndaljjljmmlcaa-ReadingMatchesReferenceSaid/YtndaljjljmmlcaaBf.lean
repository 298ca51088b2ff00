import Derived.Test.YtndaljjljmmlcaaAbsH

/-
  Lowering distances by steps, again and again: what holds at any time; a step that still lowers late shows a closed chain with a negative sum.
  Plain Lean: no program in sight.
-/
set_option linter.unusedSimpArgs false
set_option linter.unusedVariables false
namespace Go.Zz.Bf

structure Edge where
  s : Int
  a : Nat
  b : Nat
  w : Int
  deriving Inhabited

structure S where
  known : Nat → Bool
  far : Nat → Int
  by_ : Nat → Int

def upd {α : Type} (f : Nat → α) (i : Nat) (v : α) : Nat → α := fun j => if j = i then v else f j
def fires (x : S) (e : Edge) : Bool := x.known e.a && (!x.known e.b || decide (x.far e.a + e.w < x.far e.b))

def lowered (x : S) (e : Edge) : S := ⟨upd x.known e.b true, upd x.far e.b (x.far e.a + e.w), upd x.by_ e.b e.s⟩

def relax (x : S) (e : Edge) : S := if fires x e then lowered x e else x

/-- After t steps. -/
def run (E : Nat → Edge) (x : S) : Nat → S
  | 0 => x
  | t + 1 => relax (run E x t) (E t)

/-- When an item was last lowered (1 is the first step; 0: never). -/
def tm (E : Nat → Edge) (x : S) : Nat → Nat → Nat
  | 0, _ => 0
  | t + 1, v => if fires (run E x t) (E t) = true ∧ v = (E t).b then t + 1 else tm E x t v

section
variable {E : Nat → Edge} {x : S}

theorem run_no {t : Nat} (h : fires (run E x t) (E t) = false) : run E x (t + 1) = run E x t := by simp [run, relax, h]
theorem run_yes {t : Nat} (h : fires (run E x t) (E t) = true) : run E x (t + 1) = lowered (run E x t) (E t) := by simp [run, relax, h]
theorem tm_no {t : Nat} (h : fires (run E x t) (E t) = false) (v : Nat) : tm E x (t + 1) v = tm E x t v := by simp [tm, h]
theorem tm_yes {t : Nat} (h : fires (run E x t) (E t) = true) : tm E x (t + 1) (E t).b = t + 1 := by simp [tm, h]
theorem tm_ne {t v : Nat} (h : v ≠ (E t).b) : tm E x (t + 1) v = tm E x t v := if_neg fun h' => h h'.2

theorem tm_le (t v : Nat) : tm E x t v ≤ t := by
  induction t with
  | zero => simp [tm]
  | succ t ih => unfold tm; split <;> omega

theorem tm_step (t v : Nat) : tm E x (t + 1) v = tm E x t v ∨ tm E x (t + 1) v = t + 1 := by
  by_cases h : fires (run E x t) (E t) = true ∧ v = (E t).b
  · exact .inr (if_pos h)
  · exact .inl (if_neg h)

theorem tm_mono1 (t v : Nat) : tm E x t v ≤ tm E x (t + 1) v := by
  have := tm_le (E := E) (x := x) t v
  rcases tm_step (E := E) (x := x) t v with h | h <;> omega
theorem tm_mono {t t' : Nat} (h : t ≤ t') (v : Nat) : tm E x t v ≤ tm E x t' v := by
  induction h with
  | refl => exact Nat.le_refl _
  | step _ ih => exact Nat.le_trans ih (tm_mono1 _ v)

/-- Three things of an item, one step on. -/
theorem one_step (t v : Nat) : tm E x (t + 1) v = tm E x t v ∧ (run E x (t + 1)).known v = (run E x t).known v ∧ (run E x (t + 1)).far v = (run E x t).far v ∧ (run E x (t + 1)).by_ v = (run E x t).by_ v ∨
    fires (run E x t) (E t) = true ∧ v = (E t).b ∧ tm E x (t + 1) v = t + 1 ∧ (run E x (t + 1)).known v = true ∧ (run E x (t + 1)).far v = (run E x t).far (E t).a + (E t).w ∧ (run E x (t + 1)).by_ v = (E t).s := by
  cases hf : fires (run E x t) (E t) with
  | false => left; rw [run_no hf, tm_no hf]; exact ⟨rfl, rfl, rfl, rfl⟩
  | true =>
    by_cases hv : v = (E t).b
    · right; subst hv; rw [run_yes hf, tm_yes hf]; simp [lowered, upd]
    · left; rw [run_yes hf, tm_ne hv]; simp [lowered, upd, hv]

theorem same {t t' v : Nat} (h : t ≤ t') (hv : tm E x t' v ≤ t) : tm E x t' v = tm E x t v ∧ (run E x t').known v = (run E x t).known v ∧ (run E x t').far v = (run E x t).far v ∧ (run E x t').by_ v = (run E x t).by_ v := by
  induction h with
  | refl => exact ⟨rfl, rfl, rfl, rfl⟩
  | @step m hm ih =>
    have hm' : t ≤ m := hm
    rcases one_step (E := E) (x := x) m v with h | h
    · rw [h.1] at hv
      obtain ⟨a, b, c, d⟩ := ih hv
      exact ⟨h.1.trans a, h.2.1.trans b, h.2.2.1.trans c, h.2.2.2.trans d⟩
    · exfalso
      have := h.2.2.1
      change tm E x (m + 1) v ≤ t at hv
      omega

theorem known1 {t v : Nat} (h : (run E x t).known v = true) : (run E x (t + 1)).known v = true := by
  rcases one_step (E := E) (x := x) t v with h1 | h1
  · rw [h1.2.1]; exact h
  · exact h1.2.2.2.1
theorem known_mono {t t' v : Nat} (ht : t ≤ t') (h : (run E x t).known v = true) : (run E x t').known v = true := by
  induction ht with
  | refl => exact h
  | step _ ih => exact known1 ih

theorem fires_known {y : S} {e : Edge} (h : fires y e = true) : y.known e.a = true := by
  simp only [fires, Bool.and_eq_true] at h; exact h.1
theorem fires_far {y : S} {e : Edge} (h : fires y e = true) (hb : y.known e.b = true) : y.far e.a + e.w < y.far e.b := by
  simp only [fires, Bool.and_eq_true, Bool.or_eq_true, Bool.not_eq_true', decide_eq_true_eq, hb] at h
  rcases h.2 with h | h
  · cases h
  · exact h

theorem far1 {t v : Nat} (h : (run E x t).known v = true) : (run E x (t + 1)).far v ≤ (run E x t).far v := by
  rcases one_step (E := E) (x := x) t v with h1 | h1
  · rw [h1.2.2.1]; exact Int.le_refl _
  · obtain ⟨hf, rfl, _, _, h5, _⟩ := h1
    rw [h5]
    have := fires_far hf h
    omega
theorem far_mono {t t' v : Nat} (ht : t ≤ t') (h : (run E x t).known v = true) : (run E x t').far v ≤ (run E x t).far v := by
  induction ht with
  | refl => exact Int.le_refl _
  | step hm ih => exact Int.le_trans (far1 (known_mono hm h)) ih

/-- What an item that was lowered shows. -/
theorem shown {t v k : Nat} (h : tm E x t v = k + 1) : k < t ∧ fires (run E x k) (E k) = true ∧ (E k).b = v ∧ (run E x t).known v = true ∧ (run E x t).far v = (run E x k).far (E k).a + (E k).w ∧ (run E x t).by_ v = (E k).s := by
  induction t with
  | zero => simp [tm] at h
  | succ t ih =>
    rcases one_step (E := E) (x := x) t v with h1 | h1
    · obtain ⟨a, b, c, d⟩ := h1
      rw [a] at h
      obtain ⟨i1, i2, i3, i4, i5, i6⟩ := ih h
      exact ⟨by omega, i2, i3, by rw [b]; exact i4, by rw [c]; exact i5, by rw [d]; exact i6⟩
    · obtain ⟨hf, hv, a, b, c, d⟩ := h1
      rw [a] at h
      have e : t = k := by omega
      subst e
      exact ⟨by omega, hf, hv.symm, b, c, d⟩

/-- The step by which an item was last lowered. -/
def pe (E : Nat → Edge) (x : S) (t v : Nat) : Edge := E (tm E x t v - 1)
def par (E : Nat → Edge) (x : S) (t v : Nat) : Nat := (pe E x t v).a

variable (hne : ∀ t, (E t).a ≠ (E t).b)
include hne

/-- What was lowered lies no lower than what lowered it says; above it, if that was lowered later. -/
theorem slack {t v : Nat} (h : 0 < tm E x t v) : (pe E x t v).b = v ∧ (run E x t).by_ v = (pe E x t v).s ∧ par E x t v ≠ v ∧ (run E x t).known (par E x t v) = true ∧
    (run E x t).far (par E x t v) + (pe E x t v).w ≤ (run E x t).far v ∧ (tm E x t v < tm E x t (par E x t v) → (run E x t).far (par E x t v) + (pe E x t v).w < (run E x t).far v) := by
  obtain ⟨k, hk⟩ : ∃ k, tm E x t v = k + 1 := ⟨tm E x t v - 1, by omega⟩
  obtain ⟨h1, h2, h3, h4, h5, h6⟩ := shown hk
  have e : pe E x t v = E k := by unfold pe; rw [hk]; rfl
  unfold par
  rw [e, hk]
  have ka := fires_known h2
  refine ⟨h3, h6, by rw [← h3]; exact hne k, known_mono (by omega) ka, ?_, fun hlt => ?_⟩
  · have := far_mono (E := E) (x := x) (t := k) (t' := t) (by omega) ka
    omega
  · obtain ⟨j, hj⟩ : ∃ j, tm E x t (E k).a = j + 1 := ⟨tm E x t (E k).a - 1, by omega⟩
    obtain ⟨g1, g2, g3, g4, g5, g6⟩ := shown hj
    have kj := known_mono (E := E) (x := x) (t := k) (t' := j) (v := (E k).a) (by omega) ka
    have fj := far_mono (E := E) (x := x) (t := k) (t' := j) (v := (E k).a) (by omega) ka
    have := fires_far g2 (by rw [g3]; exact kj)
    rw [g3] at this
    omega

omit hne
variable {L : Nat} (hper : ∀ t, E (t + L) = E t)
include hper

/-- What lowered late was itself lowered one round earlier at the earliest. -/
theorem fresh (hL : 0 < L) {t v : Nat} (h : L < tm E x t v) : tm E x t v ≤ tm E x t (par E x t v) + L := by
  obtain ⟨k, hk⟩ : ∃ k, tm E x t v = k + 1 := ⟨tm E x t v - 1, by omega⟩
  obtain ⟨h1, h2, h3, h4, h5, h6⟩ := shown hk
  have e : par E x t v = (E k).a := by unfold par pe; rw [hk]; rfl
  rw [e, hk]
  refine Nat.le_of_not_lt fun hlt => ?_
  have hkL : L ≤ k := by omega
  obtain ⟨j, rfl⟩ : ∃ j, k = j + L := ⟨k - L, by omega⟩
  have ej : E (j + L) = E j := hper j
  rw [ej] at h2 h3 h5 hlt
  -- since j the beginning was not lowered
  have htm : tm E x (j + L) (E j).a ≤ j := by
    have := tm_mono (E := E) (x := x) (t := j + L) (t' := t) (by omega) (E j).a
    omega
  obtain ⟨s1, s2, s3, s4⟩ := same (E := E) (x := x) (t := j) (by omega) htm
  have ka := fires_known h2
  have kaj : (run E x j).known (E j).a = true := by rw [← s2]; exact ka
  -- one step after j, the end is known, and no farther than the step says
  have hj : (run E x (j + 1)).known (E j).b = true ∧ (run E x (j + 1)).far (E j).b ≤ (run E x j).far (E j).a + (E j).w := by
    cases hf : fires (run E x j) (E j) with
    | true => rw [run_yes hf]; simp [lowered, upd]
    | false =>
      rw [run_no hf]
      simp only [fires, kaj, Bool.true_and, Bool.or_eq_false_iff, Bool.not_eq_false', decide_eq_false_iff_not] at hf
      exact ⟨hf.1, by omega⟩
  have kb := known_mono (E := E) (x := x) (t := j + 1) (t' := j + L) (by omega) hj.1
  have fb := far_mono (E := E) (x := x) (t := j + 1) (t' := j + L) (by omega) hj.1
  have := fires_far h2 kb
  omega
end

end Go.Zz.Bf


/-
  Back over what lowered what: a step that lowers late shows a closed chain with a negative sum.
-/
set_option linter.unusedSimpArgs false
set_option linter.unusedVariables false
namespace Go.Zz.Bf

/-- Steps, L in a round, between n items. -/
structure Ok (E : Nat → Edge) (L n : Nat) : Prop where
  ne : ∀ t, (E t).a ≠ (E t).b
  per : ∀ t, E (t + L) = E t
  pos : 0 < L
  alt : ∀ t, (E t).a < n
  blt : ∀ t, (E t).b < n

def back (E : Nat → Edge) (x : S) (t v : Nat) : Nat → Nat
  | 0 => v
  | i + 1 => par E x t (back E x t v i)

def sumW (E : Nat → Edge) (x : S) (t v c : Nat) : Nat → Int
  | 0 => 0
  | q + 1 => sumW E x t v c q + (pe E x t (back E x t v (c + q))).w

theorem pigeon : ∀ (n : Nat) (f : Nat → Nat), (∀ i, i ≤ n → f i < n) → ∃ i j, i < j ∧ j ≤ n ∧ f i = f j
  | 0, f, h => absurd (h 0 (Nat.le_refl 0)) (by omega)
  | n + 1, f, h => by
    by_cases hx : ∃ i, i ≤ n ∧ f i = f (n + 1)
    · obtain ⟨i, h1, h2⟩ := hx
      exact ⟨i, n + 1, by omega, by omega, h2⟩
    · have hx' : ∀ i, i ≤ n → f i ≠ f (n + 1) := fun i hi e => hx ⟨i, hi, e⟩
      obtain ⟨i, j, h1, h2, h3⟩ := pigeon n (fun i => if f (n + 1) < f i then f i - 1 else f i) fun i hi => by
        have a := h i (by omega)
        have b := h (n + 1) (by omega)
        have c := hx' i hi
        split <;> omega
      refine ⟨i, j, h1, by omega, ?_⟩
      have a := hx' i (by omega)
      have b := hx' j h2
      split at h3 <;> split at h3 <;> omega

section
variable {E : Nat → Edge} {x : S} {L n t v : Nat}

theorem back_late (ho : Ok E L n) (h : n * L < tm E x t v) : ∀ i, i ≤ n → (n - i) * L < tm E x t (back E x t v i)
  | 0, _ => by simpa [back] using h
  | i + 1, hi => by
    have ih := back_late ho h i (by omega)
    have e : n - i = (n - (i + 1)) + 1 := by omega
    rw [e, Nat.succ_mul] at ih
    have := fresh (E := E) (x := x) ho.per ho.pos (t := t) (v := back E x t v i) (by omega)
    show _ < tm E x t (par E x t (back E x t v i))
    omega

theorem back_shift {i j : Nat} (h : back E x t v i = back E x t v j) : ∀ m, back E x t v (i + m) = back E x t v (j + m)
  | 0 => h
  | m + 1 => by
    show par E x t (back E x t v (i + m)) = par E x t (back E x t v (j + m))
    rw [back_shift h m]

/-- What late lowering shows. -/
structure Late (E : Nat → Edge) (x : S) (n t v : Nat) : Prop where
  pos : ∀ m, 0 < tm E x t (back E x t v m)
  cyc : ∃ q, 0 < q ∧ q ≤ n ∧ back E x t v (n + q) = back E x t v n

theorem late (ho : Ok E L n) (h : n * L < tm E x t v) : Late E x n t v := by
  have hl := back_late ho h
  have hp : ∀ i, i ≤ n → 0 < tm E x t (back E x t v i) := fun i hi => Nat.lt_of_le_of_lt (Nat.zero_le _) (hl i hi)
  obtain ⟨i, j, h1, h2, h3⟩ := pigeon n (back E x t v) fun i hi => by
    have := (slack (E := E) (x := x) ho.ne (hp i hi)).1
    rw [← this]
    exact ho.blt _
  have hs := back_shift h3
  constructor
  · intro m
    induction m using Nat.strongRecOn with
    | ind m ih =>
      by_cases hm : m ≤ n
      · exact hp m hm
      · have := hs (m - j)
        rw [show j + (m - j) = m by omega] at this
        rw [← this]
        exact ih _ (by omega)
  · refine ⟨j - i, by omega, by omega, ?_⟩
    have := hs (n - i)
    rw [show i + (n - i) = n by omega, show j + (n - i) = n + (j - i) by omega] at this
    exact this.symm

theorem descent (ho : Ok E L n) (hl : Late E x n t v) (c : Nat) : ∀ q, (run E x t).far (back E x t v (c + q)) + sumW E x t v c q < (run E x t).far (back E x t v c) ∨
    (run E x t).far (back E x t v (c + q)) + sumW E x t v c q ≤ (run E x t).far (back E x t v c) ∧ tm E x t (back E x t v (c + q)) + q ≤ tm E x t (back E x t v c)
  | 0 => by right; simp [sumW]
  | q + 1 => by
    have ih := descent ho hl c q
    obtain ⟨s1, _, s3, _, s5, s6⟩ := slack (E := E) (x := x) ho.ne (hl.pos (c + q))
    have e : back E x t v (c + (q + 1)) = par E x t (back E x t v (c + q)) := rfl
    rw [e]
    simp only [sumW]
    rcases Nat.lt_trichotomy (tm E x t (back E x t v (c + q))) (tm E x t (par E x t (back E x t v (c + q)))) with h | h | h
    · have := s6 h
      rcases ih with ih | ih <;> (left; omega)
    · exfalso
      have s1' := (slack (E := E) (x := x) ho.ne (hl.pos (c + q + 1))).1
      have e2 : pe E x t (back E x t v (c + q + 1)) = pe E x t (back E x t v (c + q)) := by
        show E (tm E x t (par E x t (back E x t v (c + q))) - 1) = E (tm E x t (back E x t v (c + q)) - 1)
        rw [h]
      rw [e2, s1] at s1'
      exact s3 s1'.symm
    · rcases ih with ih | ih
      · left; omega
      · right
        exact ⟨by omega, by omega⟩

/-- **A NEGATIVE CLOSED CHAIN.** -/
theorem negative (ho : Ok E L n) (hl : Late E x n t v) {c q : Nat} (hq : 0 < q) (h : back E x t v (c + q) = back E x t v c) : sumW E x t v c q < 0 := by
  rcases descent ho hl c q with h1 | h1
  · rw [h] at h1; omega
  · rw [h] at h1; omega

/-- Sizes that agree. -/
def Pot (E : Nat → Edge) (p : Nat → Int) : Prop := ∀ t, p (E t).b ≤ p (E t).a + (E t).w

theorem pot_back (ho : Ok E L n) (hl : Late E x n t v) {p : Nat → Int} (hp : Pot E p) (c : Nat) : ∀ q, p (back E x t v c) ≤ p (back E x t v (c + q)) + sumW E x t v c q
  | 0 => by simp [sumW]
  | q + 1 => by
    have ih := pot_back ho hl hp c q
    have s1 := (slack (E := E) (x := x) ho.ne (hl.pos (c + q))).1
    have := hp (tm E x t (back E x t v (c + q)) - 1)
    have e : E (tm E x t (back E x t v (c + q)) - 1) = pe E x t (back E x t v (c + q)) := rfl
    rw [e, s1] at this
    have e2 : back E x t v (c + (q + 1)) = (pe E x t (back E x t v (c + q))).a := rfl
    rw [e2]
    simp only [sumW]
    omega

/-- If sizes agree, nothing is lowered late. -/
theorem no_late (ho : Ok E L n) {p : Nat → Int} (hp : Pot E p) (t v : Nat) : tm E x t v ≤ n * L := by
  refine Nat.le_of_not_lt fun h => ?_
  have hl := late (x := x) ho h
  obtain ⟨q, q1, q2, q3⟩ := hl.cyc
  have a := negative ho hl q1 q3
  have b := pot_back ho hl hp n q
  rw [q3] at b
  omega

/-- Nothing fires in a round: nothing will. -/
theorem still {t0 : Nat} (h : ∀ k, k < L → fires (run E x (t0 + k)) (E (t0 + k)) = false) (hper : ∀ t, E (t + L) = E t) (hL : 0 < L) : (∀ k, k ≤ L → run E x (t0 + k) = run E x t0) ∧ ∀ t, fires (run E x t0) (E t) = false := by
  have h1 : ∀ k, k ≤ L → run E x (t0 + k) = run E x t0 := by
    intro k
    induction k with
    | zero => intro _; rfl
    | succ k ih =>
      intro hk
      have e := run_no (h k (by omega))
      rw [show t0 + (k + 1) = t0 + k + 1 by omega, e]
      exact ih (by omega)
  refine ⟨h1, ?_⟩
  have per : ∀ m t, E (t + m * L) = E t := by
    intro m
    induction m with
    | zero => intro t; simp
    | succ m ih => intro t; rw [Nat.succ_mul, ← Nat.add_assoc, hper, ih]
  intro t
  -- t is like some step of the round
  obtain ⟨k, hk, m, m', e⟩ : ∃ k, k < L ∧ ∃ m m', t + m * L = t0 + k + m' * L := by
    refine ⟨(t + (t0 + 1) * L - t0) % L, Nat.mod_lt _ hL, t0 + 1, (t + (t0 + 1) * L - t0) / L, ?_⟩
    have h2 := Nat.div_add_mod (t + (t0 + 1) * L - t0) L
    rw [Nat.mul_comm] at h2
    have h3 : t0 ≤ (t0 + 1) * L := Nat.le_trans (Nat.le_succ _) (Nat.le_mul_of_pos_right _ hL)
    omega
  have e1 := per m t
  rw [e, per] at e1
  have := h k hk
  rw [h1 k (by omega), e1] at this
  exact this

theorem far_small {M : Int} (hM : 0 ≤ M) (hw : ∀ t, -M ≤ (E t).w ∧ (E t).w ≤ M) (h0 : ∀ v, x.far v = 0) : ∀ (t v : Nat), -(t * M) ≤ (run E x t).far v ∧ (run E x t).far v ≤ t * M
  | 0, v => by simp [run, h0 v]
  | t + 1, v => by
    have e : ((t + 1 : Nat) : Int) * M = t * M + M := by rw [Int.natCast_add, Int.add_mul]; simp
    rw [e]
    have ih := far_small hM hw h0 t
    rcases one_step (E := E) (x := x) t v with h | h
    · rw [h.2.2.1]
      have := ih v
      omega
    · rw [h.2.2.2.2.1]
      have a := ih (E t).a
      have b := hw t
      omega
end

end Go.Zz.Bf

