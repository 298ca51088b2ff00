import Derived.Test.YtndaljjljmmlcaaL16H
set_option linter.unusedSimpArgs false
set_option linter.unusedVariables false
namespace Go.Proofs.Ytndaljjljmmlcaa
open Go.Zz

theorem bb1 : (true == false) = false := rfl
theorem bb2 : (false == true) = false := rfl

/-! ### Readings, more readings, the same readings -/

/-- A step from a to b with w. -/
def Edg (rs : List Rg) (a b : Nat) (w : Int) : Prop := ∃ s, Num rs s ∧ (eOf rs s).a = a ∧ (eOf rs s).b = b ∧ (eOf rs s).w = w
theorem edg_iff {rs : List Rg} {a b : Nat} {w : Int} : Edg rs a b w ↔ ∃ k, k < rs.length ∧ ((a = (nth rs k).a.toNat ∧ b = (nth rs k).b.toNat ∧ w = (nth rs k).hi) ∨ (a = (nth rs k).b.toNat ∧ b = (nth rs k).a.toNat ∧ w = 0 - (nth rs k).lo)) := by
  constructor
  · rintro ⟨s, ⟨h0, h1, h2⟩, rfl, rfl, rfl⟩
    by_cases hp : 0 < s
    · obtain ⟨p1, p2, p3⟩ := rdOf_pos (rs := rs) hp
      exact ⟨(s - 1).toNat, by omega, .inl ⟨by simp only [eOf, p1], by simp only [eOf, p2], by simp only [eOf, p3]⟩⟩
    · obtain ⟨p1, p2, p3⟩ := rdOf_neg (rs := rs) (s := s) (by omega)
      exact ⟨(0 - s - 1).toNat, by omega, .inr ⟨by simp only [eOf, p1], by simp only [eOf, p2], by simp only [eOf, p3]⟩⟩
  · rintro ⟨k, hk, ⟨rfl, rfl, rfl⟩ | ⟨rfl, rfl, rfl⟩⟩
    · exact ⟨_, num_pos hk, by rw [eOf_pos], by rw [eOf_pos], by rw [eOf_pos]⟩
    · exact ⟨_, num_neg hk, by rw [eOf_neg], by rw [eOf_neg], by rw [eOf_neg]⟩
theorem edg_mem {rs : List Rg} {a b : Nat} {w : Int} : Edg rs a b w ↔ ∃ r ∈ rs, (a = r.a.toNat ∧ b = r.b.toNat ∧ w = r.hi) ∨ (a = r.b.toNat ∧ b = r.a.toNat ∧ w = 0 - r.lo) := by
  rw [edg_iff]
  constructor
  · rintro ⟨k, hk, h⟩
    exact ⟨nth rs k, by rw [nth_lt hk]; exact List.getElem_mem hk, h⟩
  · rintro ⟨r, hr, h⟩
    obtain ⟨k, hk, rfl⟩ := List.getElem_of_mem hr
    exact ⟨k, hk, by rw [nth_lt hk]; exact h⟩
def Sub (rs rs' : List Rg) : Prop := ∀ a b w, Edg rs a b w → Edg rs' a b w
theorem Sub.num {rs rs' : List Rg} (h : Sub rs rs') {s : Int} (hs : Num rs s) : ∃ s', Num rs' s' ∧ (eOf rs' s').a = (eOf rs s).a ∧ (eOf rs' s').b = (eOf rs s).b ∧ (eOf rs' s').w = (eOf rs s).w := h _ _ _ ⟨s, hs, rfl, rfl, rfl⟩
theorem Sub.pot {rs rs' : List Rg} (h : Sub rs rs') {p : Nat → Int} (hp : Pot rs' p) : Pot rs p := fun s hs => by
  obtain ⟨s', h1, h2, h3, h4⟩ := h.num hs
  have := hp s' h1
  rwa [h2, h3, h4] at this
/-- With more readings, what is known stays known, and gets no greater. -/
theorem Sub.sol {rs rs' : List Rg} (h : Sub rs rs') {i v : Nat} {K K' : Nat → Bool} {d d' : Nat → Int} (hs : Sol rs i K d) (hs' : Sol rs' i K' d') (hk : K v = true) : K' v = true ∧ d' v ≤ d v := by
  have := hs.best (fun u => K' u = true) d' hs'.self (fun s hn ha => by
    obtain ⟨s', h1, h2, h3, h4⟩ := h.num hn
    have := hs'.closed s' h1 (by rw [h2]; exact ha)
    rwa [h2, h3, h4] at this) v hk
  have hz := hs'.zero
  exact ⟨this.1, by omega⟩
theorem Sol.sub {rs rs' : List Rg} (h : Sub rs' rs) {i : Nat} {K : Nat → Bool} {d : Nat → Int} (hs : Sol rs i K d) (hc : ∀ s, Num rs s → True) (hb : ∀ (C : Nat → Prop) (p : Nat → Int), C i → (∀ s, Num rs' s → C (eOf rs' s).a → C (eOf rs' s).b ∧ p (eOf rs' s).b ≤ p (eOf rs' s).a + (eOf rs' s).w) → ∀ v, K v = true → C v ∧ p v - p i ≤ d v) : Sol rs' i K d :=
  ⟨hs.self, hs.zero, fun s hn ha => by
    obtain ⟨s', h1, h2, h3, h4⟩ := h.num hn
    have := hs.closed s' h1 (by rw [h2]; exact ha)
    rwa [h2, h3, h4] at this, hb⟩
theorem Sol.same {rs rs' : List Rg} (h1 : Sub rs rs') (h2 : Sub rs' rs) {i : Nat} {K : Nat → Bool} {d : Nat → Int} (hs : Sol rs i K d) : Sol rs' i K d :=
  hs.sub h2 (fun _ _ => trivial) fun C p hC hp v hv => hs.best C p hC (fun s hn ha => by
    obtain ⟨s', a1, a2, a3, a4⟩ := h1.num hn
    have := hp s' a1 (by rw [a2]; exact ha)
    rwa [a2, a3, a4] at this) v hv

/-- Two lists of readings with the same solutions. -/
structure Alike (rs rs' : List Rg) : Prop where
  sol : ∀ i K d, Sol rs i K d → Sol rs' i K d
  pot : ∀ p, Pot rs p → Pot rs' p
theorem Alike.firstly {rs rs' : List Rg} (h : Alike rs rs') {n : Nat} (hsol : ∀ i, i < n → ∃ X : Bf.S, Sol rs i X.known X.far) {v f : Nat} {y : Int} (hf : Firstly rs v f y) (hfn : f ≤ n) : Firstly rs' v f y := by
  obtain ⟨K, d, h1, h2, h3, h4⟩ := hf
  refine ⟨K, d, h.sol _ _ _ h1, h2, h3, fun u K' d' hu hK => ?_⟩
  obtain ⟨X, hX⟩ := hsol u (by omega)
  rw [(hK.eq (h.sol _ _ _ hX) v).1]
  exact h4 u _ _ hu hX
theorem Firstly.lt {n : Int} {rs : List Rg} (hv : VL n rs) {v f : Nat} {y : Int} (h : Firstly rs v f y) (hsol : ∃ X : Bf.S, Sol rs v X.known X.far) : f ≤ v := by
  obtain ⟨K, d, h1, h2, h3, h4⟩ := h
  obtain ⟨X, hX⟩ := hsol
  refine Nat.le_of_not_lt fun hlt => ?_
  have := h4 v _ _ hlt hX
  rw [hX.self] at this
  cases this
theorem Alike.sized {rs rs' : List Rg} (h : Alike rs rs') {n : Int} (hv : VL n rs) (hsol : ∀ i : Nat, (i : Int) < n → ∃ X : Bf.S, Sol rs i X.known X.far) {ys : List Int} (hs : Sized rs n.toNat ys) : Sized rs' n.toNat ys := by
  refine ⟨hs.1, fun v hvn => ?_⟩
  obtain ⟨f, hf⟩ := hs.2 v hvn
  have hle := hf.lt hv (hsol v (by omega))
  exact ⟨f, h.firstly (n := n.toNat) (fun i hi => hsol i (by omega)) hf (by omega)⟩

/-! ### What Solve and Bound answer -/

theorem solve_ok {n : Int} {rs : List Rg} (hv : VL n rs) {p : Nat → Int} (hp : Pot rs p) {v : AV} (h : SolveOut n rs v) : ∃ ys, Sized rs n.toNat ys ∧ v = .tuple [.sval true ys.length (ys.map (.int .i64)), .snil, .int .i64 0] := by
  rcases h with ⟨h, _⟩ | ⟨_, ch, hc, _⟩ | ⟨_, _, ys, hs, rfl⟩
  · exact absurd hv h
  · exact (hc.no hv hp).elim
  · exact ⟨ys, hs, rfl⟩
theorem solve_lie {n : Int} {rs : List Rg} (hv : VL n rs) (hp : ∀ p, ¬ Pot rs p) {v : AV} (h : SolveOut n rs v) : ∃ x : AV, v = .tuple [.snil, x, .int .i64 23] := by
  rcases h with ⟨h, _⟩ | ⟨_, ch, hc, rfl⟩ | ⟨_, ⟨p, hp'⟩, ys, hs, rfl⟩
  · exact absurd hv h
  · exact ⟨_, rfl⟩
  · exact absurd hp' (hp p)

def okB (lo hi : Int) : Prop := -100000000000000 ≤ lo ∧ lo ≤ hi ∧ hi ≤ 100000000000000
instance (lo hi : Int) : Decidable (okB lo hi) := by unfold okB; infer_instance
def bval (k : Bool) (lo hi : Int) : AV := if k = true then if okB lo hi then bv lo hi 0 else bv 0 0 3 else bv 0 0 4
theorem bound_val {n : Int} {rs : List Rg} (hv : VL n rs) {p : Nat → Int} (hp : Pot rs p) {a b : Nat} (ha : (a : Int) < n) (hb : (b : Int) < n) {K K' : Nat → Bool} {d d' : Nat → Int} (h1 : Sol rs a K d) (h2 : Sol rs b K' d') {v : AV} (h : BoundOut n rs a b v) : v = bval (K b) (0 - d' a) (d b) := by
  rcases h with ⟨h, _⟩ | ⟨_, h⟩
  · exact absurd ⟨hv, by omega, ha, by omega, hb⟩ h
  · rcases h with ⟨⟨ch, hc⟩, _⟩ | ⟨_, X, Y, hX, hY, h⟩
    · exact (hc.no hv hp).elim
    · simp only [toNat_cast] at hX hY h
      have e1 := hX.eq h1 b
      have e2 := hY.eq h2 a
      rw [e1.1] at h
      unfold bval
      rcases h with ⟨h, rfl⟩ | ⟨hk, h, rfl⟩ | ⟨hk, h, rfl⟩
      · rw [if_neg h]
      · have e3 := e1.2 (by rw [e1.1]; exact hk)
        have hka : Y.known a = true := by rw [e2.1]; exact h1.symm hk h2
        have e4 := e2.2 hka
        rw [e3, e4] at h
        rw [if_pos hk, if_neg (show ¬ okB _ _ from h)]
      · have e3 := e1.2 (by rw [e1.1]; exact hk)
        have hka : Y.known a = true := by rw [e2.1]; exact h1.symm hk h2
        have e4 := e2.2 hka
        rw [e3, e4] at h ⊢
        rw [if_pos hk, if_pos (show okB _ _ from h)]
theorem bound_bad {n : Int} {rs : List Rg} {a b : Int} (hb : ¬ (VL n rs ∧ 0 ≤ a ∧ a < n ∧ 0 ≤ b ∧ b < n)) {v : AV} (h : BoundOut n rs a b v) : v = bv 0 0 1 := by
  rcases h with ⟨_, h⟩ | ⟨h, _⟩
  · exact h
  · exact absurd h hb
theorem bound_lie {n : Int} {rs : List Rg} {a b : Int} (hb : VL n rs ∧ 0 ≤ a ∧ a < n ∧ 0 ≤ b ∧ b < n) (hp : ∀ p, ¬ Pot rs p) {v : AV} (h : BoundOut n rs a b v) : v = bv 0 0 23 := by
  rcases h with ⟨h, _⟩ | ⟨_, h⟩
  · exact absurd hb h
  · rcases h with ⟨_, rfl⟩ | ⟨⟨p, h⟩, _⟩
    · rfl
    · exact absurd h (hp p)

/-- One reading more. -/
theorem vl_app {n : Int} {rs : List Rg} {r : Rg} : VL n (rs ++ [r]) ↔ VL n rs ∧ rs.length ≤ 199 ∧ okR n r := by
  unfold VL
  simp only [List.length_append, List.length_cons, List.length_nil, List.mem_append, List.mem_cons, List.not_mem_nil, or_false]
  constructor
  · rintro ⟨h1, h2, h3, h4⟩
    exact ⟨⟨h1, h2, by omega, fun r' hr => h4 r' (.inl hr)⟩, by omega, h4 r (.inr rfl)⟩
  · rintro ⟨⟨h1, h2, h3, h4⟩, h5, h6⟩
    refine ⟨h1, h2, by omega, fun r' hr => ?_⟩
    rcases hr with hr | rfl
    · exact h4 r' hr
    · exact h6
theorem sub_app (rs : List Rg) (r : Rg) : Sub rs (rs ++ [r]) := fun a b w h => by
  rw [edg_mem] at h ⊢
  obtain ⟨r', hr, h⟩ := h
  exact ⟨r', List.mem_append.2 (.inl hr), h⟩
theorem pot_app {rs : List Rg} {r : Rg} {p : Nat → Int} : Pot (rs ++ [r]) p ↔ Pot rs p ∧ r.lo ≤ p r.b.toNat - p r.a.toNat ∧ p r.b.toNat - p r.a.toNat ≤ r.hi := by
  constructor
  · intro h
    refine ⟨(sub_app rs r).pot h, ?_⟩
    obtain ⟨s1, a1, a2, a3, a4⟩ : Edg (rs ++ [r]) r.a.toNat r.b.toNat r.hi := edg_mem.2 ⟨r, by simp, .inl ⟨rfl, rfl, rfl⟩⟩
    obtain ⟨s2, b1, b2, b3, b4⟩ : Edg (rs ++ [r]) r.b.toNat r.a.toNat (0 - r.lo) := edg_mem.2 ⟨r, by simp, .inr ⟨rfl, rfl, rfl⟩⟩
    have h1 := h s1 a1
    have h2 := h s2 b1
    rw [a2, a3, a4] at h1
    rw [b2, b3, b4] at h2
    omega
  · rintro ⟨h1, h2, h3⟩ s hs
    obtain ⟨r', hr, h⟩ := edg_mem.1 (⟨s, hs, rfl, rfl, rfl⟩ : Edg (rs ++ [r]) (eOf (rs ++ [r]) s).a (eOf (rs ++ [r]) s).b (eOf (rs ++ [r]) s).w)
    rcases List.mem_append.1 hr with hr | hr
    · obtain ⟨s', c1, c2, c3, c4⟩ := edg_mem.2 ⟨r', hr, h⟩
      have := h1 s' c1
      rwa [c2, c3, c4] at this
    · simp only [List.mem_cons, List.not_mem_nil, or_false] at hr
      subst hr
      rcases h with ⟨e1, e2, e3⟩ | ⟨e1, e2, e3⟩ <;> (rw [e1, e2, e3]; omega)

/-- Sizes that agree, with the distances from an item. -/
theorem pot_with {rs : List Rg} {a : Nat} {K : Nat → Bool} {d p : Nat → Int} (h : Sol rs a K d) (hp : Pot rs p) : Pot rs (fun v => if K v = true then d v else p v) := by
  intro s hs
  have hc := h.closed s hs
  obtain ⟨e1, e2, e3⟩ := eOf_rev hs
  by_cases hka : K (eOf rs s).a = true
  · obtain ⟨c1, c2⟩ := hc hka
    simp only [if_pos hka, if_pos c1]
    exact c2
  · have hkb : ¬ K (eOf rs s).b = true := fun hb => hka (by
      have := (h.closed _ e1 (by rw [e2]; exact hb)).1
      rwa [e3] at this)
    simp only [if_neg hka, if_neg hkb]
    exact hp s hs

/-- The bound is not given. -/
theorem bound_not {n : Int} {rs : List Rg} {l : AV} (hl : RdL l rs) (hmax : rs.length < 9223372036854775808) {a b : Int} : (∃ e : Int, e ≠ 0 ∧ (∀ l' m, byVal m.heap l' = some l → borrowX E13 19 [.int .i64 n, l', .int .i64 a, .int .i64 b] m = some (bv 0 0 e, m)) ∧ (e = 1 ∨ e = 23 ∨ e = 4 ∨ e = 3)) ∨
    ∃ a' b' : Nat, a = a' ∧ b = b' ∧ VL n rs ∧ (a' : Int) < n ∧ (b' : Int) < n ∧ (∃ p, Pot rs p) ∧ ∃ X Y : Bf.S, Sol rs a' X.known X.far ∧ Sol rs b' Y.known Y.far ∧ X.known b' = true ∧ okB (0 - Y.far a') (X.far b') ∧
      ∀ l' m, byVal m.heap l' = some l → borrowX E13 19 [.int .i64 n, l', .int .i64 a, .int .i64 b] m = some (bv (0 - Y.far a') (X.far b') 0, m) := by
  obtain ⟨v, hout, h⟩ := s19 (n := n) (a := a) (b := b) hl hmax
  rcases hout with ⟨_, rfl⟩ | ⟨⟨hv, a0, a1, b0, b1⟩, hout⟩
  · exact .inl ⟨1, by decide, h, .inl rfl⟩
  · rcases hout with ⟨_, rfl⟩ | ⟨hp, X, Y, hX, hY, hq⟩
    · exact .inl ⟨23, by decide, h, .inr (.inl rfl)⟩
    · rcases hq with ⟨_, rfl⟩ | ⟨_, _, rfl⟩ | ⟨h1, h2, rfl⟩
      · exact .inl ⟨4, by decide, h, .inr (.inr (.inl rfl))⟩
      · exact .inl ⟨3, by decide, h, .inr (.inr (.inr rfl))⟩
      · exact .inr ⟨a.toNat, b.toNat, by omega, by omega, hv, by omega, by omega, hp, X, Y, hX, hY, h1, h2, h⟩
/-- with, and Solve of it. -/
theorem with_some {rs : List Rg} {l : AV} (hl : RdL l rs) (hmax : (rs.length + 1) * 32 ≤ 140737488355328) (r : Rg) : ∃ w, RdL w (rs ++ [r]) ∧ ∀ m, borrowE E16 25 [l, .agg r.cells] m = some (w, m) :=
  ⟨_, rdl_mk (rs ++ [r]) false, fun m => s25 hl hmax r⟩
end Go.Proofs.Ytndaljjljmmlcaa

