import Derived.Test.YtpddngcgajjacaaL29zr
set_option linter.unusedSimpArgs false
set_option linter.unusedVariables false
namespace Go.Proofs.Ytpddngcgajjacaa
open Go.Zz

theorem takeAt_nil (pl : Nat) (st : Bool) : takeAt [] pl st = (none, []) := by simp [takeAt]
theorem takeAt_first (p : Pkt) (r : List Pkt) : takeAt (p :: r) 0 false = (some p, r) := by simp [takeAt]
theorem takeAt_tail (ps : List Pkt) : (takeAt ps 0 false).2 = ps.tail := by
  cases ps with
  | nil => rw [takeAt_nil]; rfl
  | cons p r => rw [takeAt_first]; rfl

theorem step1 (X : RunSt) : stepM X 1 = arriveM X 0 false := rfl
theorem step4 (X : RunSt) : stepM X 4 = answerM X 0 false := rfl

theorem inv_step {bs : List Int} {X : RunSt} (h : Inv bs bs.length X) (hb : bs.length ≤ 1000) (s : Nat) : Onward bs bs.length X (stepM X s) := by
  have := h.step hb s
  rwa [if_neg (by omega)] at this

/-- All packets get to the receiver. -/
theorem arrives {bs : List Int} (hb : bs.length ≤ 1000) : ∀ (k : Nat) (l : List Int) (t : Nat) (X : RunSt), Inv bs bs.length X → X.forth = outs t l → t ≤ X.got.length → l.length ≤ k →
    Inv bs bs.length ((List.replicate k 1).foldl stepM X) ∧ ((List.replicate k 1).foldl stepM X).forth = [] ∧ ((List.replicate k 1).foldl stepM X).seq = X.seq ∧ ((List.replicate k 1).foldl stepM X).back.length ≤ X.back.length + l.length ∧
      (∀ p ∈ X.back, p ∈ ((List.replicate k 1).foldl stepM X).back) ∧ (l ≠ [] → ∃ p ∈ ((List.replicate k 1).foldl stepM X).back, (t : Int) + l.length ≤ p.2.1)
  | 0, l, t, X, h, hf, ht, hk => by
    have : l = [] := List.eq_nil_of_length_eq_zero (by omega)
    subst this
    exact ⟨h, hf, rfl, by simp, fun p hp => hp, fun h => absurd rfl h⟩
  | k + 1, l, t, X, h, hf, ht, hk => by
    have ho := inv_step h hb 1
    rw [step1] at ho
    rw [List.replicate_succ, List.foldl_cons, step1]
    cases l with
    | nil =>
      have e : arriveM X 0 false = X := by
        unfold arriveM
        rw [hf]
        simp only [outs, takeAt_nil]
        cases X
        simp only at hf
        subst hf
        rfl
      rw [e]
      exact arrives hb k [] t X h hf ht (by simp)
    | cons b r =>
      have e : arriveM X 0 false = { X with forth := outs ((t + 1 : Nat) : Int) r, got := (takeM X.got (false, (t : Int), b)).1, back := X.back ++ [(takeM X.got (false, (t : Int), b)).2] } := by
        unfold arriveM
        rw [hf]
        simp only [outs, takeAt_first]
        rfl
      have hfor := h.forth (false, (t : Int), b) (by rw [hf]; simp [outs])
      simp only at hfor
      have hg := h.gotn
      have hT : Takes X.got false (t : Int) := ⟨by omega, rfl, hfor.2.1, by omega⟩
      have htm : takeM X.got (false, (t : Int), b) = (takes X.got t b, (true, ((takes X.got t b).length : Int), 0)) := if_pos hT
      have hlen : t + 1 ≤ (takes X.got t b).length := by
        unfold takes
        by_cases c : (t : Int) = X.got.length
        · rw [if_pos c]; simp; omega
        · rw [if_neg c]; omega
      rw [htm] at e
      have hi := ho.inv
      rw [e] at hi ⊢
      have ih := arrives hb k r (t + 1) _ hi rfl (by simp only; exact hlen) (by simp at hk; omega)
      generalize hY : List.foldl stepM _ (List.replicate k 1) = Y at ih
      obtain ⟨i1, i2, i3, i4, i5, i6⟩ := ih
      simp only at i3 i4 i5
      refine ⟨i1, i2, i3, by simp at i4 ⊢; omega, fun p hp => i5 p (by simp [hp]), fun _ => ?_⟩
      by_cases hr : r = []
      · subst hr
        refine ⟨_, i5 _ (List.mem_append_right _ (List.mem_singleton.2 rfl)), ?_⟩
        simp only [List.length_cons, List.length_nil]
        omega
      · obtain ⟨p, hp, hle⟩ := i6 hr
        refine ⟨p, hp, ?_⟩
        simp only [List.length_cons] at hle ⊢
        omega

/-- All acknowledgements get to the sender. -/
theorem answers {bs : List Int} (hb : bs.length ≤ 1000) : ∀ (k : Nat) (X : RunSt), Inv bs bs.length X → X.forth = [] → X.back.length ≤ k →
    Inv bs bs.length ((List.replicate k 4).foldl stepM X) ∧ ((List.replicate k 4).foldl stepM X).forth = [] ∧ ((List.replicate k 4).foldl stepM X).back = [] ∧ X.seq ≤ ((List.replicate k 4).foldl stepM X).seq ∧ ∀ p ∈ X.back, p.2.1 ≤ ((List.replicate k 4).foldl stepM X).seq
  | 0, X, h, hf, hk => by
    have e : X.back = [] := List.eq_nil_of_length_eq_zero (by omega)
    refine ⟨h, hf, e, Int.le_refl _, ?_⟩
    rw [e]
    simp
  | k + 1, X, h, hf, hk => by
    have ho := inv_step h hb 4
    rw [step4] at ho
    rw [List.replicate_succ, List.foldl_cons, step4]
    cases hbk : X.back with
    | nil =>
      have e : answerM X 0 false = X := by
        unfold answerM
        rw [hbk, takeAt_nil]
        cases X
        simp only at hbk
        subst hbk
        rfl
      rw [e]
      have := answers hb k X h hf (by rw [hbk]; simp)
      rw [hbk] at this
      exact this
    | cons p r =>
      have e : answerM X 0 false = { X with back := r, seq := (hearM X.seq X.queue p).1, queue := (hearM X.seq X.queue p).2 } := by
        unfold answerM
        rw [hbk, takeAt_first]
      obtain ⟨f1, f2, f3, f4⟩ := h.back p (by rw [hbk]; simp)
      have hq := h.qlen
      have h0 := h.seq0
      have hg := h.gotn
      have hsg := h.seqgot
      have hH : Hears X.seq X.queue p.1 p.2.1 p.2.2 := ⟨⟨h0, by omega, by omega⟩, f1, f2, f3, by omega, by omega⟩
      have hm : hearM X.seq X.queue p = (X.seq + (p.2.1 - X.seq).toNat, X.queue.drop (p.2.1 - X.seq).toNat) := if_pos hH
      rw [hm] at e
      have hi := ho.inv
      have hs := ho.seq
      rw [e] at hi hs ⊢
      have ih := answers hb k _ hi hf (by rw [hbk] at hk; simpa using hk)
      generalize hY : List.foldl stepM _ (List.replicate k 4) = Y at ih
      obtain ⟨i1, i2, i3, i4, i5⟩ := ih
      simp only at i4 i5 hs
      refine ⟨i1, i2, i3, by omega, ?_⟩
      intro p' hp'
      simp only [List.mem_cons] at hp'
      rcases hp' with rfl | hp'
      · omega
      · exact i5 p' hp'

/-- One round without losses. -/
def round : List Nat := [0, 1, 1, 1, 1, 4, 4, 4, 4]

structure Quiet (bs : List Int) (X : RunSt) : Prop where
  inv : Inv bs bs.length X
  forth : X.forth = []
  back : X.back = []

theorem round_on {bs : List Int} (hb : bs.length ≤ 1000) {X : RunSt} (h : Quiet bs X) : Quiet bs (round.foldl stepM X) ∧ (X.seq = bs.length ∧ (round.foldl stepM X).seq = bs.length ∨ X.seq + 1 ≤ (round.foldl stepM X).seq) := by
  have hi := h.inv
  have ho := inv_step hi hb 0
  have e00 : stepM X 0 = { X with forth := X.forth ++ outM X.seq X.queue } := rfl
  have e0 : stepM X 0 = { X with forth := outM X.seq X.queue } := by
    rw [e00, h.forth, List.nil_append]
  have hq := hi.qlen
  have h0 := hi.seq0
  have hsg := hi.seqgot
  have hg := hi.gotn
  have hv : vS X.seq X.queue := ⟨h0, by omega, by omega⟩
  have hout : outM X.seq X.queue = outs X.seq (X.queue.take (min 4 X.queue.length)) := if_pos hv
  obtain ⟨t, ht⟩ : ∃ t : Nat, X.seq = t := ⟨X.seq.toNat, by omega⟩
  rw [e0] at ho
  have a := arrives hb 4 (X.queue.take (min 4 X.queue.length)) t _ ho.inv (by simp only; rw [hout, ht]) (by simp only; omega) (by rw [List.length_take]; omega)
  have er : round.foldl stepM X = (List.replicate 4 4).foldl stepM ((List.replicate 4 1).foldl stepM (stepM X 0)) := by
    have e : round = [0] ++ List.replicate 4 1 ++ List.replicate 4 4 := by decide
    rw [e, List.foldl_append, List.foldl_append]
    rfl
  rw [er, e0]
  generalize (List.replicate 4 1).foldl stepM _ = Y at a ⊢
  obtain ⟨a1, a2, a3, a4, a5, a6⟩ := a
  simp only [h.back, List.length_nil, Nat.zero_add] at a4
  have b := answers hb 4 Y a1 a2 (by rw [List.length_take] at a4; omega)
  generalize (List.replicate 4 4).foldl stepM Y = W at b ⊢
  obtain ⟨b1, b2, b3, b4, b5⟩ := b
  refine ⟨⟨b1, b2, b3⟩, ?_⟩
  have hWg := b1.seqgot
  have hWn := b1.gotn
  by_cases hz : X.queue = []
  · left
    rw [hz] at hq
    simp only at a3
    simp at hq
    omega
  · right
    have hpos : 0 < X.queue.length := List.length_pos_iff.2 hz
    simp only at a3
    have hne : X.queue.take (min 4 X.queue.length) ≠ [] := by
      intro hn
      have := congrArg List.length hn
      rw [List.length_take, List.length_nil] at this
      omega
    obtain ⟨p, hp, hle⟩ := a6 hne
    have := b5 p hp
    rw [List.length_take] at hle
    omega

theorem rounds_on {bs : List Int} (hb : bs.length ≤ 1000) : ∀ (r : Nat) {X : RunSt}, Quiet bs X → bs.length ≤ X.seq + r → Quiet bs ((List.replicate r round).flatten.foldl stepM X) ∧ ((List.replicate r round).flatten.foldl stepM X).seq = bs.length
  | 0, X, h, hr => by
    have hsg := h.inv.seqgot
    have hg := h.inv.gotn
    refine ⟨h, ?_⟩
    show X.seq = _
    omega
  | r + 1, X, h, hr => by
    obtain ⟨h1, h2⟩ := round_on hb h
    rw [List.replicate_succ, List.flatten_cons, List.foldl_append]
    refine rounds_on hb r h1 ?_
    omega

theorem hands_on {bs : List Int} (hb : bs.length ≤ 1000) : ∀ (k n : Nat) {X : RunSt}, Inv bs n X → bs.length ≤ n + k → Inv bs bs.length ((List.replicate k 7).foldl stepM X) ∧ ((List.replicate k 7).foldl stepM X).forth = X.forth ∧ ((List.replicate k 7).foldl stepM X).back = X.back
  | 0, n, X, h, hk => by
    have := h.n_le
    have e : n = bs.length := by omega
    subst e
    exact ⟨h, rfl, rfl⟩
  | k + 1, n, X, h, hk => by
    rw [List.replicate_succ, List.foldl_cons]
    have ho := h.step hb 7
    have e : (stepM X 7).forth = X.forth ∧ (stepM X 7).back = X.back := by
      show (handM X).forth = _ ∧ (handM X).back = _
      unfold handM
      cases X.left <;> exact ⟨rfl, rfl⟩
    by_cases hn : n < bs.length
    · rw [if_pos ⟨rfl, hn⟩] at ho
      have ih := hands_on hb k (n + 1) ho.inv (by omega)
      exact ⟨ih.1, ih.2.1.trans e.1, ih.2.2.trans e.2⟩
    · rw [if_neg (fun h => hn h.2)] at ho
      have ih := hands_on hb k n ho.inv (by omega)
      exact ⟨ih.1, ih.2.1.trans e.1, ih.2.2.trans e.2⟩

theorem lose_forth {bs : List Int} (hb : bs.length ≤ 1000) : ∀ (k : Nat) {X : RunSt}, Inv bs bs.length X → Inv bs bs.length ((List.replicate k 3).foldl stepM X) ∧ ((List.replicate k 3).foldl stepM X).forth = X.forth.drop k ∧ ((List.replicate k 3).foldl stepM X).back = X.back
  | 0, X, h => ⟨h, rfl, rfl⟩
  | k + 1, X, h => by
    rw [List.replicate_succ, List.foldl_cons]
    have ho := inv_step h hb 3
    have e : stepM X 3 = { X with forth := X.forth.tail } := by
      show ({ X with forth := (takeAt X.forth 0 false).2 } : RunSt) = _
      rw [takeAt_tail]
    have ih := lose_forth hb k ho.inv
    rw [e] at ih ⊢
    refine ⟨ih.1, ih.2.1.trans ?_, ih.2.2⟩
    simp only
    rw [← List.drop_one, List.drop_drop, Nat.add_comm]

theorem lose_back {bs : List Int} (hb : bs.length ≤ 1000) : ∀ (k : Nat) {X : RunSt}, Inv bs bs.length X → Inv bs bs.length ((List.replicate k 6).foldl stepM X) ∧ ((List.replicate k 6).foldl stepM X).back = X.back.drop k ∧ ((List.replicate k 6).foldl stepM X).forth = X.forth
  | 0, X, h => ⟨h, rfl, rfl⟩
  | k + 1, X, h => by
    rw [List.replicate_succ, List.foldl_cons]
    have ho := inv_step h hb 6
    have e : stepM X 6 = { X with back := X.back.tail } := by
      show ({ X with back := (takeAt X.back 0 false).2 } : RunSt) = _
      rw [takeAt_tail]
    have ih := lose_back hb k ho.inv
    rw [e] at ih ⊢
    refine ⟨ih.1, ih.2.1.trans ?_, ih.2.2⟩
    simp only
    rw [← List.drop_one, List.drop_drop, Nat.add_comm]

/-- The steps of rest. -/
def restM (n : Nat) : List Nat := List.replicate n 7 ++ List.replicate 160 3 ++ List.replicate 40 6 ++ (List.replicate n round).flatten

theorem run_progress {bs : List Int} {ss : List Nat} (hb : bs.length ≤ 40) (hs : ss.length ≤ 40) : (runM bs (ss ++ restM bs.length)).seq = bs.length ∧ (runM bs (ss ++ restM bs.length)).queue = [] ∧ (runM bs (ss ++ restM bs.length)).got = bs := by
  have hb' : bs.length ≤ 1000 := by omega
  have h0 := run_inv (ss := ss) hb'
  have sm : ∀ (l : List Nat) (j : Nat) (X : RunSt), SmK j X → SmK (j + l.length) (l.foldl stepM X) := by
    intro l
    induction l with
    | nil => intro j X h; exact h
    | cons s r ih =>
      intro j X h
      have := ih (j + 1) _ (h.step s)
      rw [List.length_cons]
      rwa [show j + (r.length + 1) = j + 1 + r.length by omega]
  have hk := sm ss 0 (run0 bs) ⟨by simp [run0, I64], by simp [run0], by simp [run0], by simpa [run0] using hb', by simp [run0], by simp [run0], by simp [run0]⟩
  have hf := hk.forth
  have hbk := hk.back
  have e : runM bs (ss ++ restM bs.length) = (List.replicate bs.length round).flatten.foldl stepM ((List.replicate 40 6).foldl stepM ((List.replicate 160 3).foldl stepM ((List.replicate bs.length 7).foldl stepM (runM bs ss)))) := by
    unfold runM restM
    simp only [List.foldl_append]
  rw [e]
  change (runM bs ss).forth.length ≤ _ at hf
  change (runM bs ss).back.length ≤ _ at hbk
  obtain ⟨h1, h1f, h1b⟩ := hands_on hb' bs.length _ h0 (by omega)
  generalize (List.replicate bs.length 7).foldl stepM (runM bs ss) = A at h1 h1f h1b ⊢
  obtain ⟨h2, h2f, h2b⟩ := lose_forth hb' 160 h1
  generalize (List.replicate 160 3).foldl stepM A = B at h2 h2f h2b ⊢
  obtain ⟨h3, h3b, h3f⟩ := lose_back hb' 40 h2
  generalize (List.replicate 40 6).foldl stepM B = C at h3 h3f h3b ⊢
  have hqC : Quiet bs C := ⟨h3, by rw [h3f, h2f, h1f]; exact List.drop_of_length_le (by omega), by rw [h3b, h2b, h1b]; exact List.drop_of_length_le (by omega)⟩
  obtain ⟨h4, h5⟩ := rounds_on hb' bs.length hqC (by have := h3.seq0; omega)
  generalize (List.replicate bs.length round).flatten.foldl stepM C = D at h4 h5 ⊢
  have i := h4.inv
  have hg1 := i.seqgot
  have hg2 := i.gotn
  refine ⟨h5, ?_, ?_⟩
  · rw [i.queue, h5]
    simp
  · rw [i.got, show D.got.length = bs.length by omega]
    simp
end Go.Proofs.Ytpddngcgajjacaa

