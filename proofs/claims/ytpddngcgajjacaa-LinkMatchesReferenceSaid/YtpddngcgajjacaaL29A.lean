import Derived.Test.YtpddngcgajjacaaAbsG
import Derived.Test.YtpddngcgajjacaaIr29
set_option linter.unusedSimpArgs false
set_option linter.unusedVariables false
namespace Go.Proofs.Ytpddngcgajjacaa
open Go.Zz

attribute [go_sem] ev_move ev_pick ev_alloc ev_box ev_build ev_buildSlice ev_load ev_store ev_nilCheck ev_bin ev_beq ev_aggEq ev_nilEq ev_un ev_conv ev_makeFunc ev_makeSlice ev_slice ev_sliceArr ev_fieldAddr ev_field ev_indexAddr ev_indexAddrArr ev_index ev_extract ev_lenS ev_lenC ev_capS ev_minmax ev_append ev_copy ev_clear Opd.ev gt pt AV.cells newBlk Option.map_some Option.bind_some List.length_nil List.length_cons List.nil_append List.cons_append ptrAdd loadAV look loadCs binAV binInt isShift List.getElem?_cons_zero List.getElem?_cons_succ Bool.false_eq_true if_false if_true Bool.or_true Bool.or_false Bool.not_true Bool.not_false unAV or_true true_or false_or Nat.zero_add Nat.add_zero beq_self_eq_true ge_iff_le gt_iff_lt

/-- A slice of ints, by value. -/
def IntS (x : AV) (xs : List Int) : Prop := (x = .snil ∧ xs = []) ∨ ∃ full, x = .sval full xs.length (xs.map (.int .i64))

theorem IntS.len {x : AV} {xs : List Int} (h : IntS x xs) : slen x = some xs.length := by
  rcases h with ⟨rfl, rfl⟩ | ⟨full, rfl⟩ <;> rfl

theorem IntS.at {x : AV} {xs : List Int} (h : IntS x xs) {i : Nat} (hi : i < xs.length) : indexAddrAV 1 x (.int .i64 (i : Int)) = some (.pval ((xs.map (.int .i64)).drop i)) := by
  rcases h with ⟨rfl, rfl⟩ | ⟨full, rfl⟩
  · simp at hi
  · simp only [indexAddrAV, idx]
    rw [if_pos (by omega)]
    simp

theorem drop_at {xs : List Int} {i : Nat} (hi : i < xs.length) : ((xs.map (AV.int .i64)).drop i)[0]? = some (.int .i64 xs[i]) := by
  simp [hi]

theorem wrap_id {n : Int} (h1 : -9223372036854775808 ≤ n) (h2 : n ≤ 9223372036854775807) : IntKind.wrap .i64 n = n := by
  simp [IntKind.wrap, IntKind.signed, IntKind.bits]
  split <;> omega

theorem ints_loop {Γ : Env} {a b : AV} {xs ys : List Int} (ha : IntS a xs) (hb : IntS b ys) (hl : xs.length = ys.length) (hmax : xs.length < 9223372036854775808) {lb : IR} (hlb : lb = match ir21.body with | .seq _ (.seq _ (.seq (.seq _ (.block _ (.loop b))) _)) => b | _ => .skip) :
    ∀ (k i : Nat), i + k = xs.length → (∀ j, j < i → xs[j]? = ys[j]?) → ∀ (u2 u3 u4 u6 u7 u8 u9 u10 u11 u12 u13 u14 u15 u16 u17 u18 u19 u20 u21 u22 u23 u24 u25 : AV),
    WC Γ (.loop lb) ⟨[a, b, u2, u3, u4, .int .i64 i, u6, u7, u8, u9, u10, u11, u12, u13, u14, u15, u16, u17, u18, u19, u20, u21, u22, u23, u24, u25], [], []⟩ fun e s' => s'.heap = [] ∧ s'.loops = [] ∧ s'.T.length = 26 ∧ ((e = .exit 0 ∧ xs = ys) ∨ (e = .ret ∧ gt s'.T 4 = .bool false ∧ xs ≠ ys)) := by
  subst hlb
  unfold ir21
  simp only
  intro k
  induction k with
  | zero =>
    intro i hi hsame u2 u3 u4 u6 u7 u8 u9 u10 u11 u12 u13 u14 u15 u16 u17 u18 u19 u20 u21 u22 u23 u24 u25
    have e : xs = ys := List.ext_getElem? fun j => by
      by_cases hj : j < i
      · exact hsame j hj
      · rw [List.getElem?_eq_none (by omega), List.getElem?_eq_none (by omega)]
    refine WC.loop (WC.seq (WC.seq (WC.region ?_)))
    refine WO.op (by intro; simp only [go_sem]; rfl) ?_
    simp only [pt]
    refine WO.op (by intro; simp only [go_sem]; rfl) ?_
    simp only [pt]
    refine WO.op (by intro; rw [ev_lenS (n := xs.length) (by simp only [go_sem]; exact ha.len)]) ?_
    simp only [pt]
    refine WO.op (by intro; simp only [go_sem]; rfl) ?_
    simp only [pt]
    refine WO.nil ?_
    have hlt : ¬ ((i : Int) < (xs.length : Int)) := by omega
    simp only [Then]
    refine WC.no (by simp only [go_sem, hlt, decide_false]) (WC.exit ?_)
    exact ⟨rfl, rfl, rfl, .inl ⟨rfl, e⟩⟩
  | succ k ih =>
    intro i hi hsame u2 u3 u4 u6 u7 u8 u9 u10 u11 u12 u13 u14 u15 u16 u17 u18 u19 u20 u21 u22 u23 u24 u25
    have hix : i < xs.length := by omega
    have hiy : i < ys.length := by omega
    have hlt : ((i : Int) < (xs.length : Int)) := by omega
    have hdx := drop_at hix
    have hdy := drop_at hiy
    refine WC.loop (WC.seq (WC.seq (WC.region ?_)))
    refine WO.op (by intro; simp only [go_sem]; rfl) ?_
    simp only [pt]
    refine WO.op (by intro; simp only [go_sem]; rfl) ?_
    simp only [pt]
    refine WO.op (by intro; rw [ev_lenS (n := xs.length) (by simp only [go_sem]; exact ha.len)]) ?_
    simp only [pt]
    refine WO.op (by intro; simp only [go_sem]; rfl) ?_
    simp only [pt]
    refine WO.nil ?_
    simp only [Then]
    refine WC.yes (by simp only [go_sem, hlt, decide_true]) (WC.skip ?_)
    simp only [Then]
    refine WC.seq (WC.block (WC.seq (WC.draw ?_)))
    refine WD.free rfl (by intro; simp only [go_sem]; rfl) ?_
    simp only [pt, List.nil_append, List.cons_append]
    refine WD.free rfl (by intro; simp only [go_sem]; rfl) ?_
    simp only [pt, List.nil_append, List.cons_append]
    refine WD.free rfl (by intro; simp only [go_sem, ha.at hix]; rfl) ?_
    simp only [pt, List.nil_append, List.cons_append]
    refine WD.bigG rfl (by simp only [limit, strikes, blanks, List.map, go_sem]; rfl) (by intro; simp only [go_sem, hdx]; rfl) rfl (by simp only [back]; rfl) (by simp only [go_sem]; rfl) ?_
    simp only [St.put, pt]
    refine WD.free rfl (by intro; simp only [go_sem]; rfl) ?_
    simp only [pt, List.nil_append, List.cons_append]
    refine WD.free rfl (by intro; simp only [go_sem]; rfl) ?_
    simp only [pt, List.nil_append, List.cons_append]
    refine WD.free rfl (by intro; simp only [go_sem, hb.at hiy]; rfl) ?_
    simp only [pt, List.nil_append, List.cons_append]
    refine WD.bigG rfl (by simp only [limit, strikes, blanks, List.map, go_sem]; rfl) (by intro; simp only [go_sem, hdy]; rfl) rfl (by simp only [back]; rfl) (by simp only [go_sem]; rfl) ?_
    simp only [St.put, pt]
    refine WD.free rfl (by intro; simp only [go_sem]; rfl) ?_
    simp only [pt, List.nil_append, List.cons_append]
    refine WD.nil ?_
    simp only [Then]
    by_cases hne : xs[i] = ys[i]
    · refine WC.no (by simp only [go_sem, hne, bne_self_eq_false]) (WC.skip ?_)
      simp only [Out, Then]
      refine WC.region ?_
      refine WO.op (by intro; simp only [go_sem]; rfl) ?_
      simp only [pt]
      refine WO.op (by intro; simp only [go_sem]; rfl) ?_
      simp only [pt]
      refine WO.op (by intro; simp only [go_sem]; rfl) ?_
      simp only [pt]
      refine WO.nil ?_
      have hw := wrap_id (n := (i : Int) + 1) (by omega) (by omega)
      simp only [Then, hw]
      refine ih (i + 1) (by omega) (fun j hj => ?_) _ _ _ _ _ _ _ _ _ _ _ _ _ _ _ _ _ _ _ _ _ _ _
      by_cases hji : j = i
      · subst hji; rw [List.getElem?_eq_getElem hix, List.getElem?_eq_getElem hiy, hne]
      · exact hsame j (by omega)
    · refine WC.yes (by simp only [go_sem]; simpa using hne) (WC.seq (WC.region ?_))
      refine WO.op (by intro; simp only [go_sem]; rfl) ?_
      simp only [pt]
      refine WO.nil ?_
      simp only [Then]
      refine WC.ret ?_
      simp only [Out, Then]
      refine ⟨trivial, trivial, rfl, .inr ⟨trivial, rfl, fun e => hne ?_⟩⟩
      subst e
      rfl

theorem ints_run {Γ : Env} {a b : AV} {xs ys : List Int} (hs : Γ.spec 21 = none) (hf : Γ.fn 21 = some ir21) (ha : IntS a xs) (hb : IntS b ys) (hmax : xs.length < 9223372036854775808) (hmay : ys.length < 9223372036854775808) :
    WF Γ (.func 21 [] []) [a, b] ⟨[], []⟩ fun y m' => y = .bool (decide (xs = ys)) := by
  refine WF.fn hs hf (by show 2 ≤ 26; decide) ?_
  have hloop := ints_loop (Γ := Γ) (lb := _) ha hb (hmax := hmax) (hlb := rfl)
  unfold ir21 at hloop ⊢
  simp only [padTo, List.replicate, List.nil_append, List.append_nil, List.cons_append] at hloop ⊢
  refine WC.seq (WC.region ?_)
  refine WO.op (by intro; simp only [go_sem]; rfl) ?_
  simp only [pt]
  refine WO.nil ?_
  simp only [Then]
  refine WC.seq (WC.seq (WC.region ?_))
  refine WO.op (by intro; simp only [go_sem]; rfl) ?_
  simp only [pt]
  refine WO.op (by intro; rw [ev_lenS (n := xs.length) (by simp only [go_sem]; exact ha.len)]) ?_
  simp only [pt]
  refine WO.op (by intro; simp only [go_sem]; rfl) ?_
  simp only [pt]
  refine WO.op (by intro; rw [ev_lenS (n := ys.length) (by simp only [go_sem]; exact hb.len)]) ?_
  simp only [pt]
  refine WO.op (by intro; simp only [go_sem]; rfl) ?_
  simp only [pt]
  refine WO.nil ?_
  simp only [Then]
  by_cases hl : xs.length = ys.length
  · refine WC.no (by simp only [go_sem, hl, bne_self_eq_false]) (WC.skip ?_)
    simp only [Then]
    refine WC.seq (WC.seq (WC.region ?_))
    refine WO.op (by intro; simp only [go_sem]; rfl) ?_
    simp only [pt]
    refine WO.nil ?_
    simp only [Then]
    refine WC.block ((hloop hl xs.length 0 (by omega) (fun j hj => by omega) _ _ _ _ _ _ _ _ _ _ _ _ _ _ _ _ _ _ _ _ _ _ _).mono ?_)
    rintro e ⟨T, H, L⟩ ⟨rfl, rfl, hT, h⟩
    simp only at hT
    rcases h with ⟨rfl, he⟩ | ⟨rfl, h4, he⟩
    · simp only [Out, if_true, Then]
      refine WC.seq (WC.region ?_)
      refine WO.op (by intro; simp only [go_sem]; rfl) ?_
      refine WO.nil ?_
      simp only [Then]
      refine WC.ret ?_
      refine ⟨_, rfl, ?_⟩
      simp only [evRes, Option.map_some, oneRes, gt_pt, hT, he]
      simp
    · simp only [Out, Then]
      refine ⟨_, rfl, ?_⟩
      simp only at h4
      simp only [oneRes, h4]
      simp [he]
  · refine WC.yes (by simp only [go_sem]; simp; omega) (WC.seq (WC.region ?_))
    refine WO.op (by intro; simp only [go_sem]; rfl) ?_
    simp only [pt]
    refine WO.nil ?_
    simp only [Then]
    refine WC.ret ?_
    simp only [Then]
    refine ⟨_, rfl, ?_⟩
    have : xs ≠ ys := fun e => hl (by rw [e])
    simp [oneRes, gt, this]
end Go.Proofs.Ytpddngcgajjacaa

set_option linter.unusedSimpArgs false
set_option linter.unusedVariables false
namespace Go.Proofs.Ytpddngcgajjacaa
open Go.Zz

def I64 (n : Int) : Prop := -9223372036854775808 ≤ n ∧ n ≤ 9223372036854775807

theorem valid_run {Γ : Env} {s : Int} {q : AV} {qs : List Int} (hs : Γ.spec 26 = none) (hf : Γ.fn 26 = some ir26) (hq : IntS q qs) (h1 : I64 s) (hmax : qs.length < 9223372036854775808) :
    WF Γ (.func 26 [] []) [.agg [.int .i64 s, q]] ⟨[], []⟩ fun y m' => y = .bool (decide (0 ≤ s ∧ s ≤ 1000 ∧ (qs.length : Int) ≤ 1000 - s)) := by
  refine WF.fn hs hf (by show 1 ≤ 20; decide) ?_
  unfold ir26
  simp only [padTo, List.replicate, List.nil_append, List.append_nil, List.cons_append]
  refine WC.seq (WC.region ?_)
  refine WO.op (by intro; simp only [go_sem]; rfl) ?_
  simp only [pt]
  refine WO.op (by intro; simp only [go_sem]; rfl) ?_
  simp only [pt]
  refine WO.nil ?_
  simp only [Then]
  refine WC.seq (WC.region ?_)
  by_cases c1 : 0 ≤ s
  · iterate 4
      refine WO.op (by intro; simp only [go_sem, c1, decide_true]; rfl) ?_
      simp only [pt]
    by_cases c2 : s ≤ 1000
    · iterate 3
        refine WO.yes (by simp only [gt]) ?_
        refine WO.op (by intro; simp only [go_sem, c2, decide_true]; rfl) ?_
        simp only [pt]
      iterate 2
        refine WO.op (by intro; simp only [go_sem]; rfl) ?_
        simp only [pt]
      have hw := wrap_id (n := 1000 - s) (by omega) (by omega)
      iterate 2
        refine WO.yes (by simp only [gt]) ?_
        refine WO.op (by intro; simp only [go_sem]; rfl) ?_
        simp only [pt]
      refine WO.yes (by simp only [gt]) ?_
      refine WO.op (by intro; rw [ev_lenS (n := qs.length) (by simp only [go_sem]; exact hq.len)]) ?_
      simp only [pt]
      iterate 4
        refine WO.yes (by simp only [gt]) ?_
        refine WO.op (by intro; simp only [go_sem, hw]; rfl) ?_
        simp only [pt]
      iterate 2
        refine WO.op (by intro; simp only [go_sem]; rfl) ?_
        simp only [pt]
      refine WO.nil ?_
      simp only [Then]
      refine WC.ret ?_
      refine ⟨_, rfl, ?_⟩
      simp [oneRes, gt, c1, c2]
    · iterate 3
        refine WO.yes (by simp only [gt]) ?_
        refine WO.op (by intro; simp only [go_sem, c2, decide_false]; rfl) ?_
        simp only [pt]
      iterate 2
        refine WO.op (by intro; simp only [go_sem]; rfl) ?_
        simp only [pt]
      iterate 7
        refine WO.no (by simp only [gt, Bool.not_true]) ?_
        simp only [pt]
      iterate 2
        refine WO.op (by intro; simp only [go_sem]; rfl) ?_
        simp only [pt]
      refine WO.nil ?_
      simp only [Then]
      refine WC.ret ?_
      refine ⟨_, rfl, ?_⟩
      simp [oneRes, gt, c1, c2]
  · iterate 4
      refine WO.op (by intro; simp only [go_sem, c1, decide_false]; rfl) ?_
      simp only [pt]
    iterate 3
      refine WO.no (by simp only [gt, Bool.not_true]) ?_
      simp only [pt]
    iterate 2
      refine WO.op (by intro; simp only [go_sem]; rfl) ?_
      simp only [pt]
    iterate 7
      refine WO.no (by simp only [gt, Bool.not_true]) ?_
      simp only [pt]
    iterate 2
      refine WO.op (by intro; simp only [go_sem]; rfl) ?_
      simp only [pt]
    refine WO.nil ?_
    simp only [Then]
    refine WC.ret ?_
    refine ⟨_, rfl, ?_⟩
    simp [oneRes, gt, c1]

/-- slices.Clone. -/
theorem clone_run {Γ : Env} {q : AV} {qs : List Int} (hs : Γ.spec 28 = none) (hf : Γ.fn 28 = some ir28) (hq : IntS q qs) (hmax : qs.length ≤ 2000) :
    ∃ v, IntS v qs ∧ WF Γ (.func 28 [] []) [q] ⟨[], []⟩ fun y m' => resV m'.heap y = some v := by
  rcases hq with ⟨rfl, rfl⟩ | ⟨full, rfl⟩
  · refine ⟨.snil, .inl ⟨rfl, rfl⟩, WF.fn hs hf (by show 1 ≤ 8; decide) ?_⟩
    unfold ir28
    simp only [padTo, List.replicate, List.nil_append, List.append_nil, List.cons_append]
    refine WC.seq (WC.region ?_)
    refine WO.op (by intro; simp only [go_sem]; rfl) ?_
    simp only [pt]
    refine WO.nil ?_
    simp only [Then]
    refine WC.seq (WC.seq (WC.region ?_))
    refine WO.op (by intro; simp only [go_sem]; rfl) ?_
    simp only [pt]
    refine WO.op (by intro; simp only [go_sem, nilEqAV]; rfl) ?_
    simp only [pt]
    refine WO.nil ?_
    simp only [Then]
    refine WC.yes (by simp only [go_sem]) (WC.seq (WC.region ?_))
    refine WO.op (by intro; simp only [go_sem]; rfl) ?_
    simp only [pt]
    refine WO.nil ?_
    simp only [Then]
    refine WC.ret ?_
    exact ⟨_, rfl, rfl⟩
  · refine ⟨.sval (qs.length == 0) qs.length (qs.map (.int .i64)), .inr ⟨_, rfl⟩, WF.fn hs hf (by show 1 ≤ 8; decide) ?_⟩
    unfold ir28
    simp only [padTo, List.replicate, List.nil_append, List.append_nil, List.cons_append]
    refine WC.seq (WC.region ?_)
    refine WO.op (by intro; simp only [go_sem]; rfl) ?_
    simp only [pt]
    refine WO.nil ?_
    simp only [Then]
    refine WC.seq (WC.seq (WC.region ?_))
    refine WO.op (by intro; simp only [go_sem]; rfl) ?_
    simp only [pt]
    refine WO.op (by intro; simp only [go_sem, nilEqAV]; rfl) ?_
    simp only [pt]
    refine WO.nil ?_
    simp only [Then]
    refine WC.no (by simp only [go_sem]) (WC.skip ?_)
    simp only [Then]
    refine WC.seq (WC.region ?_)
    refine WO.op (by intro; simp only [go_sem, fillP, zeros]; rfl) ?_
    simp only [pt]
    refine WO.op (by intro; simp only [go_sem]; rfl) ?_
    simp only [pt]
    cases qs with
    | nil =>
      refine WO.op (by intro; simp only [go_sem, appendAV]; rfl) ?_
      simp only [pt]
      refine WO.op (by intro; simp only [go_sem]; rfl) ?_
      simp only [pt]
      refine WO.nil ?_
      simp only [Then]
      refine WC.ret ?_
      exact ⟨_, rfl, rfl⟩
    | cons x r =>
      have e : appendAV 1 8 ⟨[some ⟨0, []⟩], []⟩ (.sref 0 0 0 1 0 (some 0)) (.sval full (x :: r).length ((x :: r).map (.int .i64))) = some (.sref 1 0 0 1 (x :: r).length none, ⟨[some ⟨0, []⟩, some ⟨0, (x :: r).map (.int .i64)⟩], []⟩) := by
        simp only [List.length_cons] at hmax
        unfold appendAV
        simp only [scells, slen, List.length_map, List.length_cons, Nat.mul_one, if_true, Option.bind_eq_bind, Option.bind_some, Zz.look, List.getElem?_cons_zero, cut, Nat.zero_mul, Nat.zero_add, List.length_nil, Nat.le_refl, Nat.zero_le, List.drop_zero, List.take_zero]
        rw [if_neg (by omega), if_pos (by omega)]
        simp [newBlk]
      refine WO.op (by intro; rw [ev_append]; simp only [go_sem]; exact e) ?_
      simp only [pt]
      refine WO.op (by intro; simp only [go_sem]; rfl) ?_
      simp only [pt]
      refine WO.nil ?_
      simp only [Then]
      refine WC.ret ?_
      refine ⟨_, rfl, ?_⟩
      simp [oneRes, gt, resV, resA, resC, Zz.look, cut, flatAV, St.mem, List.take_of_length_le]
end Go.Proofs.Ytpddngcgajjacaa

set_option linter.unusedSimpArgs false
set_option linter.unusedVariables false
namespace Go.Proofs.Ytpddngcgajjacaa
open Go.Zz

def Spec26 (Γ : Env) : Prop := ∃ S, Γ.spec 26 = some S ∧ ∀ s q qs m, IntS q qs → I64 s → qs.length < 9223372036854775808 → S [.agg [.int .i64 s, q]] m = some (.bool (decide (0 ≤ s ∧ s ≤ 1000 ∧ (qs.length : Int) ≤ 1000 - s)), m)
def Spec28 (Γ : Env) : Prop := ∃ S, Γ.spec 28 = some S ∧ ∀ q qs, IntS q qs → qs.length ≤ 2000 → ∃ v, IntS v qs ∧ ∀ m, S [q] m = some (v, m)

theorem hear_bad {Γ : Env} (h26 : Spec26 Γ) {s ps bd : Int} {ack : Bool} {q : AV} {qs : List Int} (hs : Γ.spec 17 = none) (hf : Γ.fn 17 = some ir17) (hq : IntS q qs) (h1 : I64 s) (h2 : I64 ps) (hmax : qs.length < 9223372036854775808)
    (hbad : ¬ ((0 ≤ s ∧ s ≤ 1000 ∧ (qs.length : Int) ≤ 1000 - s) ∧ ack = true ∧ bd = 0 ∧ 0 ≤ ps ∧ ps ≤ 1000)) :
    WF Γ (.func 17 [] []) [.agg [.int .i64 s, q], .agg [.bool ack, .int .i64 ps, .int .i64 bd]] ⟨[], []⟩ fun y m' => resV m'.heap y = some (.tuple [.agg [.int .i64 0, .snil], .int .i64 1]) := by
  obtain ⟨S, hS, h26⟩ := h26
  refine WF.fn hs hf (by show 2 ≤ 56; decide) ?_
  unfold ir17
  simp only [padTo, List.replicate, List.nil_append, List.append_nil, List.cons_append]
  refine WC.seq (WC.region ?_)
  repeat (first
    | (refine WO.yes rfl ?_)
    | (refine WO.no rfl ?_; simp only [pt])
    | (refine WO.op (by intro; simp only [go_sem, Zz.look, fillP, over, cut]; rfl) ?_; simp only [pt])
    | (refine WO.opN (by intro; simp only [go_sem, Zz.look, storeAt, over, setBlk, cut]; rfl) ?_))
  refine WO.nil ?_
  simp only [Then]
  refine WC.seq (WC.seq (WC.region ?_))
  refine WO.op (by intro; simp only [go_sem, Zz.look, cut, List.drop_zero]; rfl) ?_
  simp only [pt]
  refine WO.call rfl rfl (WF.spec hS (h26 s q qs _ hq h1 hmax) ?_)
  simp only [pt]
  by_cases cV : 0 ≤ s ∧ s ≤ 1000 ∧ (qs.length : Int) ≤ 1000 - s
  · cases ack with
    | false =>
      repeat (first
        | (refine WO.yes rfl ?_)
        | (refine WO.no rfl ?_; simp only [pt])
        | (refine WO.op (by intro; simp only [go_sem, Zz.look, fillP, over, cut, cV, and_self, decide_true]; rfl) ?_; simp only [pt])
        | (refine WO.opN (by intro; simp only [go_sem, Zz.look, storeAt, over, setBlk, cut, cV, and_self, decide_true]; rfl) ?_))
      refine WO.nil ?_
      simp only [Then]
      refine WC.yes (by simp only [go_sem]) (WC.seq (WC.region ?_))
      repeat (first
        | (refine WO.yes rfl ?_)
        | (refine WO.no rfl ?_; simp only [pt])
        | (refine WO.op (by intro; simp only [go_sem, Zz.look, fillP, over, cut]; rfl) ?_; simp only [pt])
        | (refine WO.opN (by intro; simp only [go_sem, Zz.look, storeAt, over, setBlk, cut]; rfl) ?_))
      refine WO.nil ?_
      simp only [Then]
      refine WC.ret ?_
      exact ⟨_, rfl, rfl⟩
    | true =>
      by_cases cb : bd = 0
      · subst cb
        by_cases c1 : ps < 0
        · repeat (first
            | (refine WO.yes rfl ?_)
            | (refine WO.no rfl ?_; simp only [pt])
            | (refine WO.op (by intro; simp only [go_sem, Zz.look, fillP, over, cut, cV, and_self, decide_true, c1, bne_self_eq_false]; rfl) ?_; simp only [pt])
            | (refine WO.opN (by intro; simp only [go_sem, Zz.look, storeAt, over, setBlk, cut, cV, and_self, decide_true, c1, bne_self_eq_false]; rfl) ?_))
          refine WO.nil ?_
          simp only [Then]
          refine WC.yes (by simp only [go_sem]) (WC.seq (WC.region ?_))
          repeat (first
            | (refine WO.yes rfl ?_)
            | (refine WO.no rfl ?_; simp only [pt])
            | (refine WO.op (by intro; simp only [go_sem, Zz.look, fillP, over, cut]; rfl) ?_; simp only [pt])
            | (refine WO.opN (by intro; simp only [go_sem, Zz.look, storeAt, over, setBlk, cut]; rfl) ?_))
          refine WO.nil ?_
          simp only [Then]
          refine WC.ret ?_
          exact ⟨_, rfl, rfl⟩
        · by_cases c2 : 1000 < ps
          · repeat (first
              | (refine WO.yes rfl ?_)
              | (refine WO.no rfl ?_; simp only [pt])
              | (refine WO.op (by intro; simp only [go_sem, Zz.look, fillP, over, cut, cV, and_self, decide_true, c1, c2, decide_false, bne_self_eq_false]; rfl) ?_; simp only [pt])
              | (refine WO.opN (by intro; simp only [go_sem, Zz.look, storeAt, over, setBlk, cut, cV, and_self, decide_true, c1, c2, decide_false, bne_self_eq_false]; rfl) ?_))
            refine WO.nil ?_
            simp only [Then]
            refine WC.yes (by simp only [go_sem]) (WC.seq (WC.region ?_))
            repeat (first
              | (refine WO.yes rfl ?_)
              | (refine WO.no rfl ?_; simp only [pt])
              | (refine WO.op (by intro; simp only [go_sem, Zz.look, fillP, over, cut]; rfl) ?_; simp only [pt])
              | (refine WO.opN (by intro; simp only [go_sem, Zz.look, storeAt, over, setBlk, cut]; rfl) ?_))
            refine WO.nil ?_
            simp only [Then]
            refine WC.ret ?_
            exact ⟨_, rfl, rfl⟩
          · exact absurd ⟨cV, rfl, rfl, by omega, by omega⟩ hbad
      · have cb' : (bd != 0) = true := by simpa using cb
        repeat (first
          | (refine WO.yes rfl ?_)
          | (refine WO.no rfl ?_; simp only [pt])
          | (refine WO.op (by intro; simp only [go_sem, Zz.look, fillP, over, cut, cV, and_self, decide_true, cb']; rfl) ?_; simp only [pt])
          | (refine WO.opN (by intro; simp only [go_sem, Zz.look, storeAt, over, setBlk, cut, cV, and_self, decide_true, cb']; rfl) ?_))
        refine WO.nil ?_
        simp only [Then]
        refine WC.yes (by simp only [go_sem]) (WC.seq (WC.region ?_))
        repeat (first
          | (refine WO.yes rfl ?_)
          | (refine WO.no rfl ?_; simp only [pt])
          | (refine WO.op (by intro; simp only [go_sem, Zz.look, fillP, over, cut]; rfl) ?_; simp only [pt])
          | (refine WO.opN (by intro; simp only [go_sem, Zz.look, storeAt, over, setBlk, cut]; rfl) ?_))
        refine WO.nil ?_
        simp only [Then]
        refine WC.ret ?_
        exact ⟨_, rfl, rfl⟩
  · repeat (first
      | (refine WO.yes rfl ?_)
      | (refine WO.no rfl ?_; simp only [pt])
      | (refine WO.op (by intro; simp only [go_sem, Zz.look, fillP, over, cut, cV, decide_false]; rfl) ?_; simp only [pt])
      | (refine WO.opN (by intro; simp only [go_sem, Zz.look, storeAt, over, setBlk, cut, cV, decide_false]; rfl) ?_))
    refine WO.nil ?_
    simp only [Then]
    refine WC.yes (by simp only [go_sem]) (WC.seq (WC.region ?_))
    repeat (first
      | (refine WO.yes rfl ?_)
      | (refine WO.no rfl ?_; simp only [pt])
      | (refine WO.op (by intro; simp only [go_sem, Zz.look, fillP, over, cut]; rfl) ?_; simp only [pt])
      | (refine WO.opN (by intro; simp only [go_sem, Zz.look, storeAt, over, setBlk, cut]; rfl) ?_))
    refine WO.nil ?_
    simp only [Then]
    refine WC.ret ?_
    exact ⟨_, rfl, rfl⟩
end Go.Proofs.Ytpddngcgajjacaa

set_option linter.unusedSimpArgs false
set_option linter.unusedVariables false
namespace Go.Proofs.Ytpddngcgajjacaa
open Go.Zz

theorem IntS.from {x : AV} {xs : List Int} (h : IntS x xs) {n : Nat} (hn : n ≤ xs.length) : ∃ y, IntS y (xs.drop n) ∧ ∀ H, sliceAV H 1 x (some (.int .i64 (n : Int))) none none = some y := by
  rcases h with ⟨rfl, rfl⟩ | ⟨full, rfl⟩
  · have : n = 0 := by simpa using hn
    subst this
    exact ⟨.snil, .inl ⟨rfl, rfl⟩, fun H => by simp [sliceAV, bnds, bndO, bnd]⟩
  · refine ⟨_, .inr ⟨full, rfl⟩, fun H => ?_⟩
    simp only [sliceAV, List.length_map, Nat.mul_one, if_true, bnds, bndO, bnd]
    rw [if_pos ⟨by omega, by omega⟩]
    cases full <;> simp [List.take_of_length_le]

theorem IntS.cells {x : AV} {xs : List Int} (h : IntS x xs) : x.cells = some [x] := by
  rcases h with ⟨rfl, _⟩ | ⟨f, rfl⟩ <;> rfl

theorem limit_slice {T : List AV} {sz : Nat} {x : Opd} {a b c : Option Opd} {H : Hp} {xs : List Int} (h : IntS (x.ev T) xs) : limit T (.slice sz x a b c) H = blanks H := by
  unfold limit
  cases b with
  | none => rfl
  | some b => rcases h with ⟨h, _⟩ | ⟨f, h⟩ <;> simp only [h]

theorem hear_good {Γ : Env} (h26 : Spec26 Γ) (h28 : Spec28 Γ) {s ps : Int} {q : AV} {qs : List Int} (hs : Γ.spec 17 = none) (hf : Γ.fn 17 = some ir17) (hq : IntS q qs) (h1 : I64 s) (h2 : I64 ps) (hmax : qs.length < 9223372036854775808)
    (cV : 0 ≤ s ∧ s ≤ 1000 ∧ (qs.length : Int) ≤ 1000 - s) (c1 : ¬ ps < 0) (c2 : ¬ 1000 < ps) (c3 : ¬ (qs.length : Int) < ps - s) :
    ∃ v, IntS v (qs.drop (ps - s).toNat) ∧ WF Γ (.func 17 [] []) [.agg [.int .i64 s, q], .agg [.bool true, .int .i64 ps, .int .i64 0]] ⟨[], []⟩ fun y m' => y = .tuple [.agg [.int .i64 (s + (ps - s).toNat), v], .int .i64 0] := by
  obtain ⟨S, hS, h26⟩ := h26
  obtain ⟨S2, hS2, h28⟩ := h28
  obtain ⟨y, hy, hsl⟩ := hq.from (n := (ps - s).toNat) (by omega)
  obtain ⟨v, hv, hS3⟩ := h28 y _ hy (by simp; omega)
  have hvc := hv.cells
  simp only [AV.cells] at hvc
  refine ⟨v, hv, ?_⟩
  have hw := wrap_id (n := ps - s) (by omega) (by omega)
  refine WF.fn hs hf (by show 2 ≤ 56; decide) ?_
  unfold ir17
  simp only [padTo, List.replicate, List.nil_append, List.append_nil, List.cons_append]
  refine WC.seq (WC.region ?_)
  repeat (first
    | (refine WO.yes rfl ?_)
    | (refine WO.no rfl ?_; simp only [pt])
    | (refine WO.op (by intro; simp only [go_sem, Zz.look, fillP, over, cut]; rfl) ?_; simp only [pt])
    | (refine WO.opN (by intro; simp only [go_sem, Zz.look, storeAt, over, setBlk, cut]; rfl) ?_))
  refine WO.nil ?_
  simp only [Then]
  refine WC.seq (WC.seq (WC.region ?_))
  refine WO.op (by intro; simp only [go_sem, Zz.look, cut, List.drop_zero]; rfl) ?_
  simp only [pt]
  refine WO.call rfl rfl (WF.spec hS (h26 s q qs _ hq h1 hmax) ?_)
  simp only [pt]
  repeat (first
    | (refine WO.yes rfl ?_)
    | (refine WO.no rfl ?_; simp only [pt])
    | (refine WO.op (by intro; simp only [go_sem, Zz.look, fillP, over, cut, cV, and_self, decide_true, c1, c2, decide_false, bne_self_eq_false]; rfl) ?_; simp only [pt])
    | (refine WO.opN (by intro; simp only [go_sem, Zz.look, storeAt, over, setBlk, cut, cV, and_self, decide_true, c1, c2, decide_false, bne_self_eq_false]; rfl) ?_))
  refine WO.nil ?_
  simp only [Then]
  refine WC.no (by simp only [go_sem]) (WC.skip ?_)
  simp only [Then]
  refine WC.seq (WC.region ?_)
  repeat (first
    | (refine WO.yes rfl ?_)
    | (refine WO.no rfl ?_; simp only [pt])
    | (refine WO.op (by intro; simp only [go_sem, Zz.look, fillP, over, cut, hw]; rfl) ?_; simp only [pt])
    | (refine WO.opN (by intro; simp only [go_sem, Zz.look, storeAt, over, setBlk, cut, hw]; rfl) ?_))
  refine WO.nil ?_
  simp only [Then]
  refine WC.seq (WC.block (WC.seq (WC.region ?_)))
  iterate 3
    refine WO.op (by intro; simp only [go_sem, Zz.look]; rfl) ?_
    simp only [pt]
  refine WO.op (by intro; rw [ev_lenS (n := qs.length) (by simp only [go_sem]; exact hq.len)]) ?_
  simp only [pt]
  repeat (first
    | (refine WO.yes rfl ?_)
    | (refine WO.no rfl ?_; simp only [pt])
    | (refine WO.op (by intro; simp only [go_sem, Zz.look, fillP, over, cut, c3, decide_false]; rfl) ?_; simp only [pt])
    | (refine WO.opN (by intro; simp only [go_sem, Zz.look, storeAt, over, setBlk, cut, c3, decide_false]; rfl) ?_))
  refine WO.nil ?_
  simp only [Then]
  refine WC.no (by simp only [go_sem]) (WC.seq (WC.region ?_))
  by_cases c4 : ps - s < 0
  · have hz : (ps - s).toNat = 0 := by omega
    have hw2 := wrap_id (n := s + 0) (by omega) (by omega)
    rw [hz] at hsl
    have hsl0 : ∀ H, sliceAV H 1 q (some (.int .i64 0)) none none = some y := hsl
    repeat (first
      | (refine WO.yes rfl ?_)
      | (refine WO.no rfl ?_; simp only [pt])
      | (refine WO.op (by intro; simp only [go_sem, Zz.look, fillP, over, cut, c4, decide_true]; rfl) ?_; simp only [pt])
      | (refine WO.opN (by intro; simp only [go_sem, Zz.look, storeAt, over, setBlk, cut, c4, decide_true]; rfl) ?_))
    refine WO.nil ?_
    simp only [Then]
    refine WC.yes (by simp only [go_sem]) (WC.region ?_)
    repeat (first
      | (refine WO.yes rfl ?_)
      | (refine WO.no rfl ?_; simp only [pt])
      | (refine WO.op (by intro; simp only [go_sem, Zz.look, fillP, over, cut]; rfl) ?_; simp only [pt])
      | (refine WO.opN (by intro; simp only [go_sem, Zz.look, storeAt, over, setBlk, cut]; rfl) ?_))
    refine WO.nil ?_
    simp only [Out, Then]
    try simp only [Out, Then]
    refine WC.seq (WC.draw ?_)
    refine WD.free rfl (by intro; simp only [go_sem]; rfl) ?_
    simp only [pt, St.put, List.nil_append, List.cons_append]
    refine WD.bigG rfl (by simp only [limit, strikes, blanks, onlyAt, List.map, go_sem]; rfl) (by intro; simp only [go_sem, Zz.look, storeAt, setBlk, over, cut]; rfl) rfl (by simp only [back]; rfl) (by simp only [go_sem]; rfl) ?_
    simp only [pt, St.put, List.nil_append, List.cons_append]
    refine WD.free rfl (by intro; simp only [go_sem, fillP, over, cut, hw2]; rfl) ?_
    simp only [pt, St.put, List.nil_append, List.cons_append]
    refine WD.free rfl (by intro; simp only [go_sem, fillP, over, cut, hw2]; rfl) ?_
    simp only [pt, St.put, List.nil_append, List.cons_append]
    refine WD.free rfl (by intro; simp only [go_sem, fillP, over, cut, hw2]; rfl) ?_
    simp only [pt, St.put, List.nil_append, List.cons_append]
    refine WD.bigG rfl (by simp only [limit, strikes, blanks, onlyAt, List.map, go_sem]; rfl) (by intro; simp only [go_sem, Zz.look, storeAt, setBlk, over, cut]; rfl) rfl (by simp only [back]; rfl) (by simp only [go_sem]; rfl) ?_
    simp only [pt, St.put, List.nil_append, List.cons_append]
    refine WD.free rfl (by intro; simp only [go_sem, fillP, over, cut, hw2]; rfl) ?_
    simp only [pt, St.put, List.nil_append, List.cons_append]
    refine WD.bigG rfl (limit_slice (xs := qs) hq) (by intro; simp only [go_sem, Option.map_none, hsl0]; rfl) rfl (by simp only [back, blanks, strikes, List.map]; rfl) (by simp only [go_sem, blanks, strikes, List.map]; rfl) ?_
    simp only [pt, St.put, List.nil_append, List.cons_append]
    refine WD.call (by simp only [strikes, strike, strikeV, List.getElem?_cons_zero, List.getElem?_cons_succ, Nat.lt_irrefl, if_false]; rfl) ?_
    simp only [go_sem, List.map]
    refine WF.spec hS2 (hS3 _) ⟨rfl, ?_⟩
    simp only [pt, St.put, back, List.nil_append, List.cons_append]
    refine WD.free rfl (by intro; simp only [go_sem, fillP, over, cut, hvc, Option.bind_eq_bind, hw2]; rfl) ?_
    simp only [pt, St.put, List.nil_append, List.cons_append]
    refine WD.bigG rfl (by simp only [limit, strikes, blanks, onlyAt, List.map, go_sem]; rfl) (by intro; simp only [go_sem, Zz.look, storeAt, setBlk, over, cut]; rfl) rfl rfl rfl ?_
    simp only [pt, St.put, List.nil_append, List.cons_append]
    refine WD.free rfl (by intro; simp only [go_sem, fillP, over, cut, hw2]; rfl) ?_
    simp only [pt, St.put, List.nil_append, List.cons_append]
    refine WD.nil ?_
    simp only [Then]
    refine WC.ret ?_
    refine ⟨_, rfl, ?_⟩
    simp [oneRes, hz, gt]
  · have hw2 := wrap_id (n := s + (ps - s)) (by omega) (by omega)
    have hsl' := hsl
    rw [Int.toNat_of_nonneg (by omega)] at hsl'
    repeat (first
      | (refine WO.yes rfl ?_)
      | (refine WO.no rfl ?_; simp only [pt])
      | (refine WO.op (by intro; simp only [go_sem, Zz.look, fillP, over, cut, c4, decide_false]; rfl) ?_; simp only [pt])
      | (refine WO.opN (by intro; simp only [go_sem, Zz.look, storeAt, over, setBlk, cut, c4, decide_false]; rfl) ?_))
    refine WO.nil ?_
    simp only [Then]
    refine WC.no (by simp only [go_sem]) (WC.skip ?_)
    try simp only [Out, Then]
    refine WC.seq (WC.draw ?_)
    refine WD.free rfl (by intro; simp only [go_sem]; rfl) ?_
    simp only [pt, St.put, List.nil_append, List.cons_append]
    refine WD.bigG rfl (by simp only [limit, strikes, blanks, onlyAt, List.map, go_sem]; rfl) (by intro; simp only [go_sem, Zz.look, storeAt, setBlk, over, cut]; rfl) rfl (by simp only [back]; rfl) (by simp only [go_sem]; rfl) ?_
    simp only [pt, St.put, List.nil_append, List.cons_append]
    refine WD.free rfl (by intro; simp only [go_sem, fillP, over, cut, hw2]; rfl) ?_
    simp only [pt, St.put, List.nil_append, List.cons_append]
    refine WD.free rfl (by intro; simp only [go_sem, fillP, over, cut, hw2]; rfl) ?_
    simp only [pt, St.put, List.nil_append, List.cons_append]
    refine WD.free rfl (by intro; simp only [go_sem, fillP, over, cut, hw2]; rfl) ?_
    simp only [pt, St.put, List.nil_append, List.cons_append]
    refine WD.bigG rfl (by simp only [limit, strikes, blanks, onlyAt, List.map, go_sem]; rfl) (by intro; simp only [go_sem, Zz.look, storeAt, setBlk, over, cut]; rfl) rfl (by simp only [back]; rfl) (by simp only [go_sem]; rfl) ?_
    simp only [pt, St.put, List.nil_append, List.cons_append]
    refine WD.free rfl (by intro; simp only [go_sem, fillP, over, cut, hw2]; rfl) ?_
    simp only [pt, St.put, List.nil_append, List.cons_append]
    refine WD.bigG rfl (limit_slice (xs := qs) hq) (by intro; simp only [go_sem, Option.map_none, hsl']; rfl) rfl (by simp only [back, blanks, strikes, List.map]; rfl) (by simp only [go_sem, blanks, strikes, List.map]; rfl) ?_
    simp only [pt, St.put, List.nil_append, List.cons_append]
    refine WD.call (by simp only [strikes, strike, strikeV, List.getElem?_cons_zero, List.getElem?_cons_succ, Nat.lt_irrefl, if_false]; rfl) ?_
    simp only [go_sem, List.map]
    refine WF.spec hS2 (hS3 _) ⟨rfl, ?_⟩
    simp only [pt, St.put, back, List.nil_append, List.cons_append]
    refine WD.free rfl (by intro; simp only [go_sem, fillP, over, cut, hvc, Option.bind_eq_bind, hw2]; rfl) ?_
    simp only [pt, St.put, List.nil_append, List.cons_append]
    refine WD.bigG rfl (by simp only [limit, strikes, blanks, onlyAt, List.map, go_sem]; rfl) (by intro; simp only [go_sem, Zz.look, storeAt, setBlk, over, cut]; rfl) rfl rfl rfl ?_
    simp only [pt, St.put, List.nil_append, List.cons_append]
    refine WD.free rfl (by intro; simp only [go_sem, fillP, over, cut, hw2]; rfl) ?_
    simp only [pt, St.put, List.nil_append, List.cons_append]
    refine WD.nil ?_
    simp only [Then]
    refine WC.ret ?_
    refine ⟨_, rfl, ?_⟩
    simp [oneRes, gt]
    omega
end Go.Proofs.Ytpddngcgajjacaa

set_option linter.unusedSimpArgs false
set_option linter.unusedVariables false
namespace Go.Proofs.Ytpddngcgajjacaa
open Go.Zz

theorem hear_state {Γ : Env} (h26 : Spec26 Γ) {s ps : Int} {q : AV} {qs : List Int} (hs : Γ.spec 17 = none) (hf : Γ.fn 17 = some ir17) (hq : IntS q qs) (h1 : I64 s) (h2 : I64 ps) (hmax : qs.length < 9223372036854775808)
    (cV : 0 ≤ s ∧ s ≤ 1000 ∧ (qs.length : Int) ≤ 1000 - s) (c1 : ¬ ps < 0) (c2 : ¬ 1000 < ps) (c3 : (qs.length : Int) < ps - s) :
    WF Γ (.func 17 [] []) [.agg [.int .i64 s, q], .agg [.bool true, .int .i64 ps, .int .i64 0]] ⟨[], []⟩ fun y m' => resV m'.heap y = some (.tuple [.agg [.int .i64 0, .snil], .int .i64 6]) := by
  obtain ⟨S, hS, h26⟩ := h26
  have hw := wrap_id (n := ps - s) (by omega) (by omega)
  refine WF.fn hs hf (by show 2 ≤ 56; decide) ?_
  unfold ir17
  simp only [padTo, List.replicate, List.nil_append, List.append_nil, List.cons_append]
  refine WC.seq (WC.region ?_)
  repeat (first
    | (refine WO.yes rfl ?_)
    | (refine WO.no rfl ?_; simp only [pt])
    | (refine WO.op (by intro; simp only [go_sem, Zz.look, fillP, over, cut]; rfl) ?_; simp only [pt])
    | (refine WO.opN (by intro; simp only [go_sem, Zz.look, storeAt, over, setBlk, cut]; rfl) ?_))
  refine WO.nil ?_
  simp only [Then]
  refine WC.seq (WC.seq (WC.region ?_))
  refine WO.op (by intro; simp only [go_sem, Zz.look, cut, List.drop_zero]; rfl) ?_
  simp only [pt]
  refine WO.call rfl rfl (WF.spec hS (h26 s q qs _ hq h1 hmax) ?_)
  simp only [pt]
  repeat (first
    | (refine WO.yes rfl ?_)
    | (refine WO.no rfl ?_; simp only [pt])
    | (refine WO.op (by intro; simp only [go_sem, Zz.look, fillP, over, cut, cV, and_self, decide_true, c1, c2, decide_false, bne_self_eq_false]; rfl) ?_; simp only [pt])
    | (refine WO.opN (by intro; simp only [go_sem, Zz.look, storeAt, over, setBlk, cut, cV, and_self, decide_true, c1, c2, decide_false, bne_self_eq_false]; rfl) ?_))
  refine WO.nil ?_
  simp only [Then]
  refine WC.no (by simp only [go_sem]) (WC.skip ?_)
  simp only [Then]
  refine WC.seq (WC.region ?_)
  repeat (first
    | (refine WO.yes rfl ?_)
    | (refine WO.no rfl ?_; simp only [pt])
    | (refine WO.op (by intro; simp only [go_sem, Zz.look, fillP, over, cut, hw]; rfl) ?_; simp only [pt])
    | (refine WO.opN (by intro; simp only [go_sem, Zz.look, storeAt, over, setBlk, cut, hw]; rfl) ?_))
  refine WO.nil ?_
  simp only [Then]
  refine WC.seq (WC.block (WC.seq (WC.region ?_)))
  iterate 3
    refine WO.op (by intro; simp only [go_sem, Zz.look]; rfl) ?_
    simp only [pt]
  refine WO.op (by intro; rw [ev_lenS (n := qs.length) (by simp only [go_sem]; exact hq.len)]) ?_
  simp only [pt]
  repeat (first
    | (refine WO.yes rfl ?_)
    | (refine WO.no rfl ?_; simp only [pt])
    | (refine WO.op (by intro; simp only [go_sem, Zz.look, fillP, over, cut, c3, decide_true]; rfl) ?_; simp only [pt])
    | (refine WO.opN (by intro; simp only [go_sem, Zz.look, storeAt, over, setBlk, cut, c3, decide_true]; rfl) ?_))
  refine WO.nil ?_
  simp only [Then]
  refine WC.yes (by simp only [go_sem]) (WC.seq (WC.region ?_))
  repeat (first
    | (refine WO.yes rfl ?_)
    | (refine WO.no rfl ?_; simp only [pt])
    | (refine WO.op (by intro; simp only [go_sem, Zz.look, fillP, over, cut]; rfl) ?_; simp only [pt])
    | (refine WO.opN (by intro; simp only [go_sem, Zz.look, storeAt, over, setBlk, cut]; rfl) ?_))
  refine WO.nil ?_
  simp only [Then]
  refine WC.ret ?_
  exact ⟨_, rfl, rfl⟩
end Go.Proofs.Ytpddngcgajjacaa

set_option linter.unusedSimpArgs false
set_option linter.unusedVariables false
namespace Go.Proofs.Ytpddngcgajjacaa
open Go.Zz

def Spec21 (Γ : Env) : Prop := ∃ S, Γ.spec 21 = some S ∧ ∀ a b xs ys m, IntS a xs → IntS b ys → xs.length < 9223372036854775808 → ys.length < 9223372036854775808 → S [a, b] m = some (.bool (decide (xs = ys)), m)

theorem sender_run {Γ : Env} (h21 : Spec21 Γ) {s k : Int} {q r : AV} {qs rs : List Int} (hs : Γ.spec 13 = none) (hf : Γ.fn 13 = some ir13) (hq : IntS q qs) (hr : IntS r rs) (h1 : qs.length < 9223372036854775808) (h2 : rs.length < 9223372036854775808) :
    WF Γ (.func 13 [] []) [.agg [.int .i64 s, q], .int .i64 k, r] ⟨[], []⟩ fun y m' => y = .bool (decide (s = k ∧ qs = rs)) := by
  obtain ⟨S, hS, h21⟩ := h21
  refine WF.fn hs hf (by show 3 ≤ 17; decide) ?_
  unfold ir13
  simp only [padTo, List.replicate, List.nil_append, List.append_nil, List.cons_append]
  refine WC.seq (WC.region ?_)
  repeat (first
    | (refine WO.yes rfl ?_)
    | (refine WO.no rfl ?_; simp only [pt])
    | (refine WO.op (by intro; simp only [go_sem, Zz.look, fillP, over, cut]; rfl) ?_; simp only [pt])
    | (refine WO.opN (by intro; simp only [go_sem, Zz.look, storeAt, over, setBlk, cut]; rfl) ?_))
  refine WO.nil ?_
  simp only [Then]
  refine WC.seq (WC.region ?_)
  by_cases c : s = k
  · subst c
    iterate 5
      refine WO.op (by intro; simp only [go_sem, Zz.look]; rfl) ?_
      simp only [pt]
    iterate 3
      refine WO.yes rfl ?_
      refine WO.op (by intro; simp only [go_sem, Zz.look]; rfl) ?_
      simp only [pt]
    refine WO.yes rfl ?_
    refine WO.call rfl rfl (WF.spec hS (h21 q r qs rs _ hq hr h1 h2) ?_)
    simp only [pt]
    repeat (first
      | (refine WO.yes rfl ?_)
      | (refine WO.no rfl ?_; simp only [pt])
      | (refine WO.op (by intro; simp only [go_sem, Zz.look, fillP, over, cut]; rfl) ?_; simp only [pt])
      | (refine WO.opN (by intro; simp only [go_sem, Zz.look, storeAt, over, setBlk, cut]; rfl) ?_))
    refine WO.nil ?_
    simp only [Then]
    refine WC.ret ?_
    refine ⟨_, rfl, ?_⟩
    simp [oneRes, gt]
  · have c' : (s == k) = false := by simpa using c
    repeat (first
      | (refine WO.yes rfl ?_)
      | (refine WO.no rfl ?_; simp only [pt])
      | (refine WO.op (by intro; simp only [go_sem, Zz.look, fillP, over, cut, c']; rfl) ?_; simp only [pt])
      | (refine WO.opN (by intro; simp only [go_sem, Zz.look, storeAt, over, setBlk, cut, c']; rfl) ?_))
    refine WO.nil ?_
    simp only [Then]
    refine WC.ret ?_
    refine ⟨_, rfl, ?_⟩
    simp [oneRes, gt, c]
end Go.Proofs.Ytpddngcgajjacaa

