import Derived.Test.YtpddngcgajjacaaAbs24
import Derived.Test.YtpddngcgajjacaaIr29
set_option linter.unusedSimpArgs false
set_option linter.unusedVariables false
namespace Go.Proofs.Ytpddngcgajjacaa
open Go.Zz

attribute [go_sem] ev_move ev_pick ev_alloc ev_box ev_build ev_buildSlice ev_load ev_store ev_nilCheck ev_bin ev_beq ev_aggEq ev_nilEq ev_un ev_conv ev_makeFunc ev_makeSlice ev_slice ev_sliceArr ev_fieldAddr ev_field ev_indexAddr ev_indexAddrArr ev_index ev_extract ev_lenS ev_lenC ev_capS ev_minmax ev_append ev_copy ev_clear Opd.ev gt pt AV.cells newBlk Option.map_some Option.bind_some List.length_nil List.length_cons List.nil_append List.cons_append ptrAdd loadAV look loadCs binAV binInt isShift List.getElem?_cons_zero List.getElem?_cons_succ Bool.false_eq_true if_false if_true Bool.or_true Bool.or_false Bool.not_true Bool.not_false unAV or_true true_or false_or Nat.zero_add Nat.add_zero beq_self_eq_true ge_iff_le gt_iff_lt

/-- A slice of ints, by value. -/
def IntS (x : AV) (xs : List Int) : Prop := (x = .snil ∧ xs = []) ∨ ∃ full, x = .sval full xs.length (xs.map (.int .i64))

theorem IntS.len {x : AV} {xs : List Int} (h : IntS x xs) : slen x = some xs.length := by
  rcases h with ⟨rfl, rfl⟩ | ⟨full, rfl⟩ <;> rfl

theorem IntS.at {x : AV} {xs : List Int} (h : IntS x xs) {i : Nat} (hi : i < xs.length) : indexAddrAV 1 x (.int .i64 (i : Int)) = some (.pval ((xs.map (.int .i64)).drop i)) := by
  rcases h with ⟨rfl, rfl⟩ | ⟨full, rfl⟩
  · simp at hi
  · simp only [indexAddrAV, idx]
    rw [if_pos (by omega)]
    simp

theorem drop_at {xs : List Int} {i : Nat} (hi : i < xs.length) : ((xs.map (AV.int .i64)).drop i)[0]? = some (.int .i64 xs[i]) := by
  simp [hi]

theorem wrap_id {n : Int} (h1 : -9223372036854775808 ≤ n) (h2 : n ≤ 9223372036854775807) : IntKind.wrap .i64 n = n := by
  simp [IntKind.wrap, IntKind.signed, IntKind.bits]
  split <;> omega

theorem ints_loop {Γ : Env} {a b : AV} {xs ys : List Int} (ha : IntS a xs) (hb : IntS b ys) (hl : xs.length = ys.length) (hmax : xs.length < 9223372036854775808) {lb : IR} (hlb : lb = match ir21.body with | .seq _ (.seq _ (.seq (.seq _ (.block _ (.loop b))) _)) => b | _ => .skip) :
    ∀ (k i : Nat), i + k = xs.length → (∀ j, j < i → xs[j]? = ys[j]?) → ∀ (u2 u3 u4 u6 u7 u8 u9 u10 u11 u12 u13 u14 u15 u16 u17 u18 u19 u20 u21 u22 u23 u24 u25 : AV),
    WC Γ (.loop lb) ⟨[a, b, u2, u3, u4, .int .i64 i, u6, u7, u8, u9, u10, u11, u12, u13, u14, u15, u16, u17, u18, u19, u20, u21, u22, u23, u24, u25], [], []⟩ fun e s' => s'.heap = [] ∧ s'.loops = [] ∧ s'.T.length = 26 ∧ ((e = .exit 0 ∧ xs = ys) ∨ (e = .ret ∧ gt s'.T 4 = .bool false ∧ xs ≠ ys)) := by
  subst hlb
  unfold ir21
  simp only
  intro k
  induction k with
  | zero =>
    intro i hi hsame u2 u3 u4 u6 u7 u8 u9 u10 u11 u12 u13 u14 u15 u16 u17 u18 u19 u20 u21 u22 u23 u24 u25
    have e : xs = ys := List.ext_getElem? fun j => by
      by_cases hj : j < i
      · exact hsame j hj
      · rw [List.getElem?_eq_none (by omega), List.getElem?_eq_none (by omega)]
    refine WC.loop (WC.seq (WC.seq (WC.region ?_)))
    refine WO.op (by intro; simp only [go_sem]; rfl) ?_
    simp only [pt]
    refine WO.op (by intro; simp only [go_sem]; rfl) ?_
    simp only [pt]
    refine WO.op (by intro; rw [ev_lenS (n := xs.length) (by simp only [go_sem]; exact ha.len)]) ?_
    simp only [pt]
    refine WO.op (by intro; simp only [go_sem]; rfl) ?_
    simp only [pt]
    refine WO.nil ?_
    have hlt : ¬ ((i : Int) < (xs.length : Int)) := by omega
    simp only [Then]
    refine WC.no (by simp only [go_sem, hlt, decide_false]) (WC.exit ?_)
    exact ⟨rfl, rfl, rfl, .inl ⟨rfl, e⟩⟩
  | succ k ih =>
    intro i hi hsame u2 u3 u4 u6 u7 u8 u9 u10 u11 u12 u13 u14 u15 u16 u17 u18 u19 u20 u21 u22 u23 u24 u25
    have hix : i < xs.length := by omega
    have hiy : i < ys.length := by omega
    have hlt : ((i : Int) < (xs.length : Int)) := by omega
    have hdx := drop_at hix
    have hdy := drop_at hiy
    refine WC.loop (WC.seq (WC.seq (WC.region ?_)))
    refine WO.op (by intro; simp only [go_sem]; rfl) ?_
    simp only [pt]
    refine WO.op (by intro; simp only [go_sem]; rfl) ?_
    simp only [pt]
    refine WO.op (by intro; rw [ev_lenS (n := xs.length) (by simp only [go_sem]; exact ha.len)]) ?_
    simp only [pt]
    refine WO.op (by intro; simp only [go_sem]; rfl) ?_
    simp only [pt]
    refine WO.nil ?_
    simp only [Then]
    refine WC.yes (by simp only [go_sem, hlt, decide_true]) (WC.skip ?_)
    simp only [Then]
    refine WC.seq (WC.block (WC.seq (WC.draw ?_)))
    refine WD.free rfl (by intro; simp only [go_sem]; rfl) ?_
    simp only [pt, List.nil_append, List.cons_append]
    refine WD.free rfl (by intro; simp only [go_sem]; rfl) ?_
    simp only [pt, List.nil_append, List.cons_append]
    refine WD.free rfl (by intro; simp only [go_sem, ha.at hix]; rfl) ?_
    simp only [pt, List.nil_append, List.cons_append]
    refine WD.bigG rfl (by simp only [limit, strikes, blanks, List.map, go_sem]; rfl) (by intro; simp only [go_sem, hdx]; rfl) rfl (by simp only [back]; rfl) (by simp only [go_sem]; rfl) ?_
    simp only [St.put, pt]
    refine WD.free rfl (by intro; simp only [go_sem]; rfl) ?_
    simp only [pt, List.nil_append, List.cons_append]
    refine WD.free rfl (by intro; simp only [go_sem]; rfl) ?_
    simp only [pt, List.nil_append, List.cons_append]
    refine WD.free rfl (by intro; simp only [go_sem, hb.at hiy]; rfl) ?_
    simp only [pt, List.nil_append, List.cons_append]
    refine WD.bigG rfl (by simp only [limit, strikes, blanks, List.map, go_sem]; rfl) (by intro; simp only [go_sem, hdy]; rfl) rfl (by simp only [back]; rfl) (by simp only [go_sem]; rfl) ?_
    simp only [St.put, pt]
    refine WD.free rfl (by intro; simp only [go_sem]; rfl) ?_
    simp only [pt, List.nil_append, List.cons_append]
    refine WD.nil ?_
    simp only [Then]
    by_cases hne : xs[i] = ys[i]
    · refine WC.no (by simp only [go_sem, hne, bne_self_eq_false]) (WC.skip ?_)
      simp only [Out, Then]
      refine WC.region ?_
      refine WO.op (by intro; simp only [go_sem]; rfl) ?_
      simp only [pt]
      refine WO.op (by intro; simp only [go_sem]; rfl) ?_
      simp only [pt]
      refine WO.op (by intro; simp only [go_sem]; rfl) ?_
      simp only [pt]
      refine WO.nil ?_
      have hw := wrap_id (n := (i : Int) + 1) (by omega) (by omega)
      simp only [Then, hw]
      refine ih (i + 1) (by omega) (fun j hj => ?_) _ _ _ _ _ _ _ _ _ _ _ _ _ _ _ _ _ _ _ _ _ _ _
      by_cases hji : j = i
      · subst hji; rw [List.getElem?_eq_getElem hix, List.getElem?_eq_getElem hiy, hne]
      · exact hsame j (by omega)
    · refine WC.yes (by simp only [go_sem]; simpa using hne) (WC.seq (WC.region ?_))
      refine WO.op (by intro; simp only [go_sem]; rfl) ?_
      simp only [pt]
      refine WO.nil ?_
      simp only [Then]
      refine WC.ret ?_
      simp only [Out, Then]
      refine ⟨trivial, trivial, rfl, .inr ⟨trivial, rfl, fun e => hne ?_⟩⟩
      subst e
      rfl

theorem ints_run {Γ : Env} {a b : AV} {xs ys : List Int} (hs : Γ.spec 21 = none) (hf : Γ.fn 21 = some ir21) (ha : IntS a xs) (hb : IntS b ys) (hmax : xs.length < 9223372036854775808) (hmay : ys.length < 9223372036854775808) :
    WF Γ (.func 21 [] []) [a, b] ⟨[], []⟩ fun y m' => y = .bool (decide (xs = ys)) := by
  refine WF.fn hs hf (by show 2 ≤ 26; decide) ?_
  have hloop := ints_loop (Γ := Γ) (lb := _) ha hb (hmax := hmax) (hlb := rfl)
  unfold ir21 at hloop ⊢
  simp only [padTo, List.replicate, List.nil_append, List.append_nil, List.cons_append] at hloop ⊢
  refine WC.seq (WC.region ?_)
  refine WO.op (by intro; simp only [go_sem]; rfl) ?_
  simp only [pt]
  refine WO.nil ?_
  simp only [Then]
  refine WC.seq (WC.seq (WC.region ?_))
  refine WO.op (by intro; simp only [go_sem]; rfl) ?_
  simp only [pt]
  refine WO.op (by intro; rw [ev_lenS (n := xs.length) (by simp only [go_sem]; exact ha.len)]) ?_
  simp only [pt]
  refine WO.op (by intro; simp only [go_sem]; rfl) ?_
  simp only [pt]
  refine WO.op (by intro; rw [ev_lenS (n := ys.length) (by simp only [go_sem]; exact hb.len)]) ?_
  simp only [pt]
  refine WO.op (by intro; simp only [go_sem]; rfl) ?_
  simp only [pt]
  refine WO.nil ?_
  simp only [Then]
  by_cases hl : xs.length = ys.length
  · refine WC.no (by simp only [go_sem, hl, bne_self_eq_false]) (WC.skip ?_)
    simp only [Then]
    refine WC.seq (WC.seq (WC.region ?_))
    refine WO.op (by intro; simp only [go_sem]; rfl) ?_
    simp only [pt]
    refine WO.nil ?_
    simp only [Then]
    refine WC.block ((hloop hl xs.length 0 (by omega) (fun j hj => by omega) _ _ _ _ _ _ _ _ _ _ _ _ _ _ _ _ _ _ _ _ _ _ _).mono ?_)
    rintro e ⟨T, H, L⟩ ⟨rfl, rfl, hT, h⟩
    simp only at hT
    rcases h with ⟨rfl, he⟩ | ⟨rfl, h4, he⟩
    · simp only [Out, if_true, Then]
      refine WC.seq (WC.region ?_)
      refine WO.op (by intro; simp only [go_sem]; rfl) ?_
      refine WO.nil ?_
      simp only [Then]
      refine WC.ret ?_
      refine ⟨_, rfl, ?_⟩
      simp only [evRes, Option.map_some, oneRes, gt_pt, hT, he]
      simp
    · simp only [Out, Then]
      refine ⟨_, rfl, ?_⟩
      simp only at h4
      simp only [oneRes, h4]
      simp [he]
  · refine WC.yes (by simp only [go_sem]; simp; omega) (WC.seq (WC.region ?_))
    refine WO.op (by intro; simp only [go_sem]; rfl) ?_
    simp only [pt]
    refine WO.nil ?_
    simp only [Then]
    refine WC.ret ?_
    simp only [Then]
    refine ⟨_, rfl, ?_⟩
    have : xs ≠ ys := fun e => hl (by rw [e])
    simp [oneRes, gt, this]
end Go.Proofs.Ytpddngcgajjacaa
