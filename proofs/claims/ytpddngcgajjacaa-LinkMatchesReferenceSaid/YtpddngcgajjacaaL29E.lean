import Derived.Test.YtpddngcgajjacaaL29D
import Derived.Test.YtpddngcgajjacaaAbsG
import Derived.Test.YtpddngcgajjacaaIr29b
set_option linter.unusedVariables false
namespace Go.Proofs.Ytpddngcgajjacaa
open Go.Zz

theorem pa_receiver {x : AV} (h : PA (true, [.slice [.int .i64]]) x) : ∃ g gs, x = .agg [g] ∧ IntS g gs ∧ gs.length < 9223372036854775808 := by
  unfold PA at h
  rw [if_pos rfl] at h
  obtain ⟨l, rfl, h⟩ := h
  obtain ⟨b, l2, rfl, h2, h3⟩ := all2_cons h
  obtain rfl := all2_nil h3
  obtain ⟨xs, g1, g2, _⟩ := ca_ints h2
  exact ⟨b, xs, rfl, g1, g2⟩

theorem kinds6 : Try.f6.params.toList.mapM (paramK Try.prog) = some [(true, [.flat (.int .i64), .slice [.int .i64]]), (true, [.slice [.int .i64]]), (true, [.flat .bool, .flat (.int .i64), .flat (.int .i64)]), (true, [.flat .bool, .flat (.int .i64), .flat (.int .i64)])] := by kernel_rfl

theorem law6 (avs : List AV) (h : All2 PA [(true, [.flat (.int .i64), .slice [.int .i64]]), (true, [.slice [.int .i64]]), (true, [.flat .bool, .flat (.int .i64), .flat (.int .i64)]), (true, [.flat .bool, .flat (.int .i64), .flat (.int .i64)])] avs) : ∃ n m', evF G2 n (.func 6 [] []) avs ⟨[], []⟩ = some (.bool true, m') := by
  obtain ⟨a, l1, rfl, ha, h1⟩ := all2_cons h
  obtain ⟨b, l2, rfl, hb, h2⟩ := all2_cons h1
  obtain ⟨p, l3, rfl, hp, h3⟩ := all2_cons h2
  obtain ⟨q, l4, rfl, hq, h4⟩ := all2_cons h3
  obtain rfl := all2_nil h4
  obtain ⟨s, q, qs, rfl, c1, c2, c3⟩ := pa_sender ha
  obtain ⟨g, gs, rfl, b1, b2⟩ := pa_receiver hb
  obtain ⟨_, ps, _, rfl, d1, _⟩ := pa_packet hp
  obtain ⟨_, ps', _, rfl, e1, _⟩ := pa_packet hq
  obtain ⟨n, v, m', g, rfl⟩ := (repeated_run (ps := ps) (qs' := ps') c2 b1 c1 d1 e1 c3 b2).ex
  exact ⟨n, m', g⟩

set_option maxHeartbeats 1600000 in
set_option maxRecDepth 100000 in
theorem lifted6 (os : Os) (started : os.Started) (H : Type) (enc : TypeId × Value → H) :
    ReturnsInHanded {} Try.checked os 6 .any (Rows.linkRepeatedSpec.pre6 enc Try.prog Try.f6 Rows.linkRepeatedRow.domain false) (Rows.linkRepeatedSpec.post enc Try.prog Try.f6 false true false false) := by
  refine returnsInHanded_of_change (C := Try.checked) own started (by kernel_rfl) Try.func6
    (ChangeSpec.witness6 (enc := enc) (C := Try.checked) false ⟨#[], #[.agg #[.int .i64 0, .slice none 0 0], .agg #[.slice none 0 0], .agg #[.bool false, .int .i64 0, .int .i64 0], .agg #[.bool false, .int .i64 0, .int .i64 0]], []⟩ 8 (by kernel_rfl) (by kernel_rfl) (by kernel_rfl) (by kernel_rfl)) ?_
  intro W base args ds gs before hval hW _ _
  exact law_contract G2_ok kinds6 laid (by kernel_rfl) rfl (fun H ds hd => by
    match ds, hd with
    | [d1, d2, d3, d4], _ => rfl) rfl Try.underlying4 hval hW law6

theorem linkRepeated_holds : Rows.LinkRepeatedSaid :=
  OpenClaim.holds_of_wide 6 Try.f6 rfl rfl rfl rfl rfl rfl rfl ⟨rfl, rfl, rfl, rfl, rfl⟩ rfl rfl rfl rfl rfl (by kernel_rfl) Try.func6 (by kernel_rfl)
    (of_decide_eq_true (by kernel_rfl)) (by unfold Func.isWrapper; first | (rw [if_pos (by decide +kernel)]; kernel_rfl) | (rw [if_neg (by decide +kernel)]; exact ⟨rfl, rfl⟩))
    (fun os started H enc _ => lifted6 os started H enc)

#print axioms linkRepeated_holds
end Go.Proofs.Ytpddngcgajjacaa

set_option linter.unusedSimpArgs false
set_option linter.unusedVariables false
namespace Go.Proofs.Ytpddngcgajjacaa
open Go.Zz


theorem out_bad {Γ : Env} (h26 : Spec26 Γ) {s : Int} {q : AV} {qs : List Int} (hs : Γ.spec 14 = none) (hf : Γ.fn 14 = some ir14) (hq : IntS q qs) (h1 : I64 s) (hmax : qs.length < 9223372036854775808)
    (hb : ¬ (0 ≤ s ∧ s ≤ 1000 ∧ (qs.length : Int) ≤ 1000 - s)) :
    WF Γ (.func 14 [] []) [.agg [.int .i64 s, q]] ⟨[], []⟩ fun y m' => resV m'.heap y = some (.tuple [.snil, .int .i64 1]) := by
  obtain ⟨S, hS, h26⟩ := h26
  have h26' : ∀ m, S [.agg [.int .i64 s, q]] m = some (.bool false, m) := fun m => by rw [h26 s q qs m hq h1 hmax, decide_eq_false hb]
  refine WF.fn hs hf (by show 1 ≤ 34; decide) ?_
  unfold ir14
  simp only [padTo, List.replicate, List.nil_append, List.append_nil, List.cons_append]
  refine WC.seq (WC.region ?_)
  repeat (first
    | (refine WO.yes rfl ?_)
    | (refine WO.no rfl ?_; simp only [pt])
    | (refine WO.op (by intro; simp only [go_sem, Zz.look, fillP, over, cut]; rfl) ?_; simp only [pt])
    | (refine WO.opN (by intro; simp only [go_sem, Zz.look, storeAt, over, setBlk, cut]; rfl) ?_))
  refine WO.nil ?_
  simp only [Then]
  refine WC.seq (WC.seq (WC.region ?_))
  repeat (first
    | (refine WO.yes rfl ?_)
    | (refine WO.no rfl ?_; simp only [pt])
    | (refine WO.op (by intro; simp only [go_sem, Zz.look, fillP, over, cut]; rfl) ?_; simp only [pt])
    | (refine WO.opN (by intro; simp only [go_sem, Zz.look, storeAt, over, setBlk, cut]; rfl) ?_))
  refine WO.call rfl rfl (WF.spec hS (h26' _) ?_)
  simp only [pt]
  repeat (first
    | (refine WO.yes rfl ?_)
    | (refine WO.no rfl ?_; simp only [pt])
    | (refine WO.op (by intro; simp only [go_sem, Zz.look, fillP, over, cut]; rfl) ?_; simp only [pt])
    | (refine WO.opN (by intro; simp only [go_sem, Zz.look, storeAt, over, setBlk, cut]; rfl) ?_))
  refine WO.nil ?_
  simp only [Then]
  refine WC.yes rfl (WC.seq (WC.region ?_))
  repeat (first
    | (refine WO.yes rfl ?_)
    | (refine WO.no rfl ?_; simp only [pt])
    | (refine WO.op (by intro; simp only [go_sem, Zz.look, fillP, over, cut]; rfl) ?_; simp only [pt])
    | (refine WO.opN (by intro; simp only [go_sem, Zz.look, storeAt, over, setBlk, cut]; rfl) ?_))
  refine WO.nil ?_
  simp only [Then]
  exact WC.ret ⟨_, rfl, rfl⟩

/-- A packet, by value. -/
abbrev Pkt := Bool × Int × Int
def pk (p : Pkt) : List AV := [.bool p.1, .int .i64 p.2.1, .int .i64 p.2.2]
def PackS (x : AV) (ps : List Pkt) : Prop := (x = .snil ∧ ps = []) ∨ ∃ f, x = .sval f ps.length (ps.flatMap pk)
/-- What is sent. -/
def outs : Int → List Int → List Pkt
  | _, [] => []
  | s, b :: r => (false, s, b) :: outs (s + 1) r

theorem IntS.upto {x : AV} {xs : List Int} (h : IntS x xs) {n : Nat} (hn : n ≤ xs.length) : ∃ y, IntS y (xs.take n) ∧ ∀ H, sliceAV H 1 x none (some (.int .i64 (n : Int))) none = some y := by
  rcases h with ⟨rfl, rfl⟩ | ⟨full, rfl⟩
  · have : n = 0 := by simpa using hn
    subst this
    exact ⟨.snil, .inl ⟨rfl, rfl⟩, fun H => by simp [sliceAV, bnds, bndO, bnd]⟩
  · cases full
    · refine ⟨.sval false n ((xs.take n).map (.int .i64)), .inr ⟨false, by simp [Nat.min_eq_left hn]⟩, fun H => ?_⟩
      simp only [sliceAV, List.length_map, Nat.mul_one, if_true, bnds, bndO, bnd, Bool.false_eq_true, if_false, Option.getD_none, Option.getD_some]
      rw [if_pos ⟨by omega, by omega⟩]
      simp [List.map_take]
    · refine ⟨.sval (xs.length == n) n ((xs.take n).map (.int .i64)), .inr ⟨xs.length == n, by simp [Nat.min_eq_left hn]⟩, fun H => ?_⟩
      simp only [sliceAV, List.length_map, Nat.mul_one, if_true, bnds, bndO, bnd, Bool.false_eq_true, if_false, Option.getD_none, Option.getD_some]
      rw [if_pos ⟨by omega, by omega⟩]
      simp [List.map_take]

theorem minmax4 (n : Nat) : minmaxAV false [.int .i64 4, .int .i64 n] = some (.int .i64 (min 4 n : Nat)) := by
  simp only [minmaxAV, mmGo, if_true, Bool.false_eq_true, if_false]
  split <;> congr 2 <;> omega

theorem out_good {Γ : Env} (h26 : Spec26 Γ) {s : Int} {q : AV} {qs : List Int} (hs : Γ.spec 14 = none) (hf : Γ.fn 14 = some ir14) (hq : IntS q qs) (h1 : I64 s) (hmax : qs.length < 9223372036854775808)
    (hb : 0 ≤ s ∧ s ≤ 1000 ∧ (qs.length : Int) ≤ 1000 - s) :
    ∃ v, PackS v (outs s (qs.take (min 4 qs.length))) ∧ WF Γ (.func 14 [] []) [.agg [.int .i64 s, q]] ⟨[], []⟩ fun y m' => resV m'.heap y = some (.tuple [v, .int .i64 0]) := by
  obtain ⟨S, hS, h26⟩ := h26
  have h26' : ∀ m, S [.agg [.int .i64 s, q]] m = some (.bool true, m) := fun m => by rw [h26 s q qs m hq h1 hmax, decide_eq_true hb]
  have key : ∃ v, PackS v (outs s (qs.take (min 4 qs.length))) ∧ ∀ y, IntS y (qs.take (min 4 qs.length)) → (∀ H, sliceAV H 1 q none (some (.int .i64 (min 4 qs.length : Nat))) none = some y) → WF Γ (.func 14 [] []) [.agg [.int .i64 s, q]] ⟨[], []⟩ fun y m' => resV m'.heap y = some (.tuple [v, .int .i64 0]) := by
    have hlen : (qs.take (min 4 qs.length)).length = min 4 qs.length := by simp
    generalize hw : qs.take (min 4 qs.length) = w at hlen ⊢
    rw [← hlen]
    have hw4 : w.length ≤ 4 := by omega
    have w1 : IntKind.wrap .i64 (0 + 1) = 1 := rfl
    have w2 : IntKind.wrap .i64 (1 + 1) = 2 := rfl
    have w3 : IntKind.wrap .i64 (2 + 1) = 3 := rfl
    have w4 : IntKind.wrap .i64 (3 + 1) = 4 := rfl
    have s0 : IntKind.wrap .i64 (s + 0) = s := by rw [wrap_id (by omega) (by omega)]; omega
    have s1 : IntKind.wrap .i64 (s + 1) = s + 1 := wrap_id (by omega) (by omega)
    have s2 : IntKind.wrap .i64 (s + 2) = s + 1 + 1 := by rw [wrap_id (by omega) (by omega)]; omega
    have s3 : IntKind.wrap .i64 (s + 3) = s + 1 + 1 + 1 := by rw [wrap_id (by omega) (by omega)]; omega
    match w, hw4 with
    | [], _ =>
      refine ⟨.snil, .inl ⟨rfl, rfl⟩, fun y hy hsl => ?_⟩
      refine WF.fn hs hf (by show 1 ≤ 34; decide) ?_
      unfold ir14
      simp only [padTo, List.replicate, List.nil_append, List.append_nil, List.cons_append]
      refine WC.seq (WC.region ?_)
      repeat (first
        | (refine WO.yes rfl ?_)
        | (refine WO.no rfl ?_; simp only [pt])
        | (refine WO.op (by intro; simp only [go_sem, Zz.look, fillP, over, cut]; rfl) ?_; simp only [pt])
        | (refine WO.opN (by intro; simp only [go_sem, Zz.look, storeAt, over, setBlk, cut]; rfl) ?_))
      refine WO.nil ?_
      simp only [Then]
      refine WC.seq (WC.seq (WC.region ?_))
      repeat (first
        | (refine WO.yes rfl ?_)
        | (refine WO.no rfl ?_; simp only [pt])
        | (refine WO.op (by intro; simp only [go_sem, Zz.look, fillP, over, cut]; rfl) ?_; simp only [pt])
        | (refine WO.opN (by intro; simp only [go_sem, Zz.look, storeAt, over, setBlk, cut]; rfl) ?_))
      refine WO.call rfl rfl (WF.spec hS (h26' _) ?_)
      simp only [pt]
      repeat (first
        | (refine WO.yes rfl ?_)
        | (refine WO.no rfl ?_; simp only [pt])
        | (refine WO.op (by intro; simp only [go_sem, Zz.look, fillP, over, cut]; rfl) ?_; simp only [pt])
        | (refine WO.opN (by intro; simp only [go_sem, Zz.look, storeAt, over, setBlk, cut]; rfl) ?_))
      refine WO.nil ?_
      simp only [Then]
      refine WC.no rfl (WC.skip ?_)
      simp only [Then]
      refine WC.seq (WC.region ?_)
      repeat (first
        | (refine WO.yes rfl ?_)
        | (refine WO.no rfl ?_; simp only [pt])
        | (refine WO.op (by intro; simp only [go_sem, Zz.look, fillP, over, cut]; rfl) ?_; simp only [pt])
        | (refine WO.opN (by intro; simp only [go_sem, Zz.look, storeAt, over, setBlk, cut]; rfl) ?_))
      refine WO.nil ?_
      simp only [Then]
      refine WC.seq (WC.seq (WC.region ?_))
      repeat (first
        | (refine WO.yes rfl ?_)
        | (refine WO.no rfl ?_; simp only [pt])
        | (refine WO.op (by intro; simp only [go_sem, Zz.look, fillP, over, cut]; rfl) ?_; simp only [pt])
        | (refine WO.opN (by intro; simp only [go_sem, Zz.look, storeAt, over, setBlk, cut]; rfl) ?_))
      refine WO.op (by intro; exact ev_lenS (n := qs.length) (by simp only [go_sem]; exact hq.len)) ?_
      simp only [pt]
      refine WO.op (by intro; rw [ev_minmax]; simp only [go_sem, List.map]; rw [minmax4, ← hlen]; rfl) ?_
      simp only [pt]
      refine WO.op (by intro; rw [ev_slice]; simp only [go_sem, Option.map_none]; exact (congrArg (Option.map _) (hsl _)).trans rfl) ?_
      simp only [pt]
      refine WO.op (by intro; exact ev_lenS (n := 0) (by simp only [go_sem]; exact hy.len)) ?_
      simp only [pt]
      repeat (first
        | (refine WO.yes rfl ?_)
        | (refine WO.no rfl ?_; simp only [pt])
        | (refine WO.op (by intro; simp only [go_sem, Zz.look, fillP, over, cut]; rfl) ?_; simp only [pt])
        | (refine WO.opN (by intro; simp only [go_sem, Zz.look, storeAt, over, setBlk, cut]; rfl) ?_))
      refine WO.nil ?_
      simp only [Then]
      refine WC.block ?_
      refine WC.loop (WC.seq (WC.region ?_))
      repeat (first
        | (refine WO.yes rfl ?_)
        | (refine WO.no rfl ?_; simp only [pt])
        | (refine WO.op (by intro; simp only [go_sem, Zz.look, fillP, over, cut]; rfl) ?_; simp only [pt])
        | (refine WO.opN (by intro; simp only [go_sem, Zz.look, storeAt, over, setBlk, cut]; rfl) ?_))
      refine WO.nil ?_
      simp only [Then, Out]
      refine WC.seq (WC.no rfl (WC.exit ?_))
      simp only [Then, Out, if_true]
      refine WC.seq (WC.region ?_)
      repeat (first
        | (refine WO.yes rfl ?_)
        | (refine WO.no rfl ?_; simp only [pt])
        | (refine WO.op (by intro; simp only [go_sem, Zz.look, fillP, over, cut]; rfl) ?_; simp only [pt])
        | (refine WO.opN (by intro; simp only [go_sem, Zz.look, storeAt, over, setBlk, cut]; rfl) ?_))
      refine WO.nil ?_
      simp only [Then]
      exact WC.ret ⟨_, rfl, rfl⟩
    | [a], _ =>
      refine ⟨.sval false 1 ((outs s [a]).flatMap pk), .inr ⟨_, rfl⟩, fun y hy hsl => ?_⟩
      have hy2 : ∃ f, y = .sval f 1 ([.int .i64 a]) := by
        rcases hy with ⟨_, h⟩ | ⟨f, h⟩
        · cases h
        · exact ⟨f, h⟩
      obtain ⟨f, rfl⟩ := hy2
      refine WF.fn hs hf (by show 1 ≤ 34; decide) ?_
      unfold ir14
      simp only [padTo, List.replicate, List.nil_append, List.append_nil, List.cons_append]
      refine WC.seq (WC.region ?_)
      repeat (first
        | (refine WO.yes rfl ?_)
        | (refine WO.no rfl ?_; simp only [pt])
        | (refine WO.op (by intro; simp only [go_sem, Zz.look, fillP, over, cut]; rfl) ?_; simp only [pt])
        | (refine WO.opN (by intro; simp only [go_sem, Zz.look, storeAt, over, setBlk, cut]; rfl) ?_))
      refine WO.nil ?_
      simp only [Then]
      refine WC.seq (WC.seq (WC.region ?_))
      repeat (first
        | (refine WO.yes rfl ?_)
        | (refine WO.no rfl ?_; simp only [pt])
        | (refine WO.op (by intro; simp only [go_sem, Zz.look, fillP, over, cut]; rfl) ?_; simp only [pt])
        | (refine WO.opN (by intro; simp only [go_sem, Zz.look, storeAt, over, setBlk, cut]; rfl) ?_))
      refine WO.call rfl rfl (WF.spec hS (h26' _) ?_)
      simp only [pt]
      repeat (first
        | (refine WO.yes rfl ?_)
        | (refine WO.no rfl ?_; simp only [pt])
        | (refine WO.op (by intro; simp only [go_sem, Zz.look, fillP, over, cut]; rfl) ?_; simp only [pt])
        | (refine WO.opN (by intro; simp only [go_sem, Zz.look, storeAt, over, setBlk, cut]; rfl) ?_))
      refine WO.nil ?_
      simp only [Then]
      refine WC.no rfl (WC.skip ?_)
      simp only [Then]
      refine WC.seq (WC.region ?_)
      repeat (first
        | (refine WO.yes rfl ?_)
        | (refine WO.no rfl ?_; simp only [pt])
        | (refine WO.op (by intro; simp only [go_sem, Zz.look, fillP, over, cut]; rfl) ?_; simp only [pt])
        | (refine WO.opN (by intro; simp only [go_sem, Zz.look, storeAt, over, setBlk, cut]; rfl) ?_))
      refine WO.nil ?_
      simp only [Then]
      refine WC.seq (WC.seq (WC.region ?_))
      repeat (first
        | (refine WO.yes rfl ?_)
        | (refine WO.no rfl ?_; simp only [pt])
        | (refine WO.op (by intro; simp only [go_sem, Zz.look, fillP, over, cut]; rfl) ?_; simp only [pt])
        | (refine WO.opN (by intro; simp only [go_sem, Zz.look, storeAt, over, setBlk, cut]; rfl) ?_))
      refine WO.op (by intro; exact ev_lenS (n := qs.length) (by simp only [go_sem]; exact hq.len)) ?_
      simp only [pt]
      refine WO.op (by intro; rw [ev_minmax]; simp only [go_sem, List.map]; rw [minmax4, ← hlen]; rfl) ?_
      simp only [pt]
      refine WO.op (by intro; rw [ev_slice]; simp only [go_sem, Option.map_none]; exact (congrArg (Option.map _) (hsl _)).trans rfl) ?_
      simp only [pt]
      refine WO.op (by intro; exact ev_lenS (n := 1) (by simp only [go_sem]; exact rfl)) ?_
      simp only [pt]
      repeat (first
        | (refine WO.yes rfl ?_)
        | (refine WO.no rfl ?_; simp only [pt])
        | (refine WO.op (by intro; simp only [go_sem, Zz.look, fillP, over, cut]; rfl) ?_; simp only [pt])
        | (refine WO.opN (by intro; simp only [go_sem, Zz.look, storeAt, over, setBlk, cut]; rfl) ?_))
      refine WO.nil ?_
      simp only [Then]
      refine WC.block ?_
      refine WC.loop (WC.seq (WC.region ?_))
      repeat (first
        | (refine WO.yes rfl ?_)
        | (refine WO.no rfl ?_; simp only [pt])
        | (refine WO.op (by intro; simp only [go_sem, Zz.look, fillP, over, cut]; rfl) ?_; simp only [pt])
        | (refine WO.opN (by intro; simp only [go_sem, Zz.look, storeAt, over, setBlk, cut]; rfl) ?_))
      refine WO.nil ?_
      simp only [Then, Out]
      refine WC.seq (WC.yes rfl (WC.skip ?_))
      simp only [Then, Out]
      refine WC.seq (WC.block (WC.seq (WC.region ?_)))
      repeat (first
        | (refine WO.yes rfl ?_)
        | (refine WO.no rfl ?_; simp only [pt])
        | (refine WO.op (by intro; simp only [go_sem, Zz.look, fillP, over, cut, indexAddrAV, idx]; rfl) ?_; simp only [pt])
        | (refine WO.opN (by intro; simp only [go_sem, Zz.look, storeAt, over, setBlk, cut, indexAddrAV, idx]; rfl) ?_))
      refine WO.nil ?_
      simp only [Then, Out]
      refine WC.region ?_
      repeat (first
        | (refine WO.yes rfl ?_)
        | (refine WO.no rfl ?_; simp only [pt])
        | (refine WO.op (by intro; simp only [go_sem, Zz.look, fillP, over, cut, w1, w2, w3, w4, s0, s1, s2, s3]; rfl) ?_; simp only [pt])
        | (refine WO.opN (by intro; simp only [go_sem, Zz.look, storeAt, over, setBlk, cut, w1, w2, w3, w4, s0, s1, s2, s3]; rfl) ?_))
      refine WO.nil ?_
      simp only [Then, Out]
      refine WC.region ?_
      repeat (first
        | (refine WO.yes rfl ?_)
        | (refine WO.no rfl ?_; simp only [pt])
        | (refine WO.op (by intro; simp only [go_sem, Zz.look, fillP, over, cut, w1, w2, w3, w4]; rfl) ?_; simp only [pt])
        | (refine WO.opN (by intro; simp only [go_sem, Zz.look, storeAt, over, setBlk, cut, w1, w2, w3, w4]; rfl) ?_))
      refine WO.nil ?_
      simp only [Then, Out]
      refine WC.loop (WC.seq (WC.region ?_))
      repeat (first
        | (refine WO.yes rfl ?_)
        | (refine WO.no rfl ?_; simp only [pt])
        | (refine WO.op (by intro; simp only [go_sem, Zz.look, fillP, over, cut]; rfl) ?_; simp only [pt])
        | (refine WO.opN (by intro; simp only [go_sem, Zz.look, storeAt, over, setBlk, cut]; rfl) ?_))
      refine WO.nil ?_
      simp only [Then, Out]
      refine WC.seq (WC.no rfl (WC.exit ?_))
      simp only [Then, Out, if_true]
      refine WC.seq (WC.region ?_)
      repeat (first
        | (refine WO.yes rfl ?_)
        | (refine WO.no rfl ?_; simp only [pt])
        | (refine WO.op (by intro; simp only [go_sem, Zz.look, fillP, over, cut]; rfl) ?_; simp only [pt])
        | (refine WO.opN (by intro; simp only [go_sem, Zz.look, storeAt, over, setBlk, cut]; rfl) ?_))
      refine WO.nil ?_
      simp only [Then]
      exact WC.ret ⟨_, rfl, rfl⟩
    | [a, b], _ =>
      refine ⟨.sval false 2 ((outs s [a, b]).flatMap pk), .inr ⟨_, rfl⟩, fun y hy hsl => ?_⟩
      have hy2 : ∃ f, y = .sval f 2 ([.int .i64 a, .int .i64 b]) := by
        rcases hy with ⟨_, h⟩ | ⟨f, h⟩
        · cases h
        · exact ⟨f, h⟩
      obtain ⟨f, rfl⟩ := hy2
      refine WF.fn hs hf (by show 1 ≤ 34; decide) ?_
      unfold ir14
      simp only [padTo, List.replicate, List.nil_append, List.append_nil, List.cons_append]
      refine WC.seq (WC.region ?_)
      repeat (first
        | (refine WO.yes rfl ?_)
        | (refine WO.no rfl ?_; simp only [pt])
        | (refine WO.op (by intro; simp only [go_sem, Zz.look, fillP, over, cut]; rfl) ?_; simp only [pt])
        | (refine WO.opN (by intro; simp only [go_sem, Zz.look, storeAt, over, setBlk, cut]; rfl) ?_))
      refine WO.nil ?_
      simp only [Then]
      refine WC.seq (WC.seq (WC.region ?_))
      repeat (first
        | (refine WO.yes rfl ?_)
        | (refine WO.no rfl ?_; simp only [pt])
        | (refine WO.op (by intro; simp only [go_sem, Zz.look, fillP, over, cut]; rfl) ?_; simp only [pt])
        | (refine WO.opN (by intro; simp only [go_sem, Zz.look, storeAt, over, setBlk, cut]; rfl) ?_))
      refine WO.call rfl rfl (WF.spec hS (h26' _) ?_)
      simp only [pt]
      repeat (first
        | (refine WO.yes rfl ?_)
        | (refine WO.no rfl ?_; simp only [pt])
        | (refine WO.op (by intro; simp only [go_sem, Zz.look, fillP, over, cut]; rfl) ?_; simp only [pt])
        | (refine WO.opN (by intro; simp only [go_sem, Zz.look, storeAt, over, setBlk, cut]; rfl) ?_))
      refine WO.nil ?_
      simp only [Then]
      refine WC.no rfl (WC.skip ?_)
      simp only [Then]
      refine WC.seq (WC.region ?_)
      repeat (first
        | (refine WO.yes rfl ?_)
        | (refine WO.no rfl ?_; simp only [pt])
        | (refine WO.op (by intro; simp only [go_sem, Zz.look, fillP, over, cut]; rfl) ?_; simp only [pt])
        | (refine WO.opN (by intro; simp only [go_sem, Zz.look, storeAt, over, setBlk, cut]; rfl) ?_))
      refine WO.nil ?_
      simp only [Then]
      refine WC.seq (WC.seq (WC.region ?_))
      repeat (first
        | (refine WO.yes rfl ?_)
        | (refine WO.no rfl ?_; simp only [pt])
        | (refine WO.op (by intro; simp only [go_sem, Zz.look, fillP, over, cut]; rfl) ?_; simp only [pt])
        | (refine WO.opN (by intro; simp only [go_sem, Zz.look, storeAt, over, setBlk, cut]; rfl) ?_))
      refine WO.op (by intro; exact ev_lenS (n := qs.length) (by simp only [go_sem]; exact hq.len)) ?_
      simp only [pt]
      refine WO.op (by intro; rw [ev_minmax]; simp only [go_sem, List.map]; rw [minmax4, ← hlen]; rfl) ?_
      simp only [pt]
      refine WO.op (by intro; rw [ev_slice]; simp only [go_sem, Option.map_none]; exact (congrArg (Option.map _) (hsl _)).trans rfl) ?_
      simp only [pt]
      refine WO.op (by intro; exact ev_lenS (n := 2) (by simp only [go_sem]; exact rfl)) ?_
      simp only [pt]
      repeat (first
        | (refine WO.yes rfl ?_)
        | (refine WO.no rfl ?_; simp only [pt])
        | (refine WO.op (by intro; simp only [go_sem, Zz.look, fillP, over, cut]; rfl) ?_; simp only [pt])
        | (refine WO.opN (by intro; simp only [go_sem, Zz.look, storeAt, over, setBlk, cut]; rfl) ?_))
      refine WO.nil ?_
      simp only [Then]
      refine WC.block ?_
      refine WC.loop (WC.seq (WC.region ?_))
      repeat (first
        | (refine WO.yes rfl ?_)
        | (refine WO.no rfl ?_; simp only [pt])
        | (refine WO.op (by intro; simp only [go_sem, Zz.look, fillP, over, cut]; rfl) ?_; simp only [pt])
        | (refine WO.opN (by intro; simp only [go_sem, Zz.look, storeAt, over, setBlk, cut]; rfl) ?_))
      refine WO.nil ?_
      simp only [Then, Out]
      refine WC.seq (WC.yes rfl (WC.skip ?_))
      simp only [Then, Out]
      refine WC.seq (WC.block (WC.seq (WC.region ?_)))
      repeat (first
        | (refine WO.yes rfl ?_)
        | (refine WO.no rfl ?_; simp only [pt])
        | (refine WO.op (by intro; simp only [go_sem, Zz.look, fillP, over, cut, indexAddrAV, idx]; rfl) ?_; simp only [pt])
        | (refine WO.opN (by intro; simp only [go_sem, Zz.look, storeAt, over, setBlk, cut, indexAddrAV, idx]; rfl) ?_))
      refine WO.nil ?_
      simp only [Then, Out]
      refine WC.region ?_
      repeat (first
        | (refine WO.yes rfl ?_)
        | (refine WO.no rfl ?_; simp only [pt])
        | (refine WO.op (by intro; simp only [go_sem, Zz.look, fillP, over, cut, w1, w2, w3, w4, s0, s1, s2, s3]; rfl) ?_; simp only [pt])
        | (refine WO.opN (by intro; simp only [go_sem, Zz.look, storeAt, over, setBlk, cut, w1, w2, w3, w4, s0, s1, s2, s3]; rfl) ?_))
      refine WO.nil ?_
      simp only [Then, Out]
      refine WC.region ?_
      repeat (first
        | (refine WO.yes rfl ?_)
        | (refine WO.no rfl ?_; simp only [pt])
        | (refine WO.op (by intro; simp only [go_sem, Zz.look, fillP, over, cut, w1, w2, w3, w4]; rfl) ?_; simp only [pt])
        | (refine WO.opN (by intro; simp only [go_sem, Zz.look, storeAt, over, setBlk, cut, w1, w2, w3, w4]; rfl) ?_))
      refine WO.nil ?_
      simp only [Then, Out]
      refine WC.loop (WC.seq (WC.region ?_))
      repeat (first
        | (refine WO.yes rfl ?_)
        | (refine WO.no rfl ?_; simp only [pt])
        | (refine WO.op (by intro; simp only [go_sem, Zz.look, fillP, over, cut]; rfl) ?_; simp only [pt])
        | (refine WO.opN (by intro; simp only [go_sem, Zz.look, storeAt, over, setBlk, cut]; rfl) ?_))
      refine WO.nil ?_
      simp only [Then, Out]
      refine WC.seq (WC.yes rfl (WC.skip ?_))
      simp only [Then, Out]
      refine WC.seq (WC.block (WC.seq (WC.region ?_)))
      repeat (first
        | (refine WO.yes rfl ?_)
        | (refine WO.no rfl ?_; simp only [pt])
        | (refine WO.op (by intro; simp only [go_sem, Zz.look, fillP, over, cut, indexAddrAV, idx]; rfl) ?_; simp only [pt])
        | (refine WO.opN (by intro; simp only [go_sem, Zz.look, storeAt, over, setBlk, cut, indexAddrAV, idx]; rfl) ?_))
      refine WO.nil ?_
      simp only [Then, Out]
      refine WC.region ?_
      repeat (first
        | (refine WO.yes rfl ?_)
        | (refine WO.no rfl ?_; simp only [pt])
        | (refine WO.op (by intro; simp only [go_sem, Zz.look, fillP, over, cut, w1, w2, w3, w4, s0, s1, s2, s3]; rfl) ?_; simp only [pt])
        | (refine WO.opN (by intro; simp only [go_sem, Zz.look, storeAt, over, setBlk, cut, w1, w2, w3, w4, s0, s1, s2, s3]; rfl) ?_))
      refine WO.nil ?_
      simp only [Then, Out]
      refine WC.region ?_
      repeat (first
        | (refine WO.yes rfl ?_)
        | (refine WO.no rfl ?_; simp only [pt])
        | (refine WO.op (by intro; simp only [go_sem, Zz.look, fillP, over, cut, w1, w2, w3, w4]; rfl) ?_; simp only [pt])
        | (refine WO.opN (by intro; simp only [go_sem, Zz.look, storeAt, over, setBlk, cut, w1, w2, w3, w4]; rfl) ?_))
      refine WO.nil ?_
      simp only [Then, Out]
      refine WC.loop (WC.seq (WC.region ?_))
      repeat (first
        | (refine WO.yes rfl ?_)
        | (refine WO.no rfl ?_; simp only [pt])
        | (refine WO.op (by intro; simp only [go_sem, Zz.look, fillP, over, cut]; rfl) ?_; simp only [pt])
        | (refine WO.opN (by intro; simp only [go_sem, Zz.look, storeAt, over, setBlk, cut]; rfl) ?_))
      refine WO.nil ?_
      simp only [Then, Out]
      refine WC.seq (WC.no rfl (WC.exit ?_))
      simp only [Then, Out, if_true]
      refine WC.seq (WC.region ?_)
      repeat (first
        | (refine WO.yes rfl ?_)
        | (refine WO.no rfl ?_; simp only [pt])
        | (refine WO.op (by intro; simp only [go_sem, Zz.look, fillP, over, cut]; rfl) ?_; simp only [pt])
        | (refine WO.opN (by intro; simp only [go_sem, Zz.look, storeAt, over, setBlk, cut]; rfl) ?_))
      refine WO.nil ?_
      simp only [Then]
      exact WC.ret ⟨_, rfl, rfl⟩
    | [a, b, c], _ =>
      refine ⟨.sval false 3 ((outs s [a, b, c]).flatMap pk), .inr ⟨_, rfl⟩, fun y hy hsl => ?_⟩
      have hy2 : ∃ f, y = .sval f 3 ([.int .i64 a, .int .i64 b, .int .i64 c]) := by
        rcases hy with ⟨_, h⟩ | ⟨f, h⟩
        · cases h
        · exact ⟨f, h⟩
      obtain ⟨f, rfl⟩ := hy2
      refine WF.fn hs hf (by show 1 ≤ 34; decide) ?_
      unfold ir14
      simp only [padTo, List.replicate, List.nil_append, List.append_nil, List.cons_append]
      refine WC.seq (WC.region ?_)
      repeat (first
        | (refine WO.yes rfl ?_)
        | (refine WO.no rfl ?_; simp only [pt])
        | (refine WO.op (by intro; simp only [go_sem, Zz.look, fillP, over, cut]; rfl) ?_; simp only [pt])
        | (refine WO.opN (by intro; simp only [go_sem, Zz.look, storeAt, over, setBlk, cut]; rfl) ?_))
      refine WO.nil ?_
      simp only [Then]
      refine WC.seq (WC.seq (WC.region ?_))
      repeat (first
        | (refine WO.yes rfl ?_)
        | (refine WO.no rfl ?_; simp only [pt])
        | (refine WO.op (by intro; simp only [go_sem, Zz.look, fillP, over, cut]; rfl) ?_; simp only [pt])
        | (refine WO.opN (by intro; simp only [go_sem, Zz.look, storeAt, over, setBlk, cut]; rfl) ?_))
      refine WO.call rfl rfl (WF.spec hS (h26' _) ?_)
      simp only [pt]
      repeat (first
        | (refine WO.yes rfl ?_)
        | (refine WO.no rfl ?_; simp only [pt])
        | (refine WO.op (by intro; simp only [go_sem, Zz.look, fillP, over, cut]; rfl) ?_; simp only [pt])
        | (refine WO.opN (by intro; simp only [go_sem, Zz.look, storeAt, over, setBlk, cut]; rfl) ?_))
      refine WO.nil ?_
      simp only [Then]
      refine WC.no rfl (WC.skip ?_)
      simp only [Then]
      refine WC.seq (WC.region ?_)
      repeat (first
        | (refine WO.yes rfl ?_)
        | (refine WO.no rfl ?_; simp only [pt])
        | (refine WO.op (by intro; simp only [go_sem, Zz.look, fillP, over, cut]; rfl) ?_; simp only [pt])
        | (refine WO.opN (by intro; simp only [go_sem, Zz.look, storeAt, over, setBlk, cut]; rfl) ?_))
      refine WO.nil ?_
      simp only [Then]
      refine WC.seq (WC.seq (WC.region ?_))
      repeat (first
        | (refine WO.yes rfl ?_)
        | (refine WO.no rfl ?_; simp only [pt])
        | (refine WO.op (by intro; simp only [go_sem, Zz.look, fillP, over, cut]; rfl) ?_; simp only [pt])
        | (refine WO.opN (by intro; simp only [go_sem, Zz.look, storeAt, over, setBlk, cut]; rfl) ?_))
      refine WO.op (by intro; exact ev_lenS (n := qs.length) (by simp only [go_sem]; exact hq.len)) ?_
      simp only [pt]
      refine WO.op (by intro; rw [ev_minmax]; simp only [go_sem, List.map]; rw [minmax4, ← hlen]; rfl) ?_
      simp only [pt]
      refine WO.op (by intro; rw [ev_slice]; simp only [go_sem, Option.map_none]; exact (congrArg (Option.map _) (hsl _)).trans rfl) ?_
      simp only [pt]
      refine WO.op (by intro; exact ev_lenS (n := 3) (by simp only [go_sem]; exact rfl)) ?_
      simp only [pt]
      repeat (first
        | (refine WO.yes rfl ?_)
        | (refine WO.no rfl ?_; simp only [pt])
        | (refine WO.op (by intro; simp only [go_sem, Zz.look, fillP, over, cut]; rfl) ?_; simp only [pt])
        | (refine WO.opN (by intro; simp only [go_sem, Zz.look, storeAt, over, setBlk, cut]; rfl) ?_))
      refine WO.nil ?_
      simp only [Then]
      refine WC.block ?_
      refine WC.loop (WC.seq (WC.region ?_))
      repeat (first
        | (refine WO.yes rfl ?_)
        | (refine WO.no rfl ?_; simp only [pt])
        | (refine WO.op (by intro; simp only [go_sem, Zz.look, fillP, over, cut]; rfl) ?_; simp only [pt])
        | (refine WO.opN (by intro; simp only [go_sem, Zz.look, storeAt, over, setBlk, cut]; rfl) ?_))
      refine WO.nil ?_
      simp only [Then, Out]
      refine WC.seq (WC.yes rfl (WC.skip ?_))
      simp only [Then, Out]
      refine WC.seq (WC.block (WC.seq (WC.region ?_)))
      repeat (first
        | (refine WO.yes rfl ?_)
        | (refine WO.no rfl ?_; simp only [pt])
        | (refine WO.op (by intro; simp only [go_sem, Zz.look, fillP, over, cut, indexAddrAV, idx]; rfl) ?_; simp only [pt])
        | (refine WO.opN (by intro; simp only [go_sem, Zz.look, storeAt, over, setBlk, cut, indexAddrAV, idx]; rfl) ?_))
      refine WO.nil ?_
      simp only [Then, Out]
      refine WC.region ?_
      repeat (first
        | (refine WO.yes rfl ?_)
        | (refine WO.no rfl ?_; simp only [pt])
        | (refine WO.op (by intro; simp only [go_sem, Zz.look, fillP, over, cut, w1, w2, w3, w4, s0, s1, s2, s3]; rfl) ?_; simp only [pt])
        | (refine WO.opN (by intro; simp only [go_sem, Zz.look, storeAt, over, setBlk, cut, w1, w2, w3, w4, s0, s1, s2, s3]; rfl) ?_))
      refine WO.nil ?_
      simp only [Then, Out]
      refine WC.region ?_
      repeat (first
        | (refine WO.yes rfl ?_)
        | (refine WO.no rfl ?_; simp only [pt])
        | (refine WO.op (by intro; simp only [go_sem, Zz.look, fillP, over, cut, w1, w2, w3, w4]; rfl) ?_; simp only [pt])
        | (refine WO.opN (by intro; simp only [go_sem, Zz.look, storeAt, over, setBlk, cut, w1, w2, w3, w4]; rfl) ?_))
      refine WO.nil ?_
      simp only [Then, Out]
      refine WC.loop (WC.seq (WC.region ?_))
      repeat (first
        | (refine WO.yes rfl ?_)
        | (refine WO.no rfl ?_; simp only [pt])
        | (refine WO.op (by intro; simp only [go_sem, Zz.look, fillP, over, cut]; rfl) ?_; simp only [pt])
        | (refine WO.opN (by intro; simp only [go_sem, Zz.look, storeAt, over, setBlk, cut]; rfl) ?_))
      refine WO.nil ?_
      simp only [Then, Out]
      refine WC.seq (WC.yes rfl (WC.skip ?_))
      simp only [Then, Out]
      refine WC.seq (WC.block (WC.seq (WC.region ?_)))
      repeat (first
        | (refine WO.yes rfl ?_)
        | (refine WO.no rfl ?_; simp only [pt])
        | (refine WO.op (by intro; simp only [go_sem, Zz.look, fillP, over, cut, indexAddrAV, idx]; rfl) ?_; simp only [pt])
        | (refine WO.opN (by intro; simp only [go_sem, Zz.look, storeAt, over, setBlk, cut, indexAddrAV, idx]; rfl) ?_))
      refine WO.nil ?_
      simp only [Then, Out]
      refine WC.region ?_
      repeat (first
        | (refine WO.yes rfl ?_)
        | (refine WO.no rfl ?_; simp only [pt])
        | (refine WO.op (by intro; simp only [go_sem, Zz.look, fillP, over, cut, w1, w2, w3, w4, s0, s1, s2, s3]; rfl) ?_; simp only [pt])
        | (refine WO.opN (by intro; simp only [go_sem, Zz.look, storeAt, over, setBlk, cut, w1, w2, w3, w4, s0, s1, s2, s3]; rfl) ?_))
      refine WO.nil ?_
      simp only [Then, Out]
      refine WC.region ?_
      repeat (first
        | (refine WO.yes rfl ?_)
        | (refine WO.no rfl ?_; simp only [pt])
        | (refine WO.op (by intro; simp only [go_sem, Zz.look, fillP, over, cut, w1, w2, w3, w4]; rfl) ?_; simp only [pt])
        | (refine WO.opN (by intro; simp only [go_sem, Zz.look, storeAt, over, setBlk, cut, w1, w2, w3, w4]; rfl) ?_))
      refine WO.nil ?_
      simp only [Then, Out]
      refine WC.loop (WC.seq (WC.region ?_))
      repeat (first
        | (refine WO.yes rfl ?_)
        | (refine WO.no rfl ?_; simp only [pt])
        | (refine WO.op (by intro; simp only [go_sem, Zz.look, fillP, over, cut]; rfl) ?_; simp only [pt])
        | (refine WO.opN (by intro; simp only [go_sem, Zz.look, storeAt, over, setBlk, cut]; rfl) ?_))
      refine WO.nil ?_
      simp only [Then, Out]
      refine WC.seq (WC.yes rfl (WC.skip ?_))
      simp only [Then, Out]
      refine WC.seq (WC.block (WC.seq (WC.region ?_)))
      repeat (first
        | (refine WO.yes rfl ?_)
        | (refine WO.no rfl ?_; simp only [pt])
        | (refine WO.op (by intro; simp only [go_sem, Zz.look, fillP, over, cut, indexAddrAV, idx]; rfl) ?_; simp only [pt])
        | (refine WO.opN (by intro; simp only [go_sem, Zz.look, storeAt, over, setBlk, cut, indexAddrAV, idx]; rfl) ?_))
      refine WO.nil ?_
      simp only [Then, Out]
      refine WC.region ?_
      repeat (first
        | (refine WO.yes rfl ?_)
        | (refine WO.no rfl ?_; simp only [pt])
        | (refine WO.op (by intro; simp only [go_sem, Zz.look, fillP, over, cut, w1, w2, w3, w4, s0, s1, s2, s3]; rfl) ?_; simp only [pt])
        | (refine WO.opN (by intro; simp only [go_sem, Zz.look, storeAt, over, setBlk, cut, w1, w2, w3, w4, s0, s1, s2, s3]; rfl) ?_))
      refine WO.nil ?_
      simp only [Then, Out]
      refine WC.region ?_
      repeat (first
        | (refine WO.yes rfl ?_)
        | (refine WO.no rfl ?_; simp only [pt])
        | (refine WO.op (by intro; simp only [go_sem, Zz.look, fillP, over, cut, w1, w2, w3, w4]; rfl) ?_; simp only [pt])
        | (refine WO.opN (by intro; simp only [go_sem, Zz.look, storeAt, over, setBlk, cut, w1, w2, w3, w4]; rfl) ?_))
      refine WO.nil ?_
      simp only [Then, Out]
      refine WC.loop (WC.seq (WC.region ?_))
      repeat (first
        | (refine WO.yes rfl ?_)
        | (refine WO.no rfl ?_; simp only [pt])
        | (refine WO.op (by intro; simp only [go_sem, Zz.look, fillP, over, cut]; rfl) ?_; simp only [pt])
        | (refine WO.opN (by intro; simp only [go_sem, Zz.look, storeAt, over, setBlk, cut]; rfl) ?_))
      refine WO.nil ?_
      simp only [Then, Out]
      refine WC.seq (WC.no rfl (WC.exit ?_))
      simp only [Then, Out, if_true]
      refine WC.seq (WC.region ?_)
      repeat (first
        | (refine WO.yes rfl ?_)
        | (refine WO.no rfl ?_; simp only [pt])
        | (refine WO.op (by intro; simp only [go_sem, Zz.look, fillP, over, cut]; rfl) ?_; simp only [pt])
        | (refine WO.opN (by intro; simp only [go_sem, Zz.look, storeAt, over, setBlk, cut]; rfl) ?_))
      refine WO.nil ?_
      simp only [Then]
      exact WC.ret ⟨_, rfl, rfl⟩
    | [a, b, c, d], _ =>
      refine ⟨.sval false 4 ((outs s [a, b, c, d]).flatMap pk), .inr ⟨_, rfl⟩, fun y hy hsl => ?_⟩
      have hy2 : ∃ f, y = .sval f 4 ([.int .i64 a, .int .i64 b, .int .i64 c, .int .i64 d]) := by
        rcases hy with ⟨_, h⟩ | ⟨f, h⟩
        · cases h
        · exact ⟨f, h⟩
      obtain ⟨f, rfl⟩ := hy2
      refine WF.fn hs hf (by show 1 ≤ 34; decide) ?_
      unfold ir14
      simp only [padTo, List.replicate, List.nil_append, List.append_nil, List.cons_append]
      refine WC.seq (WC.region ?_)
      repeat (first
        | (refine WO.yes rfl ?_)
        | (refine WO.no rfl ?_; simp only [pt])
        | (refine WO.op (by intro; simp only [go_sem, Zz.look, fillP, over, cut]; rfl) ?_; simp only [pt])
        | (refine WO.opN (by intro; simp only [go_sem, Zz.look, storeAt, over, setBlk, cut]; rfl) ?_))
      refine WO.nil ?_
      simp only [Then]
      refine WC.seq (WC.seq (WC.region ?_))
      repeat (first
        | (refine WO.yes rfl ?_)
        | (refine WO.no rfl ?_; simp only [pt])
        | (refine WO.op (by intro; simp only [go_sem, Zz.look, fillP, over, cut]; rfl) ?_; simp only [pt])
        | (refine WO.opN (by intro; simp only [go_sem, Zz.look, storeAt, over, setBlk, cut]; rfl) ?_))
      refine WO.call rfl rfl (WF.spec hS (h26' _) ?_)
      simp only [pt]
      repeat (first
        | (refine WO.yes rfl ?_)
        | (refine WO.no rfl ?_; simp only [pt])
        | (refine WO.op (by intro; simp only [go_sem, Zz.look, fillP, over, cut]; rfl) ?_; simp only [pt])
        | (refine WO.opN (by intro; simp only [go_sem, Zz.look, storeAt, over, setBlk, cut]; rfl) ?_))
      refine WO.nil ?_
      simp only [Then]
      refine WC.no rfl (WC.skip ?_)
      simp only [Then]
      refine WC.seq (WC.region ?_)
      repeat (first
        | (refine WO.yes rfl ?_)
        | (refine WO.no rfl ?_; simp only [pt])
        | (refine WO.op (by intro; simp only [go_sem, Zz.look, fillP, over, cut]; rfl) ?_; simp only [pt])
        | (refine WO.opN (by intro; simp only [go_sem, Zz.look, storeAt, over, setBlk, cut]; rfl) ?_))
      refine WO.nil ?_
      simp only [Then]
      refine WC.seq (WC.seq (WC.region ?_))
      repeat (first
        | (refine WO.yes rfl ?_)
        | (refine WO.no rfl ?_; simp only [pt])
        | (refine WO.op (by intro; simp only [go_sem, Zz.look, fillP, over, cut]; rfl) ?_; simp only [pt])
        | (refine WO.opN (by intro; simp only [go_sem, Zz.look, storeAt, over, setBlk, cut]; rfl) ?_))
      refine WO.op (by intro; exact ev_lenS (n := qs.length) (by simp only [go_sem]; exact hq.len)) ?_
      simp only [pt]
      refine WO.op (by intro; rw [ev_minmax]; simp only [go_sem, List.map]; rw [minmax4, ← hlen]; rfl) ?_
      simp only [pt]
      refine WO.op (by intro; rw [ev_slice]; simp only [go_sem, Option.map_none]; exact (congrArg (Option.map _) (hsl _)).trans rfl) ?_
      simp only [pt]
      refine WO.op (by intro; exact ev_lenS (n := 4) (by simp only [go_sem]; exact rfl)) ?_
      simp only [pt]
      repeat (first
        | (refine WO.yes rfl ?_)
        | (refine WO.no rfl ?_; simp only [pt])
        | (refine WO.op (by intro; simp only [go_sem, Zz.look, fillP, over, cut]; rfl) ?_; simp only [pt])
        | (refine WO.opN (by intro; simp only [go_sem, Zz.look, storeAt, over, setBlk, cut]; rfl) ?_))
      refine WO.nil ?_
      simp only [Then]
      refine WC.block ?_
      refine WC.loop (WC.seq (WC.region ?_))
      repeat (first
        | (refine WO.yes rfl ?_)
        | (refine WO.no rfl ?_; simp only [pt])
        | (refine WO.op (by intro; simp only [go_sem, Zz.look, fillP, over, cut]; rfl) ?_; simp only [pt])
        | (refine WO.opN (by intro; simp only [go_sem, Zz.look, storeAt, over, setBlk, cut]; rfl) ?_))
      refine WO.nil ?_
      simp only [Then, Out]
      refine WC.seq (WC.yes rfl (WC.skip ?_))
      simp only [Then, Out]
      refine WC.seq (WC.block (WC.seq (WC.region ?_)))
      repeat (first
        | (refine WO.yes rfl ?_)
        | (refine WO.no rfl ?_; simp only [pt])
        | (refine WO.op (by intro; simp only [go_sem, Zz.look, fillP, over, cut, indexAddrAV, idx]; rfl) ?_; simp only [pt])
        | (refine WO.opN (by intro; simp only [go_sem, Zz.look, storeAt, over, setBlk, cut, indexAddrAV, idx]; rfl) ?_))
      refine WO.nil ?_
      simp only [Then, Out]
      refine WC.region ?_
      repeat (first
        | (refine WO.yes rfl ?_)
        | (refine WO.no rfl ?_; simp only [pt])
        | (refine WO.op (by intro; simp only [go_sem, Zz.look, fillP, over, cut, w1, w2, w3, w4, s0, s1, s2, s3]; rfl) ?_; simp only [pt])
        | (refine WO.opN (by intro; simp only [go_sem, Zz.look, storeAt, over, setBlk, cut, w1, w2, w3, w4, s0, s1, s2, s3]; rfl) ?_))
      refine WO.nil ?_
      simp only [Then, Out]
      refine WC.region ?_
      repeat (first
        | (refine WO.yes rfl ?_)
        | (refine WO.no rfl ?_; simp only [pt])
        | (refine WO.op (by intro; simp only [go_sem, Zz.look, fillP, over, cut, w1, w2, w3, w4]; rfl) ?_; simp only [pt])
        | (refine WO.opN (by intro; simp only [go_sem, Zz.look, storeAt, over, setBlk, cut, w1, w2, w3, w4]; rfl) ?_))
      refine WO.nil ?_
      simp only [Then, Out]
      refine WC.loop (WC.seq (WC.region ?_))
      repeat (first
        | (refine WO.yes rfl ?_)
        | (refine WO.no rfl ?_; simp only [pt])
        | (refine WO.op (by intro; simp only [go_sem, Zz.look, fillP, over, cut]; rfl) ?_; simp only [pt])
        | (refine WO.opN (by intro; simp only [go_sem, Zz.look, storeAt, over, setBlk, cut]; rfl) ?_))
      refine WO.nil ?_
      simp only [Then, Out]
      refine WC.seq (WC.yes rfl (WC.skip ?_))
      simp only [Then, Out]
      refine WC.seq (WC.block (WC.seq (WC.region ?_)))
      repeat (first
        | (refine WO.yes rfl ?_)
        | (refine WO.no rfl ?_; simp only [pt])
        | (refine WO.op (by intro; simp only [go_sem, Zz.look, fillP, over, cut, indexAddrAV, idx]; rfl) ?_; simp only [pt])
        | (refine WO.opN (by intro; simp only [go_sem, Zz.look, storeAt, over, setBlk, cut, indexAddrAV, idx]; rfl) ?_))
      refine WO.nil ?_
      simp only [Then, Out]
      refine WC.region ?_
      repeat (first
        | (refine WO.yes rfl ?_)
        | (refine WO.no rfl ?_; simp only [pt])
        | (refine WO.op (by intro; simp only [go_sem, Zz.look, fillP, over, cut, w1, w2, w3, w4, s0, s1, s2, s3]; rfl) ?_; simp only [pt])
        | (refine WO.opN (by intro; simp only [go_sem, Zz.look, storeAt, over, setBlk, cut, w1, w2, w3, w4, s0, s1, s2, s3]; rfl) ?_))
      refine WO.nil ?_
      simp only [Then, Out]
      refine WC.region ?_
      repeat (first
        | (refine WO.yes rfl ?_)
        | (refine WO.no rfl ?_; simp only [pt])
        | (refine WO.op (by intro; simp only [go_sem, Zz.look, fillP, over, cut, w1, w2, w3, w4]; rfl) ?_; simp only [pt])
        | (refine WO.opN (by intro; simp only [go_sem, Zz.look, storeAt, over, setBlk, cut, w1, w2, w3, w4]; rfl) ?_))
      refine WO.nil ?_
      simp only [Then, Out]
      refine WC.loop (WC.seq (WC.region ?_))
      repeat (first
        | (refine WO.yes rfl ?_)
        | (refine WO.no rfl ?_; simp only [pt])
        | (refine WO.op (by intro; simp only [go_sem, Zz.look, fillP, over, cut]; rfl) ?_; simp only [pt])
        | (refine WO.opN (by intro; simp only [go_sem, Zz.look, storeAt, over, setBlk, cut]; rfl) ?_))
      refine WO.nil ?_
      simp only [Then, Out]
      refine WC.seq (WC.yes rfl (WC.skip ?_))
      simp only [Then, Out]
      refine WC.seq (WC.block (WC.seq (WC.region ?_)))
      repeat (first
        | (refine WO.yes rfl ?_)
        | (refine WO.no rfl ?_; simp only [pt])
        | (refine WO.op (by intro; simp only [go_sem, Zz.look, fillP, over, cut, indexAddrAV, idx]; rfl) ?_; simp only [pt])
        | (refine WO.opN (by intro; simp only [go_sem, Zz.look, storeAt, over, setBlk, cut, indexAddrAV, idx]; rfl) ?_))
      refine WO.nil ?_
      simp only [Then, Out]
      refine WC.region ?_
      repeat (first
        | (refine WO.yes rfl ?_)
        | (refine WO.no rfl ?_; simp only [pt])
        | (refine WO.op (by intro; simp only [go_sem, Zz.look, fillP, over, cut, w1, w2, w3, w4, s0, s1, s2, s3]; rfl) ?_; simp only [pt])
        | (refine WO.opN (by intro; simp only [go_sem, Zz.look, storeAt, over, setBlk, cut, w1, w2, w3, w4, s0, s1, s2, s3]; rfl) ?_))
      refine WO.nil ?_
      simp only [Then, Out]
      refine WC.region ?_
      repeat (first
        | (refine WO.yes rfl ?_)
        | (refine WO.no rfl ?_; simp only [pt])
        | (refine WO.op (by intro; simp only [go_sem, Zz.look, fillP, over, cut, w1, w2, w3, w4]; rfl) ?_; simp only [pt])
        | (refine WO.opN (by intro; simp only [go_sem, Zz.look, storeAt, over, setBlk, cut, w1, w2, w3, w4]; rfl) ?_))
      refine WO.nil ?_
      simp only [Then, Out]
      refine WC.loop (WC.seq (WC.region ?_))
      repeat (first
        | (refine WO.yes rfl ?_)
        | (refine WO.no rfl ?_; simp only [pt])
        | (refine WO.op (by intro; simp only [go_sem, Zz.look, fillP, over, cut]; rfl) ?_; simp only [pt])
        | (refine WO.opN (by intro; simp only [go_sem, Zz.look, storeAt, over, setBlk, cut]; rfl) ?_))
      refine WO.nil ?_
      simp only [Then, Out]
      refine WC.seq (WC.yes rfl (WC.skip ?_))
      simp only [Then, Out]
      refine WC.seq (WC.block (WC.seq (WC.region ?_)))
      repeat (first
        | (refine WO.yes rfl ?_)
        | (refine WO.no rfl ?_; simp only [pt])
        | (refine WO.op (by intro; simp only [go_sem, Zz.look, fillP, over, cut, indexAddrAV, idx]; rfl) ?_; simp only [pt])
        | (refine WO.opN (by intro; simp only [go_sem, Zz.look, storeAt, over, setBlk, cut, indexAddrAV, idx]; rfl) ?_))
      refine WO.nil ?_
      simp only [Then, Out]
      refine WC.region ?_
      repeat (first
        | (refine WO.yes rfl ?_)
        | (refine WO.no rfl ?_; simp only [pt])
        | (refine WO.op (by intro; simp only [go_sem, Zz.look, fillP, over, cut, w1, w2, w3, w4, s0, s1, s2, s3]; rfl) ?_; simp only [pt])
        | (refine WO.opN (by intro; simp only [go_sem, Zz.look, storeAt, over, setBlk, cut, w1, w2, w3, w4, s0, s1, s2, s3]; rfl) ?_))
      refine WO.nil ?_
      simp only [Then, Out]
      refine WC.region ?_
      repeat (first
        | (refine WO.yes rfl ?_)
        | (refine WO.no rfl ?_; simp only [pt])
        | (refine WO.op (by intro; simp only [go_sem, Zz.look, fillP, over, cut, w1, w2, w3, w4]; rfl) ?_; simp only [pt])
        | (refine WO.opN (by intro; simp only [go_sem, Zz.look, storeAt, over, setBlk, cut, w1, w2, w3, w4]; rfl) ?_))
      refine WO.nil ?_
      simp only [Then, Out]
      refine WC.loop (WC.seq (WC.region ?_))
      repeat (first
        | (refine WO.yes rfl ?_)
        | (refine WO.no rfl ?_; simp only [pt])
        | (refine WO.op (by intro; simp only [go_sem, Zz.look, fillP, over, cut]; rfl) ?_; simp only [pt])
        | (refine WO.opN (by intro; simp only [go_sem, Zz.look, storeAt, over, setBlk, cut]; rfl) ?_))
      refine WO.nil ?_
      simp only [Then, Out]
      refine WC.seq (WC.no rfl (WC.exit ?_))
      simp only [Then, Out, if_true]
      refine WC.seq (WC.region ?_)
      repeat (first
        | (refine WO.yes rfl ?_)
        | (refine WO.no rfl ?_; simp only [pt])
        | (refine WO.op (by intro; simp only [go_sem, Zz.look, fillP, over, cut]; rfl) ?_; simp only [pt])
        | (refine WO.opN (by intro; simp only [go_sem, Zz.look, storeAt, over, setBlk, cut]; rfl) ?_))
      refine WO.nil ?_
      simp only [Then]
      exact WC.ret ⟨_, rfl, rfl⟩
    | _ :: _ :: _ :: _ :: _ :: _, h => exact absurd h (by simp)
  obtain ⟨v, hv, h⟩ := key
  obtain ⟨y, hy, hsl⟩ := hq.upto (n := min 4 qs.length) (by omega)
  exact ⟨v, hv, h y hy hsl⟩
end Go.Proofs.Ytpddngcgajjacaa

set_option linter.unusedSimpArgs false
set_option linter.unusedVariables false
namespace Go.Proofs.Ytpddngcgajjacaa
open Go.Zz


def pcells (ps : List Pkt) : List AV := ps.flatMap pk
theorem pk_len (p : Pkt) : (pk p).length = 3 := rfl
theorem pcells_len : ∀ ps : List Pkt, (pcells ps).length = ps.length * 3
  | [] => rfl
  | p :: ps => by
    have := pcells_len ps
    simp only [pcells, List.flatMap_cons, List.length_append, pk_len, List.length_cons] at this ⊢
    omega
theorem pcells_append (a b : List Pkt) : pcells (a ++ b) = pcells a ++ pcells b := by simp [pcells]
theorem pcells_take : ∀ (i : Nat) (ps : List Pkt), (pcells ps).take (i * 3) = pcells (ps.take i)
  | 0, ps => by simp [pcells]
  | i + 1, [] => by simp [pcells]
  | i + 1, p :: ps => by
    have e : (i + 1) * 3 = (pk p).length + i * 3 := by simp only [pk_len]; omega
    have := pcells_take i ps
    simp only [pcells, List.flatMap_cons, List.take_succ_cons] at this ⊢
    rw [e, List.take_length_add_append, this]
theorem pcells_drop : ∀ (i : Nat) (ps : List Pkt), (pcells ps).drop (i * 3) = pcells (ps.drop i)
  | 0, ps => by simp [pcells]
  | i + 1, [] => by simp [pcells]
  | i + 1, p :: ps => by
    have e : (i + 1) * 3 = (pk p).length + i * 3 := by simp only [pk_len]; omega
    have := pcells_drop i ps
    simp only [pcells, List.flatMap_cons, List.drop_succ_cons] at this ⊢
    rw [e, List.drop_length_add_append, this]

/-- What is under way, in its own memory. -/
def QS (n0 : Nat) (H : Hp) (x : AV) (ps : List Pkt) : Prop :=
  (x = .snil ∧ ps = []) ∨ ∃ f g rest, x = .sref f g 0 3 ps.length none ∧ n0 ≤ f ∧ Zz.look H f g = some (pcells ps ++ rest)

section
variable {H : Hp} {L : List (Option ALoop)} {f g n i : Nat} {l : List AV}

theorem sl_check (hi : i < n) : ∃ v, sliceAV H 3 (.sref f g 0 3 n none) (some (.int .i64 i)) (some (.int .i64 (i + 1 : Nat))) (some (.int .i64 n)) = some v := by
  simp only [sliceAV, if_true, bnds, bndO, bnd, Option.isNone_none, Option.isSome_some, Bool.and_self, Option.getD_none]
  have hk : n ≤ kcap H 3 f g 0 n := by unfold kcap; split <;> omega
  rw [if_pos ⟨by omega, by omega⟩]
  simp only [Int.toNat_natCast]
  rw [if_pos ⟨by omega, by omega⟩]
  simp only [Int.toNat_natCast]
  rw [if_pos ⟨by omega, by omega⟩]
  exact ⟨_, rfl⟩

theorem sl_front (hi : i ≤ n) : sliceAV H 3 (.sref f g 0 3 n none) none (some (.int .i64 i)) none = some (.sref f g 0 3 i none) := by
  simp only [sliceAV, if_true, bnds, bndO, bnd, Option.isNone_none, Option.isSome_some, Bool.and_self, Option.getD_none]
  have hk : n ≤ kcap H 3 f g 0 n := by unfold kcap; split <;> omega
  rw [if_pos ⟨by omega, by omega⟩]
  simp

/-- The cells of the rest. -/
theorem sl_back (hl : Zz.look H f g = some l) (hn : n * 3 ≤ l.length) (hi : i < n) : ∃ v, sliceAV H 3 (.sref f g 0 3 n none) (some (.int .i64 (i + 1 : Nat))) none none = some v ∧ slen v = some (n - (i + 1)) ∧ scells H 3 v = some ((l.drop ((i + 1) * 3)).take ((n - (i + 1)) * 3)) := by
  simp only [sliceAV, if_true, bnds, bndO, bnd, Option.isNone_none, Option.isSome_none, Bool.and_false, Bool.false_eq_true, if_false, Option.getD_none]
  rw [if_pos ⟨by omega, by omega⟩]
  simp only [Int.toNat_natCast, Option.bind_some]
  rw [if_neg (by omega)]
  by_cases h0 : n - (i + 1) = 0
  · rw [if_pos h0]
    refine ⟨_, rfl, by simp [slen, h0], ?_⟩
    simp [scells, h0]
  · rw [if_neg h0]
    refine ⟨_, rfl, rfl, ?_⟩
    simp only [scells, if_true, hl, Option.bind_some, cut, Nat.zero_add]
    rw [if_pos (by omega)]

theorem app_back {v : AV} {xs : List AV} (hl : Zz.look H f g = some l) (hn : n * 3 ≤ l.length) (hi : i < n) (hv : slen v = some (n - (i + 1))) (hc : scells H 3 v = some xs) (hx : xs.length = (n - (i + 1)) * 3) :
    appendAV 3 24 ⟨H, L⟩ (.sref f g 0 3 i none) v = some (.sref f g 0 3 (n - 1) none, ⟨H.set f (some ⟨g, l.take (i * 3) ++ xs ++ l.drop ((n - 1) * 3)⟩), L⟩) := by
  simp only [appendAV, hv, hc, Option.bind_eq_bind, Option.bind_some, if_true, hl, cut, Nat.zero_add]
  rw [if_pos (by omega)]
  simp only [Option.bind_some]
  rw [if_pos (by omega)]
  simp only [storeAt, hl, Option.bind_eq_bind, Option.bind_some, over]
  rw [if_pos (by omega)]
  simp only [Option.bind_some, setBlk]
  have e1 : i + (n - (i + 1)) = n - 1 := by omega
  have e2 : i * 3 + xs.length = (n - 1) * 3 := by omega
  rw [e1, e2]

theorem sl_tail (hl : Zz.look H f g = some l) (hn : n * 3 ≤ l.length) (h0 : 0 < n) : ∃ v, sliceAV H 3 (.sref f g 0 3 (n - 1) none) (some (.int .i64 (n - 1 : Nat))) (some (.int .i64 n)) none = some v ∧
    ∀ z : List AV, z.length = 3 → clearAV z ⟨H, L⟩ v = some ⟨H.set f (some ⟨g, l.take ((n - 1) * 3) ++ z ++ l.drop (n * 3)⟩), L⟩ := by
  simp only [sliceAV, if_true, bnds, bndO, bnd, Option.isNone_none, Option.isSome_some, Bool.and_self, Option.getD_none]
  have hk : n ≤ kcap H 3 f g 0 (n - 1) := by unfold kcap; rw [hl]; simp only [Nat.sub_zero]; omega
  rw [if_pos ⟨by omega, by omega⟩]
  simp only [Int.toNat_natCast]
  rw [if_pos ⟨by omega, by omega⟩]
  simp only [Int.toNat_natCast, Option.bind_some]
  have key : ∀ off, off = (n - 1) * 3 → ∀ z : List AV, z.length = 3 → (storeAt H f g off (zeros z 1)).map (fun H => (⟨H, L⟩ : Mem)) = some ⟨H.set f (some ⟨g, l.take ((n - 1) * 3) ++ z ++ l.drop (n * 3)⟩), L⟩ := by
    intro off ho z hz
    subst ho
    simp only [storeAt, hl, Option.bind_eq_bind, Option.bind_some, over, zeros, List.append_nil]
    rw [if_pos (by omega)]
    simp only [Option.bind_some, Option.map_some, setBlk]
    rw [show (n - 1) * 3 + z.length = n * 3 by omega]
  by_cases h1 : n - 1 = 0
  · rw [if_pos h1]
    refine ⟨_, rfl, fun z hz => ?_⟩
    have : n = 1 := by omega
    subst this
    simp only [clearAV]
    rw [if_neg (by omega)]
    exact key 0 rfl z hz
  · rw [if_neg h1, if_neg (by omega)]
    refine ⟨_, rfl, fun z hz => ?_⟩
    simp only [clearAV]
    rw [if_neg (by omega), show n - (n - 1) = 1 by omega]
    exact key _ (by omega) z hz
end
end Go.Proofs.Ytpddngcgajjacaa

set_option linter.unusedSimpArgs false
set_option linter.unusedVariables false
namespace Go.Proofs.Ytpddngcgajjacaa
open Go.Zz


section
variable {Γ : Env} {H : Hp} {L : List (Option ALoop)} {n0 : Nat}

theorem del_run (hs : Γ.spec 42 = none) (hf : Γ.fn 42 = some ir42) {f g i : Nat} {ps : List Pkt} {rest : List AV} (hl : Zz.look H f g = some (pcells ps ++ rest)) (hi : i < ps.length) :
    WF Γ (.func 42 [] []) [.sref f g 0 3 ps.length none, .int .i64 i, .int .i64 (i + 1 : Nat)] ⟨H, L⟩ fun y m' => y = .sref f g 0 3 (ps.length - 1) none ∧ ∃ rest', m' = ⟨H.set f (some ⟨g, pcells (ps.eraseIdx i) ++ rest'⟩), L⟩ := by
  generalize hn : ps.length = n at hi ⊢
  have hlen : n * 3 ≤ (pcells ps ++ rest).length := by rw [List.length_append, pcells_len]; omega
  obtain ⟨v13, e13⟩ := sl_check (H := H) (f := f) (g := g) hi
  have e22 := sl_front (H := H) (f := f) (g := g) (Nat.le_of_lt hi)
  obtain ⟨v25, e25, s25, c25⟩ := sl_back hl hlen hi
  have eapp := app_back (L := L) hl hlen hi s25 c25 (by rw [List.length_take, List.length_drop]; omega)
  have hf0 := look_lt hl
  obtain ⟨b0, hb0⟩ := look_some hl
  generalize hl1 : (pcells ps ++ rest).take (i * 3) ++ ((pcells ps ++ rest).drop ((i + 1) * 3)).take ((n - (i + 1)) * 3) ++ (pcells ps ++ rest).drop ((n - 1) * 3) = l1 at eapp
  have hlook1 : Zz.look (H.set f (some ⟨g, l1⟩)) f g = some l1 := look_set hf0
  have hlen1 : n * 3 ≤ l1.length := by
    rw [← hl1]
    simp only [List.length_append, List.length_take, List.length_drop] at hlen ⊢
    omega
  obtain ⟨v31, e31, ecl⟩ := sl_tail (L := L) hlook1 hlen1 (by omega)
  have hcl := ecl [.bool false, .int .i64 0, .int .i64 0] rfl
  have hne : ((i : Int) == ((i + 1 : Nat) : Int)) = false := by simp; omega
  refine WF.fn hs hf (by show 3 ≤ 33; decide) ?_
  unfold ir42
  simp only [padTo, List.replicate, List.nil_append, List.append_nil, List.cons_append]
  refine WC.seq (WC.region ?_)
  repeat (first
    | (refine WO.yes rfl ?_)
    | (refine WO.no rfl ?_; simp only [pt])
    | (refine WO.op (by intro; simp only [go_sem, Zz.look, fillP, over, cut]; rfl) ?_; simp only [pt])
    | (refine WO.opN (by intro; simp only [go_sem, Zz.look, storeAt, over, setBlk, cut]; rfl) ?_))
  refine WO.nil ?_
  simp only [Then]
  refine WC.seq (WC.region ?_)
  refine WO.op (by intro; simp only [go_sem]; rfl) ?_
  simp only [pt]
  refine WO.op (by intro; simp only [go_sem]; rfl) ?_
  simp only [pt]
  refine WO.op (by intro; simp only [go_sem]; rfl) ?_
  simp only [pt]
  refine WO.op (by intro; simp only [go_sem]; rfl) ?_
  simp only [pt]
  refine WO.op (by intro; exact ev_lenS (n := n) (by simp only [go_sem]; exact rfl)) ?_
  simp only [pt]
  refine WO.op (by intro; rw [ev_slice]; simp only [go_sem]; exact (congrArg (Option.map _) e13).trans rfl) ?_
  simp only [pt]
  refine WO.nil ?_
  simp only [Then]
  refine WC.seq (WC.seq (WC.region ?_))
  repeat (first
    | (refine WO.yes rfl ?_)
    | (refine WO.no rfl ?_; simp only [pt])
    | (refine WO.op (by intro; simp only [go_sem, Zz.look, fillP, over, cut]; rfl) ?_; simp only [pt])
    | (refine WO.opN (by intro; simp only [go_sem, Zz.look, storeAt, over, setBlk, cut]; rfl) ?_))
  refine WO.nil ?_
  simp only [Then]
  refine WC.no (by simp only [go_sem, hne]) (WC.skip ?_)
  simp only [Then]
  refine WC.seq (WC.region ?_)
  refine WO.op (by intro; simp only [go_sem]; rfl) ?_
  simp only [pt]
  refine WO.op (by intro; exact ev_lenS (n := n) (by simp only [go_sem]; exact rfl)) ?_
  simp only [pt]
  repeat (first
    | (refine WO.yes rfl ?_)
    | (refine WO.no rfl ?_; simp only [pt])
    | (refine WO.op (by intro; simp only [go_sem, Zz.look, fillP, over, cut]; rfl) ?_; simp only [pt])
    | (refine WO.opN (by intro; simp only [go_sem, Zz.look, storeAt, over, setBlk, cut]; rfl) ?_))
  refine WO.nil ?_
  simp only [Then]
  refine WC.seq (WC.draw ?_)
  refine WD.calm (a := [⟨⟨none, some 20, .move (.tmp 0)⟩, []⟩, ⟨⟨none, some 21, .move (.tmp 1)⟩, []⟩, ⟨⟨none, some 22, .slice 3 (.tmp 20) none (some (.tmp 21)) none⟩, []⟩, ⟨⟨none, some 23, .move (.tmp 0)⟩, []⟩, ⟨⟨none, some 24, .move (.tmp 2)⟩, []⟩, ⟨⟨none, some 25, .slice 3 (.tmp 23) (some (.tmp 24)) none none⟩, []⟩]) rfl ?_
  simp only [List.map]
  refine WO.op (by intro; simp only [go_sem]; rfl) ?_
  simp only [pt]
  refine WO.op (by intro; simp only [go_sem]; rfl) ?_
  simp only [pt]
  refine WO.op (by intro; rw [ev_slice]; simp only [go_sem]; exact (congrArg (Option.map _) e22).trans rfl) ?_
  simp only [pt]
  refine WO.op (by intro; simp only [go_sem]; rfl) ?_
  simp only [pt]
  refine WO.op (by intro; simp only [go_sem]; rfl) ?_
  simp only [pt]
  refine WO.op (by intro; rw [ev_slice]; simp only [go_sem]; exact (congrArg (Option.map _) e25).trans rfl) ?_
  simp only [pt]
  refine WO.nil ?_
  intro seen
  refine WD.plain rfl rfl (by intro; rw [ev_append]; simp only [go_sem]; exact eapp) (by have := dead_setS (b := ⟨g, l1⟩) hb0 []; simpa using this) ?_
  intro seen2
  simp only [St.put, pt]
  refine WD.free rfl (by intro; simp only [go_sem]; rfl) ?_
  simp only [pt]
  refine WD.nil ?_
  simp only [Then]
  refine WC.seq (WC.region ?_)
  refine WO.op (by intro; simp only [go_sem]; rfl) ?_
  simp only [pt]
  refine WO.op (by intro; simp only [go_sem]; rfl) ?_
  simp only [pt]
  refine WO.op (by intro; exact ev_lenS (n := n - 1) (by simp only [go_sem]; exact rfl)) ?_
  simp only [pt]
  refine WO.op (by intro; simp only [go_sem]; rfl) ?_
  simp only [pt]
  refine WO.op (by intro; rw [ev_slice]; simp only [go_sem]; exact (congrArg (Option.map _) e31).trans rfl) ?_
  simp only [pt]
  refine WO.opN (by intro; rw [ev_clear]; simp only [go_sem]; exact (congrArg (Option.map _) hcl).trans rfl) ?_
  refine WO.nil ?_
  simp only [Then]
  refine WC.seq (WC.region ?_)
  repeat (first
    | (refine WO.yes rfl ?_)
    | (refine WO.no rfl ?_; simp only [pt])
    | (refine WO.op (by intro; simp only [go_sem, Zz.look, fillP, over, cut]; rfl) ?_; simp only [pt])
    | (refine WO.opN (by intro; simp only [go_sem, Zz.look, storeAt, over, setBlk, cut]; rfl) ?_))
  refine WO.nil ?_
  simp only [Then]
  refine WC.ret ⟨_, rfl, rfl, [.bool false, .int .i64 0, .int .i64 0] ++ rest, ?_⟩
  simp only [St.mem, List.set_set, Mem.mk.injEq, and_true]
  congr 3
  rw [← hl1]
  have hA : (pcells ps).length = n * 3 := by rw [pcells_len, hn]
  have e1 : (pcells ps ++ rest).take (i * 3) = pcells (ps.take i) := by
    rw [List.take_append_of_le_length (by omega), pcells_take]
  have e2 : ((pcells ps ++ rest).drop ((i + 1) * 3)).take ((n - (i + 1)) * 3) = pcells (ps.drop (i + 1)) := by
    rw [List.drop_append_of_le_length (by omega), List.take_append_of_le_length (by rw [List.length_drop]; omega), pcells_drop, List.take_of_length_le]
    rw [pcells_len, List.length_drop]; omega
  have e3 : (pcells ps ++ rest).drop ((n - 1) * 3) = (pcells ps).drop ((n - 1) * 3) ++ rest := List.drop_append_of_le_length (by omega)
  rw [e1, e2, e3, ← pcells_append]
  have e4 : ps.take i ++ ps.drop (i + 1) = ps.eraseIdx i := (List.eraseIdx_eq_take_drop_succ ps i).symm
  rw [e4]
  have hB : (pcells (ps.eraseIdx i)).length = (n - 1) * 3 := by rw [pcells_len, List.length_eraseIdx_of_lt (by omega), hn]
  have hB2 : ((pcells ps).drop ((n - 1) * 3)).length = 3 := by rw [List.length_drop]; omega
  rw [List.take_append_of_le_length (by omega), List.take_of_length_le (by omega), List.drop_append, List.drop_of_length_le (by omega), List.drop_append, List.drop_of_length_le (by omega)]
  have e5 : n * 3 - (pcells (ps.eraseIdx i)).length - ((pcells ps).drop ((n - 1) * 3)).length = 0 := by omega
  rw [e5]
  simp

theorem put_some (hs : Γ.spec 40 = none) (hf : Γ.fn 40 = some ir40) {r o f g : Nat} {C : List AV} {ps qs : List Pkt} {rest : List AV} {x : AV} (hC : Zz.look H r 0 = some C) (ho : C[o]? = some (.sref f g 0 3 ps.length none)) (hl : Zz.look H f g = some (pcells ps ++ rest)) (hfr : f ≠ r)
    (hx : slen x = some qs.length) (hc : scells H 3 x = some (pcells qs)) (hmax : ps.length + qs.length ≤ 1000000) :
    WF Γ (.func 40 [] []) [.pref r 0 o, x] ⟨H, L⟩ fun y m' => ∃ g' rest', m' = ⟨(H.set f (some ⟨g', pcells (ps ++ qs) ++ rest'⟩)).set r (some ⟨0, C.set o (.sref f g' 0 3 (ps.length + qs.length) none)⟩), L⟩ := by
  have hf0 := look_lt hl
  have hr0 := look_lt hC
  have hoC : o < C.length := (List.getElem?_eq_some_iff.1 ho).1
  have hlen : (pcells ps).length = ps.length * 3 := pcells_len ps
  have hq : (pcells qs).length = qs.length * 3 := pcells_len qs
  have eapp : ∃ g' rest', appendAV 3 24 ⟨H, L⟩ (.sref f g 0 3 ps.length none) x = some (.sref f g' 0 3 (ps.length + qs.length) none, ⟨H.set f (some ⟨g', pcells (ps ++ qs) ++ rest'⟩), L⟩) := by
    simp only [appendAV, hx, hc, Option.bind_eq_bind, Option.bind_some, if_true, hl, cut, Nat.zero_add, List.length_append]
    rw [if_pos (by omega)]
    simp only [Option.bind_some]
    by_cases h : (ps.length + qs.length) * 3 ≤ (pcells ps).length + rest.length
    · rw [if_pos h]
      simp only [storeAt, hl, Option.bind_eq_bind, Option.bind_some, over, List.length_append]
      rw [if_pos (by omega)]
      simp only [Option.bind_some, setBlk]
      refine ⟨g, (pcells ps ++ rest).drop (ps.length * 3 + (pcells qs).length), ?_⟩
      rw [← hlen, List.take_left, pcells_append]
    · rw [if_neg h, if_pos (by omega)]
      refine ⟨g + 1, [], ?_⟩
      simp only [setBlk, List.drop_zero, List.append_nil, pcells_append]
      rw [← hlen, List.take_left]
  obtain ⟨g', rest', eapp⟩ := eapp
  have hC2 : Zz.look (H.set f (some ⟨g', pcells (ps ++ qs) ++ rest'⟩)) r 0 = some C := by rw [← hC]; exact look_of_get (List.getElem?_set_ne hfr)
  have hov := over_one (x := AV.sref f g' 0 3 (ps.length + qs.length) none) hoC
  refine WF.fn hs hf (by show 2 ≤ 13; decide) ?_
  unfold ir40
  simp only [padTo, List.replicate, List.nil_append, List.append_nil, List.cons_append]
  refine WC.region ?_
  repeat (first
    | (refine WO.yes rfl ?_)
    | (refine WO.no rfl ?_; simp only [pt])
    | (refine WO.op (by intro; simp only [go_sem, fillP, over, cut, nilCheckAV, hC, ho]; rfl) ?_; simp only [pt])
    | (refine WO.opN (by intro; simp only [go_sem, storeAt, Option.bind_eq_bind, over, setBlk, cut, hC, ho]; rfl) ?_))
  refine WO.op (by intro; rw [ev_append]; simp only [go_sem]; exact eapp) ?_
  simp only [pt]
  refine WO.op (by intro; simp only [go_sem, nilCheckAV]; rfl) ?_
  simp only [pt]
  refine WO.op (by intro; simp only [go_sem, nilCheckAV]; rfl) ?_
  simp only [pt]
  refine WO.opN (by intro; rw [ev_store]; simp only [go_sem, storeAt, hC2, hov, Option.bind_eq_bind]; rfl) ?_
  refine WO.nil ?_
  refine ⟨_, rfl, g', rest', ?_⟩
  rfl
end
end Go.Proofs.Ytpddngcgajjacaa

set_option linter.unusedSimpArgs false
set_option linter.unusedVariables false
namespace Go.Proofs.Ytpddngcgajjacaa
open Go.Zz


/-- The slice lies in this block. -/
def owns (x : AV) (id : Nat) : Prop := ∃ g o s n c, x = .sref id g o s n c

theorem owns_sref {f g o s n : Nat} {c : Option Nat} {id : Nat} (h : owns (.sref f g o s n c) id) : id = f := by
  obtain ⟨_, _, _, _, _, e⟩ := h
  cases e; rfl
theorem owns_mk {f g o s n : Nat} {c : Option Nat} : owns (.sref f g o s n c) f := ⟨_, _, _, _, _, rfl⟩
theorem owns_snil {id : Nat} (h : owns .snil id) : False := by
  obtain ⟨_, _, _, _, _, e⟩ := h
  cases e

section
variable {Γ : Env} {H : Hp} {L : List (Option ALoop)} {n0 : Nat}

/-- What a turn at a queue leaves. -/
structure QStep (n0 : Nat) (H H' : Hp) (r o : Nat) (C : List AV) (it it' : AV) (ps' : List Pkt) : Prop where
  at_ : Zz.look H' r 0 = some (C.set o it')
  qs : QS n0 H' it' ps'
  own : ∀ id, owns it' id → owns it id ∨ H.length ≤ id
  same : Same H H' H.length (fun id => id = r ∨ owns it id)

theorem put_run (hs : Γ.spec 40 = none) (hf : Γ.fn 40 = some ir40) {r o : Nat} {C : List AV} {ps qs : List Pkt} {it x : AV} (hC : Zz.look H r 0 = some C) (ho : C[o]? = some it) (hq : QS n0 H it ps) (hr : r < n0) (hn0 : n0 ≤ H.length)
    (hx : slen x = some qs.length) (hc : scells H 3 x = some (pcells qs)) (hmax : ps.length + qs.length ≤ 1000000) :
    WF Γ (.func 40 [] []) [.pref r 0 o, x] ⟨H, L⟩ fun y m' => m'.loops = L ∧ ∃ it', QStep n0 H m'.heap r o C it it' (ps ++ qs) := by
  have hr0 := look_lt hC
  obtain ⟨br, hbr⟩ := look_some hC
  have hoC : o < C.length := (List.getElem?_eq_some_iff.1 ho).1
  rcases hq with ⟨rfl, rfl⟩ | ⟨f, g, rest, rfl, hfn, hl⟩
  · have hq : (pcells qs).length = qs.length * 3 := pcells_len qs
    have key : ∀ it' R, appendAV 3 24 ⟨H, L⟩ .snil x = some (it', ⟨H ++ R, L⟩) → WF Γ (.func 40 [] []) [.pref r 0 o, x] ⟨H, L⟩ fun y m' => m' = ⟨(H ++ R).set r (some ⟨0, C.set o it'⟩), L⟩ := by
      intro it' R eapp
      have hC2 : Zz.look (H ++ R) r 0 = some C := by rw [look_left hr0]; exact hC
      have hsc : it'.cells = some [it'] := by
        simp only [appendAV, hx, hc, Option.bind_eq_bind, Option.bind_some] at eapp
        split at eapp
        · simp only [Option.some.injEq, Prod.mk.injEq] at eapp; rw [← eapp.1]; rfl
        · split at eapp
          · simp only [Option.some.injEq, Prod.mk.injEq] at eapp; rw [← eapp.1]; rfl
          · cases eapp
      have hov := over_one (x := it') hoC
      refine WF.fn hs hf (by show 2 ≤ 13; decide) ?_
      unfold ir40
      simp only [padTo, List.replicate, List.nil_append, List.append_nil, List.cons_append]
      refine WC.region ?_
      repeat (first
        | (refine WO.yes rfl ?_)
        | (refine WO.no rfl ?_; simp only [pt])
        | (refine WO.op (by intro; simp only [go_sem, fillP, over, cut, nilCheckAV, hC, ho]; rfl) ?_; simp only [pt])
        | (refine WO.opN (by intro; simp only [go_sem, storeAt, Option.bind_eq_bind, over, setBlk, cut, hC, ho]; rfl) ?_))
      refine WO.op (by intro; rw [ev_append]; simp only [go_sem]; exact eapp) ?_
      simp only [pt]
      refine WO.op (by intro; simp only [go_sem, nilCheckAV]; rfl) ?_
      simp only [pt]
      refine WO.op (by intro; simp only [go_sem, nilCheckAV]; rfl) ?_
      simp only [pt]
      refine WO.opN (by intro; rw [ev_store]; simp only [Opd.ev, gt, hsc, storeAt, hC2, hov, Option.bind_eq_bind, Option.bind_some, List.length_cons, List.length_nil, Nat.zero_add, if_true, Option.map_some, setBlk]; rfl) ?_
      refine WO.nil ?_
      exact ⟨_, rfl, rfl⟩
    by_cases h0 : qs.length = 0
    · have e : qs = [] := List.eq_nil_of_length_eq_zero h0
      subst e
      refine (key .snil [] ?_).mono fun y m' e => ?_
      · simp only [appendAV, hx, hc, Option.bind_eq_bind, Option.bind_some, List.length_nil, if_true, List.append_nil]
      · subst e
        refine ⟨rfl, .snil, ?_, .inl ⟨rfl, rfl⟩, fun id h => absurd h owns_snil, ?_⟩
        · simp only [List.append_nil]; exact look_set hr0
        · simp only [List.append_nil]; exact Same.setL (.inl rfl) hbr
    · refine (key (.sref H.length 0 0 3 qs.length none) [some (Blk.mk 0 (pcells qs))] ?_).mono fun y m' e => ?_
      · simp only [appendAV, hx, hc, Option.bind_eq_bind, Option.bind_some]
        rw [if_neg h0, if_pos (by simp only [List.length_nil] at hmax; omega)]
        rfl
      · subst e
        have hr1 : r < (H ++ [some (Blk.mk 0 (pcells qs))]).length := by simp; omega
        refine ⟨rfl, .sref H.length 0 0 3 qs.length none, look_set hr1, .inr ⟨H.length, 0, [], rfl, hn0, ?_⟩, fun id h => .inr (by rw [owns_sref h]; exact Nat.le_refl _), ?_⟩
        · rw [show Zz.look (List.set (H ++ [some (Blk.mk 0 (pcells qs))]) r (some ⟨0, C.set o (.sref H.length 0 0 3 qs.length none)⟩)) H.length 0 = Zz.look (H ++ [some (Blk.mk 0 (pcells qs))]) H.length 0 from look_of_get (List.getElem?_set_ne (by omega)), look_right0]
          simp [Zz.look]
        · have s1 : Same H (H ++ [some (Blk.mk 0 (pcells qs))]) H.length (fun id => id = r ∨ owns .snil id) := Same.app _
          exact s1.trans (Same.setL (.inl rfl) (by rw [List.getElem?_append_left hr0]; exact hbr))
  · have hfr : f ≠ r := by omega
    obtain ⟨bf, hbf⟩ := look_some hl
    have hf0 := look_lt hl
    refine (put_some (L := L) hs hf hC ho hl hfr hx hc hmax).mono ?_
    rintro y m' ⟨g', rest', rfl⟩
    refine ⟨rfl, .sref f g' 0 3 (ps.length + qs.length) none, look_set (by simpa using hr0), .inr ⟨f, g', rest', by simp, hfn, ?_⟩, fun id h => .inl (by rw [owns_sref h]; exact owns_mk), ?_⟩
    · rw [show Zz.look (List.set (H.set f (some ⟨g', pcells (ps ++ qs) ++ rest'⟩)) r (some ⟨0, C.set o (.sref f g' 0 3 (ps.length + qs.length) none)⟩)) f g' = Zz.look (H.set f (some ⟨g', pcells (ps ++ qs) ++ rest'⟩)) f g' from look_of_get (List.getElem?_set_ne (Ne.symm hfr)), look_set hf0]
    · exact Same.trans (Same.setL (.inr owns_mk) hbf) (Same.setL (.inl rfl) (by rw [List.getElem?_set_ne hfr]; exact hbr))
end
end Go.Proofs.Ytpddngcgajjacaa

set_option linter.unusedSimpArgs false
set_option linter.unusedVariables false
namespace Go.Proofs.Ytpddngcgajjacaa
open Go.Zz


section
variable {Γ : Env} {H : Hp} {L : List (Option ALoop)} {n0 : Nat}

theorem pcells_at {ps : List Pkt} {rest : List AV} {i : Nat} (hi : i < ps.length) : ((pcells ps ++ rest).drop (i * 3)).take 3 = pk ps[i] := by
  rw [List.drop_append_of_le_length (by rw [pcells_len]; omega), pcells_drop, List.take_append_of_le_length (by rw [pcells_len, List.length_drop]; omega), List.drop_eq_getElem_cons hi]
  rfl

theorem look3 {X : Hp} {a b c : Option Blk} {n : Nat} (h : X.length = n) : Zz.look (X ++ [a, b, c]) n 0 = Zz.look [a, b, c] 0 0 ∧ Zz.look (X ++ [a, b, c]) (n + 2) 0 = Zz.look [a, b, c] 2 0 := by
  subst h
  exact ⟨look_right0, look_right⟩
theorem set3 {X : Hp} {a b c d : Option Blk} {n : Nat} (h : X.length = n) : (X ++ [a, b, c]).set n d = X ++ [d, b, c] ∧ (X ++ [a, b, c]).set (n + 2) d = X ++ [a, b, d] := by
  subst h
  constructor
  · rw [List.set_append_right (h := Nat.le_refl _)]; simp
  · rw [List.set_append_right (h := by omega)]; simp

theorem at_none (hs : Γ.spec 34 = none) (hf : Γ.fn 34 = some ir34) {r o pl : Nat} {C : List AV} {it : AV} {stays : Bool} (hC : Zz.look H r 0 = some C) (ho : C[o]? = some it) (hq : QS n0 H it []) :
    WF Γ (.func 34 [] []) [.pref r 0 o, .int .i64 pl, .bool stays] ⟨H, L⟩ fun y m' => y = .tuple [.agg [.bool false, .int .i64 0, .int .i64 0], .bool false] ∧ ∃ R, m' = ⟨H ++ R, L⟩ := by
  have hr0 := look_lt hC
  have hC2 : ∀ R, Zz.look (H ++ R) r 0 = some C := fun R => by rw [look_left hr0]; exact hC
  have hlen : slen it = some 0 := by rcases hq with ⟨rfl, _⟩ | ⟨f, g, rest, rfl, _⟩ <;> rfl
  refine WF.fn hs hf (by show 3 ≤ 46; decide) ?_
  unfold ir34
  simp only [padTo, List.replicate, List.nil_append, List.append_nil, List.cons_append]
  refine WC.seq (WC.region ?_)
  repeat (first
    | (refine WO.yes rfl ?_)
    | (refine WO.no rfl ?_; simp only [pt])
    | (refine WO.op (by intro; simp only [go_sem, fillP, over, cut, nilCheckAV]; rfl) ?_; simp only [pt])
    | (refine WO.op (by intro; exact ev_lenS rfl) ?_; simp only [pt])
    | (refine WO.opN (by intro; simp only [go_sem, storeAt, Option.bind_eq_bind, over, setBlk, cut]; rfl) ?_))
  refine WO.nil ?_
  simp only [Then]
  refine WC.seq (WC.region ?_)
  repeat (first
    | (refine WO.yes rfl ?_)
    | (refine WO.no rfl ?_; simp only [pt])
    | (refine WO.op (by intro; simp only [go_sem, fillP, over, cut, nilCheckAV]; rfl) ?_; simp only [pt])
    | (refine WO.op (by intro; exact ev_lenS rfl) ?_; simp only [pt])
    | (refine WO.opN (by intro; simp only [go_sem, storeAt, Option.bind_eq_bind, over, setBlk, cut]; rfl) ?_))
  refine WO.nil ?_
  simp only [Then]
  refine WC.seq (WC.seq (WC.region ?_))
  simp only [List.append_assoc, List.cons_append, List.nil_append, List.length_append, List.length_cons, List.length_nil, Nat.zero_add]
  repeat (first
    | (refine WO.yes rfl ?_)
    | (refine WO.no rfl ?_; simp only [pt])
    | (refine WO.op (by intro; simp only [go_sem, fillP, over, cut, nilCheckAV, hC2, ho]; rfl) ?_; simp only [pt])
    | (refine WO.op (by intro; exact ev_lenS rfl) ?_; simp only [pt])
    | (refine WO.opN (by intro; simp only [go_sem, storeAt, Option.bind_eq_bind, over, setBlk, cut, hC2, ho]; rfl) ?_))
  refine WO.op (by intro; exact ev_lenS (n := 0) (by simp only [go_sem]; exact hlen)) ?_
  simp only [pt]
  repeat (first
    | (refine WO.yes rfl ?_)
    | (refine WO.no rfl ?_; simp only [pt])
    | (refine WO.op (by intro; simp only [go_sem, fillP, over, cut, nilCheckAV]; rfl) ?_; simp only [pt])
    | (refine WO.op (by intro; exact ev_lenS rfl) ?_; simp only [pt])
    | (refine WO.opN (by intro; simp only [go_sem, storeAt, Option.bind_eq_bind, over, setBlk, cut]; rfl) ?_))
  refine WO.nil ?_
  simp only [Then]
  refine WC.yes rfl (WC.seq (WC.region ?_))
  have e1 : Zz.look (H ++ [some (Blk.mk 0 [.bool false, .int .i64 0, .int .i64 0]), some (Blk.mk 0 [.bool false, .int .i64 0, .int .i64 0])]) (H.length + 1) 0 = some [.bool false, .int .i64 0, .int .i64 0] := by rw [look_right]; rfl
  have e2 : Zz.look (H ++ [some (Blk.mk 0 [.bool false, .int .i64 0, .int .i64 0]), some (Blk.mk 0 [.bool false, .int .i64 0, .int .i64 0])]) H.length 0 = some [.bool false, .int .i64 0, .int .i64 0] := by rw [look_right0]; rfl
  refine WO.op (by intro; rw [ev_load]; simp only [go_sem, e1, cut]; rfl) ?_
  simp only [pt]
  refine WO.opN (by intro; rw [ev_store]; simp only [go_sem, storeAt, Option.bind_eq_bind, e2, over]; rfl) ?_
  repeat (first
    | (refine WO.yes rfl ?_)
    | (refine WO.no rfl ?_; simp only [pt])
    | (refine WO.op (by intro; simp only [go_sem, fillP, over, cut, nilCheckAV]; rfl) ?_; simp only [pt])
    | (refine WO.op (by intro; exact ev_lenS rfl) ?_; simp only [pt])
    | (refine WO.opN (by intro; simp only [go_sem, storeAt, Option.bind_eq_bind, over, setBlk, cut]; rfl) ?_))
  refine WO.nil ?_
  simp only [Then]
  have e3 : setBlk (H ++ [some (Blk.mk 0 [.bool false, .int .i64 0, .int .i64 0]), some (Blk.mk 0 [.bool false, .int .i64 0, .int .i64 0])]) H.length 0 [.bool false, .int .i64 0, .int .i64 0] = H ++ [some (Blk.mk 0 [.bool false, .int .i64 0, .int .i64 0]), some (Blk.mk 0 [.bool false, .int .i64 0, .int .i64 0])] := by
    unfold setBlk
    rw [List.set_append_right (h := Nat.le_refl _)]
    simp
  refine WC.ret ⟨[.agg [.bool false, .int .i64 0, .int .i64 0], .bool false], ?_, rfl, _, congrArg (fun h => Mem.mk h L) e3⟩
  simp only [evRes, gt, List.drop_zero, List.take, List.nil_append, List.drop, List.length_cons, List.length_nil, List.cons_append, e3, e2]
  rfl

theorem at_some (hs : Γ.spec 34 = none) (hf : Γ.fn 34 = some ir34) (hs2 : Γ.spec 42 = none) (hf2 : Γ.fn 42 = some ir42) {r o pl f g : Nat} {C : List AV} {ps : List Pkt} {rest : List AV} {stays : Bool} (hC : Zz.look H r 0 = some C) (ho : C[o]? = some (.sref f g 0 3 ps.length none)) (hl : Zz.look H f g = some (pcells ps ++ rest)) (hfr : f ≠ r)
    (hmax : ps.length ≤ 1000000) (hi : pl % ps.length < ps.length) :
    WF Γ (.func 34 [] []) [.pref r 0 o, .int .i64 pl, .bool stays] ⟨H, L⟩ fun y m' => y = .tuple [.agg (pk ps[pl % ps.length]), .bool true] ∧
      if stays then ∃ R, m' = ⟨H ++ R, L⟩ else ∃ rest' R, m' = ⟨(H.set f (some ⟨g, pcells (ps.eraseIdx (pl % ps.length)) ++ rest'⟩)).set r (some ⟨0, C.set o (.sref f g 0 3 (ps.length - 1) none)⟩) ++ R, L⟩ := by
  have hr0 := look_lt hC
  have hf0 := look_lt hl
  have hoC : o < C.length := (List.getElem?_eq_some_iff.1 ho).1
  have hC2 : ∀ R, Zz.look (H ++ R) r 0 = some C := fun R => by rw [look_left hr0]; exact hC
  have hl2 : ∀ R, Zz.look (H ++ R) f g = some (pcells ps ++ rest) := fun R => by rw [look_left hf0]; exact hl
  have hpos : 0 < ps.length := by
    rcases Nat.eq_zero_or_pos ps.length with h | h
    · rw [h] at hi; exact absurd hi (by omega)
    · exact h
  have hn0' : ¬ ((ps.length : Int) = 0) := by omega
  have hne : ((ps.length : Int) == 0) = false := by simpa using hn0'
  have hmod : Int.tmod (pl : Int) (ps.length : Int) = ((pl % ps.length : Nat) : Int) := rfl
  have hcell := pcells_at (rest := rest) hi
  have hwi : IntKind.wrap .i64 (((pl % ps.length : Nat) : Int) + 1) = ((pl % ps.length + 1 : Nat) : Int) := by rw [wrap_id (by omega) (by omega)]; rfl
  have hlenl : (pl % ps.length) * 3 + 3 ≤ (pcells ps ++ rest).length := by rw [List.length_append, pcells_len]; omega
  generalize hp : ps[pl % ps.length] = p at hcell ⊢
  obtain ⟨pa, psq, pb⟩ := p
  simp only [pk] at hcell ⊢
  generalize hi' : pl % ps.length = i at hi hmod hcell hwi hlenl ⊢
  have hidx : indexAddrAV 3 (.sref f g 0 3 ps.length none) (.int .i64 (i : Int)) = some (.pref f g (i * 3)) := by
    simp only [indexAddrAV, if_true, idx]
    rw [if_pos ⟨by omega, by omega⟩]
    simp
  have hld : ∀ R, loadAV (H ++ R) true 3 (.pref f g (i * 3)) = some (.agg [.bool pa, .int .i64 psq, .int .i64 pb]) := fun R => by
    simp only [loadAV, hl2, Option.bind_some, loadCs, if_true, cut]
    rw [if_pos hlenl, hcell]
    rfl
  have l3 := fun (X : Hp) (a b c : Option Blk) (h : X.length = H.length) => look3 (a := a) (b := b) (c := c) h
  have s3 := fun (X : Hp) (a b c d : Option Blk) (h : X.length = H.length) => set3 (a := a) (b := b) (c := c) (d := d) h
  have q1 : Zz.look (H ++ [some (Blk.mk 0 [.bool false, .int .i64 0, .int .i64 0]), some (Blk.mk 0 [.bool false, .int .i64 0, .int .i64 0]), some (Blk.mk 0 [.bool false, .int .i64 0, .int .i64 0])]) (H.length + 2) 0 = some [.bool false, .int .i64 0, .int .i64 0] := (l3 _ _ _ _ rfl).2
  have q2 : (H ++ [some (Blk.mk 0 [.bool false, .int .i64 0, .int .i64 0]), some (Blk.mk 0 [.bool false, .int .i64 0, .int .i64 0]), some (Blk.mk 0 [.bool false, .int .i64 0, .int .i64 0])]).set (H.length + 2) (some (Blk.mk 0 [.bool pa, .int .i64 psq, .int .i64 pb])) = H ++ [some (Blk.mk 0 [.bool false, .int .i64 0, .int .i64 0]), some (Blk.mk 0 [.bool false, .int .i64 0, .int .i64 0]), some (Blk.mk 0 [.bool pa, .int .i64 psq, .int .i64 pb])] := (s3 _ _ _ _ _ rfl).2
  have fin : ∀ X : Hp, X.length = H.length → Zz.look (X ++ [some (Blk.mk 0 [.bool false, .int .i64 0, .int .i64 0]), some (Blk.mk 0 [.bool false, .int .i64 0, .int .i64 0]), some (Blk.mk 0 [.bool pa, .int .i64 psq, .int .i64 pb])]) (H.length + 2) 0 = some [.bool pa, .int .i64 psq, .int .i64 pb] ∧ Zz.look (X ++ [some (Blk.mk 0 [.bool false, .int .i64 0, .int .i64 0]), some (Blk.mk 0 [.bool false, .int .i64 0, .int .i64 0]), some (Blk.mk 0 [.bool pa, .int .i64 psq, .int .i64 pb])]) H.length 0 = some [.bool false, .int .i64 0, .int .i64 0] ∧ (X ++ [some (Blk.mk 0 [.bool false, .int .i64 0, .int .i64 0]), some (Blk.mk 0 [.bool false, .int .i64 0, .int .i64 0]), some (Blk.mk 0 [.bool pa, .int .i64 psq, .int .i64 pb])]).set H.length (some (Blk.mk 0 [.bool pa, .int .i64 psq, .int .i64 pb])) = X ++ [some (Blk.mk 0 [.bool pa, .int .i64 psq, .int .i64 pb]), some (Blk.mk 0 [.bool false, .int .i64 0, .int .i64 0]), some (Blk.mk 0 [.bool pa, .int .i64 psq, .int .i64 pb])] ∧ Zz.look (X ++ [some (Blk.mk 0 [.bool pa, .int .i64 psq, .int .i64 pb]), some (Blk.mk 0 [.bool false, .int .i64 0, .int .i64 0]), some (Blk.mk 0 [.bool pa, .int .i64 psq, .int .i64 pb])]) H.length 0 = some [.bool pa, .int .i64 psq, .int .i64 pb] :=
    fun X h => ⟨(l3 _ _ _ _ h).2, (l3 _ _ _ _ h).1, (s3 _ _ _ _ _ h).1, (l3 _ _ _ _ h).1⟩
  refine WF.fn hs hf (by show 3 ≤ 46; decide) ?_
  unfold ir34
  simp only [padTo, List.replicate, List.nil_append, List.append_nil, List.cons_append]
  refine WC.seq (WC.region ?_)
  repeat (first
    | (refine WO.yes rfl ?_)
    | (refine WO.no rfl ?_; simp only [pt])
    | (refine WO.op (by intro; simp only [go_sem, fillP, over, cut, nilCheckAV]; rfl) ?_; simp only [pt])
    | (refine WO.op (by intro; exact ev_lenS rfl) ?_; simp only [pt])
    | (refine WO.opN (by intro; simp only [go_sem, storeAt, Option.bind_eq_bind, over, setBlk, cut]; rfl) ?_))
  refine WO.nil ?_
  simp only [Then]
  refine WC.seq (WC.region ?_)
  repeat (first
    | (refine WO.yes rfl ?_)
    | (refine WO.no rfl ?_; simp only [pt])
    | (refine WO.op (by intro; simp only [go_sem, fillP, over, cut, nilCheckAV]; rfl) ?_; simp only [pt])
    | (refine WO.op (by intro; exact ev_lenS rfl) ?_; simp only [pt])
    | (refine WO.opN (by intro; simp only [go_sem, storeAt, Option.bind_eq_bind, over, setBlk, cut]; rfl) ?_))
  refine WO.nil ?_
  simp only [Then]
  refine WC.seq (WC.seq (WC.region ?_))
  simp only [List.append_assoc, List.cons_append, List.nil_append, List.length_append, List.length_cons, List.length_nil, Nat.zero_add]
  repeat (first
    | (refine WO.yes rfl ?_)
    | (refine WO.no rfl ?_; simp only [pt])
    | (refine WO.op (by intro; simp only [go_sem, fillP, over, cut, nilCheckAV, hC2, ho]; rfl) ?_; simp only [pt])
    | (refine WO.op (by intro; exact ev_lenS rfl) ?_; simp only [pt])
    | (refine WO.opN (by intro; simp only [go_sem, storeAt, Option.bind_eq_bind, over, setBlk, cut, hC2, ho]; rfl) ?_))
  repeat (first
    | (refine WO.yes rfl ?_)
    | (refine WO.no rfl ?_; simp only [pt])
    | (refine WO.op (by intro; simp only [go_sem, fillP, over, cut, nilCheckAV, hne]; rfl) ?_; simp only [pt])
    | (refine WO.op (by intro; exact ev_lenS rfl) ?_; simp only [pt])
    | (refine WO.opN (by intro; simp only [go_sem, storeAt, Option.bind_eq_bind, over, setBlk, cut, hne]; rfl) ?_))
  refine WO.nil ?_
  simp only [Then]
  refine WC.no (by simp only [go_sem, hne]) (WC.skip ?_)
  simp only [Then]
  refine WC.seq (WC.region ?_)
  repeat (first
    | (refine WO.yes rfl ?_)
    | (refine WO.no rfl ?_; simp only [pt])
    | (refine WO.op (by intro; simp only [go_sem, fillP, over, cut, nilCheckAV, hC2, ho, hn0', hmod, hi']; rfl) ?_; simp only [pt])
    | (refine WO.op (by intro; exact ev_lenS rfl) ?_; simp only [pt])
    | (refine WO.opN (by intro; simp only [go_sem, storeAt, Option.bind_eq_bind, over, setBlk, cut, hC2, ho, hn0', hmod, hi']; rfl) ?_))
  refine WO.nil ?_
  simp only [Then]
  refine WC.seq (WC.region ?_)
  repeat (first
    | (refine WO.yes rfl ?_)
    | (refine WO.no rfl ?_; simp only [pt])
    | (refine WO.op (by intro; simp only [go_sem, fillP, over, cut, nilCheckAV, hC2, ho, hidx]; rfl) ?_; simp only [pt])
    | (refine WO.op (by intro; exact ev_lenS rfl) ?_; simp only [pt])
    | (refine WO.opN (by intro; simp only [go_sem, storeAt, Option.bind_eq_bind, over, setBlk, cut, hC2, ho, hidx]; rfl) ?_))
  refine WO.op (by intro; rw [ev_load]; exact (congrArg (Option.map _) (hld _)).trans rfl) ?_
  simp only [pt]
  repeat (first
    | (refine WO.yes rfl ?_)
    | (refine WO.no rfl ?_; simp only [pt])
    | (refine WO.op (by intro; simp only [go_sem, fillP, over, cut, nilCheckAV]; rfl) ?_; simp only [pt])
    | (refine WO.op (by intro; exact ev_lenS rfl) ?_; simp only [pt])
    | (refine WO.opN (by intro; simp only [go_sem, storeAt, Option.bind_eq_bind, over, setBlk, cut]; rfl) ?_))
  simp only [List.append_assoc, List.cons_append, List.nil_append, List.length_append, List.length_cons, List.length_nil, Nat.zero_add, Nat.reduceAdd]
  refine WO.opN (by intro; rw [ev_store]; simp only [go_sem, storeAt, Option.bind_eq_bind, q1, over, setBlk]; rfl) ?_
  refine WO.nil ?_
  simp only [Then]
  simp only [List.take, List.drop_zero, List.cons_append, List.nil_append, List.length_cons, List.length_nil, Nat.zero_add, Nat.reduceAdd, List.drop]
  rw [q2]
  refine WC.seq (WC.seq (WC.region ?_))
  repeat (first
    | (refine WO.yes rfl ?_)
    | (refine WO.no rfl ?_; simp only [pt])
    | (refine WO.op (by intro; simp only [go_sem, fillP, over, cut, nilCheckAV]; rfl) ?_; simp only [pt])
    | (refine WO.op (by intro; exact ev_lenS rfl) ?_; simp only [pt])
    | (refine WO.opN (by intro; simp only [go_sem, storeAt, Option.bind_eq_bind, over, setBlk, cut]; rfl) ?_))
  refine WO.nil ?_
  simp only [Then]
  cases stays with
  | true =>
    refine WC.no rfl (WC.skip ?_)
    simp only [Then]
    obtain ⟨f1, f2, f3, f4⟩ := fin H rfl
    refine WC.seq (WC.region ?_)
    refine WO.op (by intro; rw [ev_load]; simp only [go_sem, f1, cut]; rfl) ?_
    simp only [pt]
    refine WO.opN (by intro; rw [ev_store]; simp only [go_sem, storeAt, Option.bind_eq_bind, f2, over, setBlk]; rfl) ?_
    repeat (first
      | (refine WO.yes rfl ?_)
      | (refine WO.no rfl ?_; simp only [pt])
      | (refine WO.op (by intro; simp only [go_sem, fillP, over, cut, nilCheckAV]; rfl) ?_; simp only [pt])
      | (refine WO.op (by intro; exact ev_lenS rfl) ?_; simp only [pt])
      | (refine WO.opN (by intro; simp only [go_sem, storeAt, Option.bind_eq_bind, over, setBlk, cut]; rfl) ?_))
    refine WO.nil ?_
    simp only [Then]
    simp only [List.take, List.drop_zero, List.cons_append, List.nil_append, List.length_cons, List.length_nil, Nat.zero_add, Nat.reduceAdd, List.drop]
    rw [f3]
    refine WC.ret ⟨[.agg [.bool pa, .int .i64 psq, .int .i64 pb], .bool true], ?_, rfl, _, rfl⟩
    simp only [evRes, gt, f4]
    rfl
  | false =>
    refine WC.yes rfl (WC.region ?_)
    repeat (first
      | (refine WO.yes rfl ?_)
      | (refine WO.no rfl ?_; simp only [pt])
      | (refine WO.op (by intro; simp only [go_sem, fillP, over, cut, nilCheckAV, hC2, ho, hwi]; rfl) ?_; simp only [pt])
      | (refine WO.op (by intro; exact ev_lenS rfl) ?_; simp only [pt])
      | (refine WO.opN (by intro; simp only [go_sem, storeAt, Option.bind_eq_bind, over, setBlk, cut, hC2, ho, hwi]; rfl) ?_))
    refine WO.call rfl rfl ((del_run (L := L) hs2 hf2 (hl2 _) hi).mono ?_)
    rintro y m' ⟨rfl, rest', rfl⟩
    simp only [pt]
    rw [set_left hf0]
    have hC3 : ∀ b R, Zz.look (H.set f b ++ R) r 0 = some C := fun b R => by
      rw [look_left (by simpa using hr0), ← hC]
      exact look_of_get (List.getElem?_set_ne hfr)
    have hov := over_one (x := AV.sref f g 0 3 (ps.length - 1) none) hoC
    have hset : ∀ b c R, (H.set f b ++ R).set r c = (H.set f b).set r c ++ R := fun b c R => set_left (by simpa using hr0)
    repeat (first
      | (refine WO.yes rfl ?_)
      | (refine WO.no rfl ?_; simp only [pt])
      | (refine WO.op (by intro; simp only [go_sem, fillP, over, cut, nilCheckAV]; rfl) ?_; simp only [pt])
      | (refine WO.op (by intro; exact ev_lenS rfl) ?_; simp only [pt])
      | (refine WO.opN (by intro; simp only [go_sem, storeAt, Option.bind_eq_bind, over, setBlk, cut]; rfl) ?_))
    refine WO.opN (by intro; rw [ev_store]; simp only [go_sem, storeAt, hC3, hov, Option.bind_eq_bind, setBlk, hset]; rfl) ?_
    refine WO.nil ?_
    simp only [Then]
    obtain ⟨f1, f2, f3, f4⟩ := fin ((H.set f (some ⟨g, pcells (ps.eraseIdx i) ++ rest'⟩)).set r (some ⟨0, C.set o (.sref f g 0 3 (ps.length - 1) none)⟩)) (by simp)
    refine WC.seq (WC.region ?_)
    refine WO.op (by intro; rw [ev_load]; simp only [go_sem, f1, cut]; rfl) ?_
    simp only [pt]
    refine WO.opN (by intro; rw [ev_store]; simp only [go_sem, storeAt, Option.bind_eq_bind, f2, over, setBlk]; rfl) ?_
    repeat (first
      | (refine WO.yes rfl ?_)
      | (refine WO.no rfl ?_; simp only [pt])
      | (refine WO.op (by intro; simp only [go_sem, fillP, over, cut, nilCheckAV]; rfl) ?_; simp only [pt])
      | (refine WO.op (by intro; exact ev_lenS rfl) ?_; simp only [pt])
      | (refine WO.opN (by intro; simp only [go_sem, storeAt, Option.bind_eq_bind, over, setBlk, cut]; rfl) ?_))
    refine WO.nil ?_
    simp only [Then]
    simp only [List.take, List.drop_zero, List.cons_append, List.nil_append, List.length_cons, List.length_nil, Nat.zero_add, Nat.reduceAdd, List.drop]
    rw [f3]
    refine WC.ret ⟨[.agg [.bool pa, .int .i64 psq, .int .i64 pb], .bool true], ?_, rfl, _, _, rfl⟩
    simp only [evRes, gt, f4]
    rfl
end
end Go.Proofs.Ytpddngcgajjacaa

