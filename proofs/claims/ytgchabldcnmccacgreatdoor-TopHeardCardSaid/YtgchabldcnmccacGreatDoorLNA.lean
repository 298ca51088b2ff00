import Derived.Test.YtgchabldcnmccacGreatDoorHIr
import Derived.Test.YtgchabldcnmccacGreatDoorAbsG
import Derived.KernelRfl

set_option linter.unusedSimpArgs false
set_option linter.unusedVariables false

set_option maxRecDepth 100000
set_option maxHeartbeats 8000000
namespace Go.Proofs.YtgchabldcnmccacGreatDoor.Ln
open Go.Zz
attribute [go_sem] ev_move ev_pick ev_alloc ev_box ev_build ev_buildSlice ev_load ev_store ev_nilCheck ev_bin ev_beq ev_aggEq ev_nilEq ev_un ev_conv ev_makeFunc ev_makeSlice ev_slice ev_sliceArr ev_fieldAddr ev_field ev_indexAddr ev_indexAddrArr ev_index ev_extract ev_lenS ev_lenC ev_capS ev_minmax ev_append ev_copy ev_clear Opd.ev gt pt AV.cells newBlk Option.map_some Option.bind_some List.length_nil List.length_cons List.nil_append List.cons_append ptrAdd loadAV look loadCs binAV binInt isShift List.getElem?_cons_zero List.getElem?_cons_succ Bool.false_eq_true if_false if_true Bool.or_true Bool.or_false Bool.not_true Bool.not_false unAV or_true true_or false_or Nat.zero_add Nat.add_zero beq_self_eq_true ge_iff_le gt_iff_lt
def IntS (x : AV) (xs : List Int) : Prop := (x = .snil ∧ xs = []) ∨ ∃ full, x = .sval full xs.length (xs.map (.int .i64))
theorem IntS.len {x : AV} {xs : List Int} (h : IntS x xs) : slen x = some xs.length := by
 rcases h with ⟨rfl, rfl⟩ | ⟨full, rfl⟩ <;> rfl
theorem IntS.at {x : AV} {xs : List Int} (h : IntS x xs) {i : Nat} (hi : i < xs.length) : indexAddrAV 1 x (.int .i64 (i : Int)) = some (.pval ((xs.map (.int .i64)).drop i)) := by
 rcases h with ⟨rfl, rfl⟩ | ⟨full, rfl⟩
 ·simp at hi
 ·simp only [indexAddrAV, idx]
  rw [if_pos (by omega)]
  simp
theorem wrap_id {n : Int} (h1 : -9223372036854775808 ≤ n) (h2 : n ≤ 9223372036854775807) : IntKind.wrap .i64 n = n := by
 simp [IntKind.wrap, IntKind.signed, IntKind.bits]
 split <;> omega
end Go.Proofs.YtgchabldcnmccacGreatDoor.Ln


set_option maxRecDepth 100000
set_option maxHeartbeats 8000000
namespace Go.Proofs.YtgchabldcnmccacGreatDoor.Ln
open Go.Zz
def I64 (n : Int) : Prop := -9223372036854775808 ≤ n ∧ n ≤ 9223372036854775807
theorem valid_run {Γ : Env} {s : Int} {q : AV} {qs : List Int} (hs : Γ.spec 71 = none) (hf : Γ.fn 71 = some ir71) (hq : IntS q qs) (h1 : I64 s) (hmax : qs.length < 9223372036854775808) :
  WF Γ (.func 71 [] []) [.agg [.int .i64 s, q]] ⟨[], []⟩ fun y m' => y = .bool (decide (0 ≤ s ∧ s ≤ 1000 ∧ (qs.length : Int) ≤ 1000 - s)) := by
 refine WF.fn hs hf (by show 1 ≤ 20; decide) ?_
 unfold ir71; dsimp only [k0, kI, mV, oO, oG]
 simp only [padTo, List.replicate, List.nil_append, List.append_nil, List.cons_append]
 refine WC.seq (WC.region ?_)
 refine WO.op (by intro; simp only [go_sem]; rfl) ?_
 simp only [pt]
 refine WO.op (by intro; simp only [go_sem]; rfl) ?_
 simp only [pt]
 refine WO.nil ?_
 simp only [Then]
 refine WC.seq (WC.region ?_)
 by_cases c1 : 0 ≤ s
 ·iterate 4
   refine WO.op (by intro; simp only [go_sem, c1, decide_true]; rfl) ?_
   simp only [pt]
  by_cases c2 : s ≤ 1000
  ·iterate 3
    refine WO.yes (by simp only [gt]) ?_
    refine WO.op (by intro; simp only [go_sem, c2, decide_true]; rfl) ?_
    simp only [pt]
   iterate 2
    refine WO.op (by intro; simp only [go_sem]; rfl) ?_
    simp only [pt]
   have hw := wrap_id (n := 1000 - s) (by omega) (by omega)
   iterate 2
    refine WO.yes (by simp only [gt]) ?_
    refine WO.op (by intro; simp only [go_sem]; rfl) ?_
    simp only [pt]
   refine WO.yes (by simp only [gt]) ?_
   refine WO.op (by intro; rw [ev_lenS (n := qs.length) (by simp only [go_sem]; exact hq.len)]) ?_
   simp only [pt]
   iterate 4
    refine WO.yes (by simp only [gt]) ?_
    refine WO.op (by intro; simp only [go_sem, hw]; rfl) ?_
    simp only [pt]
   iterate 2
    refine WO.op (by intro; simp only [go_sem]; rfl) ?_
    simp only [pt]
   refine WO.nil ?_
   simp only [Then]
   refine WC.ret ?_
   refine ⟨_, rfl, ?_⟩
   simp [oneRes, gt, c1, c2]
  ·iterate 3
    refine WO.yes (by simp only [gt]) ?_
    refine WO.op (by intro; simp only [go_sem, c2, decide_false]; rfl) ?_
    simp only [pt]
   iterate 2
    refine WO.op (by intro; simp only [go_sem]; rfl) ?_
    simp only [pt]
   iterate 7
    refine WO.no (by simp only [gt, Bool.not_true]) ?_
    simp only [pt]
   iterate 2
    refine WO.op (by intro; simp only [go_sem]; rfl) ?_
    simp only [pt]
   refine WO.nil ?_
   simp only [Then]
   refine WC.ret ?_
   refine ⟨_, rfl, ?_⟩
   simp [oneRes, gt, c1, c2]
 ·iterate 4
   refine WO.op (by intro; simp only [go_sem, c1, decide_false]; rfl) ?_
   simp only [pt]
  iterate 3
   refine WO.no (by simp only [gt, Bool.not_true]) ?_
   simp only [pt]
  iterate 2
   refine WO.op (by intro; simp only [go_sem]; rfl) ?_
   simp only [pt]
  iterate 7
   refine WO.no (by simp only [gt, Bool.not_true]) ?_
   simp only [pt]
  iterate 2
   refine WO.op (by intro; simp only [go_sem]; rfl) ?_
   simp only [pt]
  refine WO.nil ?_
  simp only [Then]
  refine WC.ret ?_
  refine ⟨_, rfl, ?_⟩
  simp [oneRes, gt, c1]
theorem clone_run {Γ : Env} {q : AV} {qs : List Int} (hs : Γ.spec 72 = none) (hf : Γ.fn 72 = some ir72) (hq : IntS q qs) (hmax : qs.length ≤ 2000) :
  ∃ v, IntS v qs ∧ WF Γ (.func 72 [] []) [q] ⟨[], []⟩ fun y m' => resV m'.heap y = some v := by
 rcases hq with ⟨rfl, rfl⟩ | ⟨full, rfl⟩
 ·refine ⟨.snil, .inl ⟨rfl, rfl⟩, WF.fn hs hf (by show 1 ≤ 8; decide) ?_⟩
  unfold ir72; dsimp only [k0, kI, mV, oO, oG]
  simp only [padTo, List.replicate, List.nil_append, List.append_nil, List.cons_append]
  refine WC.seq (WC.region ?_)
  refine WO.op (by intro; simp only [go_sem]; rfl) ?_
  simp only [pt]
  refine WO.nil ?_
  simp only [Then]
  refine WC.seq (WC.seq (WC.region ?_))
  refine WO.op (by intro; simp only [go_sem]; rfl) ?_
  simp only [pt]
  refine WO.op (by intro; simp only [go_sem, nilEqAV]; rfl) ?_
  simp only [pt]
  refine WO.nil ?_
  simp only [Then]
  refine WC.yes (by simp only [go_sem]) (WC.seq (WC.region ?_))
  refine WO.op (by intro; simp only [go_sem]; rfl) ?_
  simp only [pt]
  refine WO.nil ?_
  simp only [Then]
  refine WC.ret ?_
  exact ⟨_, rfl, rfl⟩
 ·refine ⟨.sval (qs.length == 0) qs.length (qs.map (.int .i64)), .inr ⟨_, rfl⟩, WF.fn hs hf (by show 1 ≤ 8; decide) ?_⟩
  unfold ir72; dsimp only [k0, kI, mV, oO, oG]
  simp only [padTo, List.replicate, List.nil_append, List.append_nil, List.cons_append]
  refine WC.seq (WC.region ?_)
  refine WO.op (by intro; simp only [go_sem]; rfl) ?_
  simp only [pt]
  refine WO.nil ?_
  simp only [Then]
  refine WC.seq (WC.seq (WC.region ?_))
  refine WO.op (by intro; simp only [go_sem]; rfl) ?_
  simp only [pt]
  refine WO.op (by intro; simp only [go_sem, nilEqAV]; rfl) ?_
  simp only [pt]
  refine WO.nil ?_
  simp only [Then]
  refine WC.no (by simp only [go_sem]) (WC.skip ?_)
  simp only [Then]
  refine WC.seq (WC.region ?_)
  refine WO.op (by intro; simp only [go_sem, fillP, zeros]; rfl) ?_
  simp only [pt]
  refine WO.op (by intro; simp only [go_sem]; rfl) ?_
  simp only [pt]
  cases qs with
  | nil =>
   refine WO.op (by intro; simp only [go_sem, appendAV]; rfl) ?_
   simp only [pt]
   refine WO.op (by intro; simp only [go_sem]; rfl) ?_
   simp only [pt]
   refine WO.nil ?_
   simp only [Then]
   refine WC.ret ?_
   exact ⟨_, rfl, rfl⟩
  | cons x r =>
   have e : appendAV 1 8 ⟨[some ⟨0, []⟩], []⟩ (.sref 0 0 0 1 0 (some 0)) (.sval full (x :: r).length ((x :: r).map (.int .i64))) = some (.sref 1 0 0 1 (x :: r).length none, ⟨[some ⟨0, []⟩, some ⟨0, (x :: r).map (.int .i64)⟩], []⟩) := by
    simp only [List.length_cons] at hmax
    unfold appendAV
    simp only [scells, slen, List.length_map, List.length_cons, Nat.mul_one, if_true, Option.bind_eq_bind, Option.bind_some, Zz.look, List.getElem?_cons_zero, cut, Nat.zero_mul, Nat.zero_add, List.length_nil, Nat.le_refl, Nat.zero_le, List.drop_zero, List.take_zero]
    rw [if_neg (by omega), if_pos (by omega)]
    simp [newBlk]
   refine WO.op (by intro; rw [ev_append]; simp only [go_sem]; exact e) ?_
   simp only [pt]
   refine WO.op (by intro; simp only [go_sem]; rfl) ?_
   simp only [pt]
   refine WO.nil ?_
   simp only [Then]
   refine WC.ret ?_
   refine ⟨_, rfl, ?_⟩
   simp [oneRes, gt, resV, resA, resC, Zz.look, cut, flatAV, St.mem, List.take_of_length_le]
end Go.Proofs.YtgchabldcnmccacGreatDoor.Ln


set_option maxRecDepth 100000
set_option maxHeartbeats 8000000
namespace Go.Proofs.YtgchabldcnmccacGreatDoor.Ln
open Go.Zz
def Spec26 (Γ : Env) : Prop := ∃ S, Γ.spec 71 = some S ∧ ∀ s q qs m, IntS q qs → I64 s → qs.length < 9223372036854775808 → S [.agg [.int .i64 s, q]] m = some (.bool (decide (0 ≤ s ∧ s ≤ 1000 ∧ (qs.length : Int) ≤ 1000 - s)), m)
def Spec28 (Γ : Env) : Prop := ∃ S, Γ.spec 72 = some S ∧ ∀ q qs, IntS q qs → qs.length ≤ 2000 → ∃ v, IntS v qs ∧ ∀ m, S [q] m = some (v, m)
theorem hear_bad {Γ : Env} (h26 : Spec26 Γ) {s ps bd : Int} {ack : Bool} {q : AV} {qs : List Int} (hs : Γ.spec 50 = none) (hf : Γ.fn 50 = some ir50) (hq : IntS q qs) (h1 : I64 s) (h2 : I64 ps) (hmax : qs.length < 9223372036854775808)
  (hbad : ¬ ((0 ≤ s ∧ s ≤ 1000 ∧ (qs.length : Int) ≤ 1000 - s) ∧ ack = true ∧ bd = 0 ∧ 0 ≤ ps ∧ ps ≤ 1000)) :
  WF Γ (.func 50 [] []) [.agg [.int .i64 s, q], .agg [.bool ack, .int .i64 ps, .int .i64 bd]] ⟨[], []⟩ fun y m' => resV m'.heap y = some (.tuple [.agg [.int .i64 0, .snil], .int .i64 1]) := by
 obtain ⟨S, hS, h26⟩ := h26
 refine WF.fn hs hf (by show 2 ≤ 56; decide) ?_
 unfold ir50; dsimp only [k0, kI, mV, oO, oG]
 simp only [padTo, List.replicate, List.nil_append, List.append_nil]
 refine WC.seq (WC.region ?_)
 repeat (first
  | (refine WO.op (by intro; simp only [go_sem]; rfl) ?_; simp only [pt]))
 refine WO.nil ?_
 simp only [Then]
 refine WC.seq (WC.seq (WC.region ?_))
 refine WO.op (by intro; simp only [go_sem, Zz.look, cut, List.drop_zero]; rfl) ?_
 simp only [pt]
 refine WO.call rfl rfl (WF.spec hS (h26 s q qs _ hq h1 hmax) ?_)
 simp only [pt]
 by_cases cV : 0 ≤ s ∧ s ≤ 1000 ∧ (qs.length : Int) ≤ 1000 - s
 ·cases ack with
  | false =>
   repeat (first
    | (refine WO.yes rfl ?_)
    | (refine WO.no rfl ?_; simp only [pt])
    | (refine WO.op (by intro; simp only [go_sem, Zz.look, cut, cV, and_self, decide_true]; rfl) ?_; simp only [pt]))
   refine WO.nil ?_
   simp only [Then]
   refine WC.yes (by simp only [go_sem]) (WC.seq (WC.region ?_))
   repeat (first
    | (refine WO.op (by intro; simp only [go_sem, fillP]; rfl) ?_; simp only [pt])
    | (refine WO.opN (by intro; simp only [go_sem, Zz.look, storeAt, over, setBlk]; rfl) ?_))
   refine WO.nil ?_
   simp only [Then]
   refine WC.ret ?_
   exact ⟨_, rfl, rfl⟩
  | true =>
   by_cases cb : bd = 0
   ·subst cb
    by_cases c1 : ps < 0
    ·repeat (first
      | (refine WO.yes rfl ?_)
      | (refine WO.no rfl ?_; simp only [pt])
      | (refine WO.op (by intro; simp only [go_sem, Zz.look, cut, cV, and_self, decide_true, c1, bne_self_eq_false]; rfl) ?_; simp only [pt])
      | (refine WO.opN (by intro; simp only [go_sem, Zz.look, storeAt, over, setBlk, cut, cV, and_self, decide_true, c1, bne_self_eq_false]; rfl) ?_))
     refine WO.nil ?_
     simp only [Then]
     refine WC.yes (by simp only [go_sem]) (WC.seq (WC.region ?_))
     repeat (first
      | (refine WO.op (by intro; simp only [go_sem, fillP]; rfl) ?_; simp only [pt])
      | (refine WO.opN (by intro; simp only [go_sem, Zz.look, storeAt, over, setBlk]; rfl) ?_))
     refine WO.nil ?_
     simp only [Then]
     refine WC.ret ?_
     exact ⟨_, rfl, rfl⟩
    ·by_cases c2 : 1000 < ps
     ·repeat (first
       | (refine WO.yes rfl ?_)
       | (refine WO.no rfl ?_; simp only [pt])
       | (refine WO.op (by intro; simp only [go_sem, Zz.look, cut, cV, and_self, decide_true, c1, c2, decide_false, bne_self_eq_false]; rfl) ?_; simp only [pt])
       | (refine WO.opN (by intro; simp only [go_sem, Zz.look, storeAt, over, setBlk, cut, cV, and_self, decide_true, c1, c2, decide_false, bne_self_eq_false]; rfl) ?_))
      refine WO.nil ?_
      simp only [Then]
      refine WC.yes (by simp only [go_sem]) (WC.seq (WC.region ?_))
      repeat (first
       | (refine WO.op (by intro; simp only [go_sem, fillP]; rfl) ?_; simp only [pt])
       | (refine WO.opN (by intro; simp only [go_sem, Zz.look, storeAt, over, setBlk]; rfl) ?_))
      refine WO.nil ?_
      simp only [Then]
      refine WC.ret ?_
      exact ⟨_, rfl, rfl⟩
     ·exact absurd ⟨cV, rfl, rfl, by omega, by omega⟩ hbad
   ·have cb' : (bd != 0) = true := by simpa using cb
    repeat (first
     | (refine WO.yes rfl ?_)
     | (refine WO.no rfl ?_; simp only [pt])
     | (refine WO.op (by intro; simp only [go_sem, Zz.look, cut, cV, and_self, decide_true, cb']; rfl) ?_; simp only [pt]))
    refine WO.nil ?_
    simp only [Then]
    refine WC.yes (by simp only [go_sem]) (WC.seq (WC.region ?_))
    repeat (first
     | (refine WO.op (by intro; simp only [go_sem, fillP]; rfl) ?_; simp only [pt])
     | (refine WO.opN (by intro; simp only [go_sem, Zz.look, storeAt, over, setBlk]; rfl) ?_))
    refine WO.nil ?_
    simp only [Then]
    refine WC.ret ?_
    exact ⟨_, rfl, rfl⟩
 ·repeat (first
   | (refine WO.yes rfl ?_)
   | (refine WO.no rfl ?_; simp only [pt])
   | (refine WO.op (by intro; simp only [go_sem, cV, decide_false]; rfl) ?_; simp only [pt])
   | (refine WO.opN (by intro; simp only [go_sem, Zz.look, storeAt, over, setBlk, cut, cV, decide_false]; rfl) ?_))
  refine WO.nil ?_
  simp only [Then]
  refine WC.yes (by simp only [go_sem]) (WC.seq (WC.region ?_))
  repeat (first
   | (refine WO.op (by intro; simp only [go_sem, fillP]; rfl) ?_; simp only [pt])
   | (refine WO.opN (by intro; simp only [go_sem, Zz.look, storeAt, over, setBlk]; rfl) ?_))
  refine WO.nil ?_
  simp only [Then]
  refine WC.ret ?_
  exact ⟨_, rfl, rfl⟩
end Go.Proofs.YtgchabldcnmccacGreatDoor.Ln


set_option maxRecDepth 100000
set_option maxHeartbeats 8000000
namespace Go.Proofs.YtgchabldcnmccacGreatDoor.Ln
open Go.Zz
theorem IntS.from {x : AV} {xs : List Int} (h : IntS x xs) {n : Nat} (hn : n ≤ xs.length) : ∃ y, IntS y (xs.drop n) ∧ ∀ H, sliceAV H 1 x (some (.int .i64 (n : Int))) none none = some y := by
 rcases h with ⟨rfl, rfl⟩ | ⟨full, rfl⟩
 ·have : n = 0 := by simpa using hn
  subst this
  exact ⟨.snil, .inl ⟨rfl, rfl⟩, fun H => by simp [sliceAV, bnds, bndO, bnd]⟩
 ·refine ⟨_, .inr ⟨full, rfl⟩, fun H => ?_⟩
  simp only [sliceAV, List.length_map, Nat.mul_one, if_true, bnds, bndO, bnd]
  rw [if_pos ⟨by omega, by omega⟩]
  cases full <;> simp [List.take_of_length_le]
theorem IntS.cells {x : AV} {xs : List Int} (h : IntS x xs) : x.cells = some [x] := by
 rcases h with ⟨rfl, _⟩ | ⟨f, rfl⟩ <;> rfl
theorem limit_slice {T : List AV} {sz : Nat} {x : Opd} {a b c : Option Opd} {H : Hp} {xs : List Int} (h : IntS (x.ev T) xs) : limit T (.slice sz x a b c) H = blanks H := by
 unfold limit
 cases b with
 | none => rfl
 | some b => rcases h with ⟨h, _⟩ | ⟨f, h⟩ <;> simp only [h]
theorem hear_good {Γ : Env} (h26 : Spec26 Γ) (h28 : Spec28 Γ) {s ps : Int} {q : AV} {qs : List Int} (hs : Γ.spec 50 = none) (hf : Γ.fn 50 = some ir50) (hq : IntS q qs) (h1 : I64 s) (h2 : I64 ps) (hmax : qs.length < 9223372036854775808)
  (cV : 0 ≤ s ∧ s ≤ 1000 ∧ (qs.length : Int) ≤ 1000 - s) (c1 : ¬ ps < 0) (c2 : ¬ 1000 < ps) (c3 : ¬ (qs.length : Int) < ps - s) :
  ∃ v, IntS v (qs.drop (ps - s).toNat) ∧ WF Γ (.func 50 [] []) [.agg [.int .i64 s, q], .agg [.bool true, .int .i64 ps, .int .i64 0]] ⟨[], []⟩ fun y m' => y = .tuple [.agg [.int .i64 (s + (ps - s).toNat), v], .int .i64 0] := by
 obtain ⟨S, hS, h26⟩ := h26
 obtain ⟨S2, hS2, h28⟩ := h28
 obtain ⟨y, hy, hsl⟩ := hq.from (n := (ps - s).toNat) (by omega)
 obtain ⟨v, hv, hS3⟩ := h28 y _ hy (by simp; omega)
 have hvc := hv.cells
 simp only [AV.cells] at hvc
 refine ⟨v, hv, ?_⟩
 have hw := wrap_id (n := ps - s) (by omega) (by omega)
 refine WF.fn hs hf (by show 2 ≤ 56; decide) ?_
 unfold ir50; dsimp only [k0, kI, mV, oO, oG]
 simp only [padTo, List.replicate, List.nil_append, List.append_nil]
 refine WC.seq (WC.region ?_)
 repeat (first
  | (refine WO.op (by intro; simp only [go_sem]; rfl) ?_; simp only [pt]))
 refine WO.nil ?_
 simp only [Then]
 refine WC.seq (WC.seq (WC.region ?_))
 refine WO.op (by intro; simp only [go_sem, Zz.look, cut, List.drop_zero]; rfl) ?_
 simp only [pt]
 refine WO.call rfl rfl (WF.spec hS (h26 s q qs _ hq h1 hmax) ?_)
 simp only [pt]
 repeat (first
  | (refine WO.yes rfl ?_)
  | (refine WO.op (by intro; simp only [go_sem, Zz.look, cut, cV, and_self, decide_true, c1, c2, decide_false, bne_self_eq_false]; rfl) ?_; simp only [pt]))
 refine WO.nil ?_
 simp only [Then]
 refine WC.no (by simp only [go_sem]) (WC.skip ?_)
 simp only [Then]
 refine WC.seq (WC.region ?_)
 repeat (first
  | (refine WO.op (by intro; simp only [go_sem, Zz.look, cut, hw]; rfl) ?_; simp only [pt]))
 refine WO.nil ?_
 simp only [Then]
 refine WC.seq (WC.block (WC.seq (WC.region ?_)))
 iterate 3
  refine WO.op (by intro; simp only [go_sem, Zz.look]; rfl) ?_
  simp only [pt]
 refine WO.op (by intro; rw [ev_lenS (n := qs.length) (by simp only [go_sem]; exact hq.len)]) ?_
 simp only [pt]
 repeat (first
  | (refine WO.op (by intro; simp only [go_sem, c3, decide_false]; rfl) ?_; simp only [pt]))
 refine WO.nil ?_
 simp only [Then]
 refine WC.no (by simp only [go_sem]) (WC.seq (WC.region ?_))
 by_cases c4 : ps - s < 0
 ·have hz : (ps - s).toNat = 0 := by omega
  have hw2 := wrap_id (n := s + 0) (by omega) (by omega)
  rw [hz] at hsl
  have hsl0 : ∀ H, sliceAV H 1 q (some (.int .i64 0)) none none = some y := hsl
  repeat (first
   | (refine WO.op (by intro; simp only [go_sem, c4, decide_true]; rfl) ?_; simp only [pt]))
  refine WO.nil ?_
  simp only [Then]
  refine WC.yes (by simp only [go_sem]) (WC.region ?_)
  repeat (first
   | (refine WO.op (by intro; simp only [go_sem]; rfl) ?_; simp only [pt]))
  refine WO.nil ?_
  simp only [Out, Then]
  try simp only [Out, Then]
  refine WC.seq (WC.draw ?_)
  refine WD.free rfl (by intro; simp only [go_sem]; rfl) ?_
  simp only [pt, List.nil_append]
  refine WD.bigG rfl (by simp only [limit, strikes, blanks, onlyAt, List.map, go_sem]; rfl) (by intro; simp only [go_sem, Zz.look, cut]; rfl) rfl (by simp only [back]; rfl) (by simp only [go_sem]; rfl) ?_
  simp only [pt, St.put]
  refine WD.free rfl (by intro; simp only [go_sem]; rfl) ?_
  simp only [pt, List.nil_append, List.cons_append]
  refine WD.free rfl (by intro; simp only [go_sem, hw2]; rfl) ?_
  simp only [pt, List.nil_append, List.cons_append]
  refine WD.free rfl (by intro; simp only [go_sem]; rfl) ?_
  simp only [pt, List.nil_append, List.cons_append]
  refine WD.bigG rfl (by simp only [limit, strikes, blanks, onlyAt, List.map, go_sem]; rfl) (by intro; simp only [go_sem, Zz.look, cut]; rfl) rfl (by simp only [back]; rfl) (by simp only [go_sem]; rfl) ?_
  simp only [pt, St.put]
  refine WD.free rfl (by intro; simp only [go_sem]; rfl) ?_
  simp only [pt, List.nil_append, List.cons_append]
  refine WD.bigG rfl (limit_slice (xs := qs) hq) (by intro; simp only [go_sem, Option.map_none, hsl0]; rfl) rfl (by simp only [back, blanks, strikes, List.map]; rfl) (by simp only [go_sem, blanks, strikes, List.map]; rfl) ?_
  simp only [pt, St.put]
  refine WD.call (by simp only [strikes, strike, strikeV, List.getElem?_cons_zero, List.getElem?_cons_succ, Nat.lt_irrefl, if_false]; rfl) ?_
  simp only [go_sem, List.map]
  refine WF.spec hS2 (hS3 _) ⟨rfl, ?_⟩
  simp only [pt, St.put, back]
  refine WD.free rfl (by intro; simp only [go_sem, fillP, over, hvc, Option.bind_eq_bind]; rfl) ?_
  simp only [pt, List.nil_append, List.cons_append]
  refine WD.bigG rfl (by simp only [limit, strikes, blanks, onlyAt, List.map, go_sem]; rfl) (by intro; simp only [go_sem, Zz.look, storeAt, setBlk, over]; rfl) rfl rfl rfl ?_
  simp only [St.put, List.nil_append, List.cons_append]
  refine WD.free rfl (by intro; simp only [go_sem]; rfl) ?_
  simp only [pt, List.nil_append, List.cons_append]
  refine WD.nil ?_
  simp only [Then]
  refine WC.ret ?_
  refine ⟨_, rfl, ?_⟩
  simp [oneRes, hz, gt]
 ·have hw2 := wrap_id (n := s + (ps - s)) (by omega) (by omega)
  have hsl' := hsl
  rw [Int.toNat_of_nonneg (by omega)] at hsl'
  repeat (first
   | (refine WO.op (by intro; simp only [go_sem, c4, decide_false]; rfl) ?_; simp only [pt]))
  refine WO.nil ?_
  simp only [Then]
  refine WC.no (by simp only [go_sem]) (WC.skip ?_)
  try simp only [Out, Then]
  refine WC.seq (WC.draw ?_)
  refine WD.free rfl (by intro; simp only [go_sem]; rfl) ?_
  simp only [pt, List.nil_append]
  refine WD.bigG rfl (by simp only [limit, strikes, blanks, onlyAt, List.map, go_sem]; rfl) (by intro; simp only [go_sem, Zz.look, cut]; rfl) rfl (by simp only [back]; rfl) (by simp only [go_sem]; rfl) ?_
  simp only [pt, St.put]
  refine WD.free rfl (by intro; simp only [go_sem]; rfl) ?_
  simp only [pt, List.nil_append, List.cons_append]
  refine WD.free rfl (by intro; simp only [go_sem, hw2]; rfl) ?_
  simp only [pt, List.nil_append, List.cons_append]
  refine WD.free rfl (by intro; simp only [go_sem]; rfl) ?_
  simp only [pt, List.nil_append, List.cons_append]
  refine WD.bigG rfl (by simp only [limit, strikes, blanks, onlyAt, List.map, go_sem]; rfl) (by intro; simp only [go_sem, Zz.look, cut]; rfl) rfl (by simp only [back]; rfl) (by simp only [go_sem]; rfl) ?_
  simp only [pt, St.put]
  refine WD.free rfl (by intro; simp only [go_sem]; rfl) ?_
  simp only [pt, List.nil_append, List.cons_append]
  refine WD.bigG rfl (limit_slice (xs := qs) hq) (by intro; simp only [go_sem, Option.map_none, hsl']; rfl) rfl (by simp only [back, blanks, strikes, List.map]; rfl) (by simp only [go_sem, blanks, strikes, List.map]; rfl) ?_
  simp only [pt, St.put]
  refine WD.call (by simp only [strikes, strike, strikeV, List.getElem?_cons_zero, List.getElem?_cons_succ, Nat.lt_irrefl, if_false]; rfl) ?_
  simp only [go_sem, List.map]
  refine WF.spec hS2 (hS3 _) ⟨rfl, ?_⟩
  simp only [pt, St.put, back]
  refine WD.free rfl (by intro; simp only [go_sem, fillP, over, hvc, Option.bind_eq_bind]; rfl) ?_
  simp only [pt, List.nil_append, List.cons_append]
  refine WD.bigG rfl (by simp only [limit, strikes, blanks, onlyAt, List.map, go_sem]; rfl) (by intro; simp only [go_sem, Zz.look, storeAt, setBlk, over]; rfl) rfl rfl rfl ?_
  simp only [St.put, List.nil_append, List.cons_append]
  refine WD.free rfl (by intro; simp only [go_sem]; rfl) ?_
  simp only [pt, List.nil_append, List.cons_append]
  refine WD.nil ?_
  simp only [Then]
  refine WC.ret ?_
  refine ⟨_, rfl, ?_⟩
  simp [oneRes, gt]
  omega
end Go.Proofs.YtgchabldcnmccacGreatDoor.Ln


set_option maxRecDepth 100000
set_option maxHeartbeats 8000000
namespace Go.Proofs.YtgchabldcnmccacGreatDoor.Ln
open Go.Zz
theorem hear_state {Γ : Env} (h26 : Spec26 Γ) {s ps : Int} {q : AV} {qs : List Int} (hs : Γ.spec 50 = none) (hf : Γ.fn 50 = some ir50) (hq : IntS q qs) (h1 : I64 s) (h2 : I64 ps) (hmax : qs.length < 9223372036854775808)
  (cV : 0 ≤ s ∧ s ≤ 1000 ∧ (qs.length : Int) ≤ 1000 - s) (c1 : ¬ ps < 0) (c2 : ¬ 1000 < ps) (c3 : (qs.length : Int) < ps - s) :
  WF Γ (.func 50 [] []) [.agg [.int .i64 s, q], .agg [.bool true, .int .i64 ps, .int .i64 0]] ⟨[], []⟩ fun y m' => resV m'.heap y = some (.tuple [.agg [.int .i64 0, .snil], .int .i64 6]) := by
 obtain ⟨S, hS, h26⟩ := h26
 have hw := wrap_id (n := ps - s) (by omega) (by omega)
 refine WF.fn hs hf (by show 2 ≤ 56; decide) ?_
 unfold ir50; dsimp only [k0, kI, mV, oO, oG]
 simp only [padTo, List.replicate, List.nil_append, List.append_nil]
 refine WC.seq (WC.region ?_)
 repeat (first
  | (refine WO.op (by intro; simp only [go_sem]; rfl) ?_; simp only [pt]))
 refine WO.nil ?_
 simp only [Then]
 refine WC.seq (WC.seq (WC.region ?_))
 refine WO.op (by intro; simp only [go_sem, Zz.look, cut, List.drop_zero]; rfl) ?_
 simp only [pt]
 refine WO.call rfl rfl (WF.spec hS (h26 s q qs _ hq h1 hmax) ?_)
 simp only [pt]
 repeat (first
  | (refine WO.yes rfl ?_)
  | (refine WO.op (by intro; simp only [go_sem, Zz.look, cut, cV, and_self, decide_true, c1, c2, decide_false, bne_self_eq_false]; rfl) ?_; simp only [pt]))
 refine WO.nil ?_
 simp only [Then]
 refine WC.no (by simp only [go_sem]) (WC.skip ?_)
 simp only [Then]
 refine WC.seq (WC.region ?_)
 repeat (first
  | (refine WO.op (by intro; simp only [go_sem, Zz.look, cut, hw]; rfl) ?_; simp only [pt]))
 refine WO.nil ?_
 simp only [Then]
 refine WC.seq (WC.block (WC.seq (WC.region ?_)))
 iterate 3
  refine WO.op (by intro; simp only [go_sem, Zz.look]; rfl) ?_
  simp only [pt]
 refine WO.op (by intro; rw [ev_lenS (n := qs.length) (by simp only [go_sem]; exact hq.len)]) ?_
 simp only [pt]
 repeat (first
  | (refine WO.op (by intro; simp only [go_sem, c3, decide_true]; rfl) ?_; simp only [pt]))
 refine WO.nil ?_
 simp only [Then]
 refine WC.yes (by simp only [go_sem]) (WC.seq (WC.region ?_))
 repeat (first
  | (refine WO.op (by intro; simp only [go_sem, fillP]; rfl) ?_; simp only [pt])
  | (refine WO.opN (by intro; simp only [go_sem, Zz.look, storeAt, over, setBlk]; rfl) ?_))
 refine WO.nil ?_
 simp only [Then]
 refine WC.ret ?_
 exact ⟨_, rfl, rfl⟩
end Go.Proofs.YtgchabldcnmccacGreatDoor.Ln


set_option maxRecDepth 100000
set_option maxHeartbeats 8000000
namespace Go.Proofs.YtgchabldcnmccacGreatDoor.Ln
open Go.Zz
noncomputable def G0 : Env := { fn := fun g => (Tryz.prog.funcs[g]?).bind (cFunc Tryz.prog), spec := fun _ => none }
theorem G0_ok : EnvOk Tryz.prog G0 := by
 refine ⟨fun g ifn h => ?_, fun g S h => by cases h⟩
 simp only [G0, Option.bind_eq_some_iff] at h
 exact h
theorem fn_of {g : Nat} {f : Func} {i : IFunc} (hf : Tryz.prog.funcs[g]? = some f) (hc : cFunc Tryz.prog f = some i) : G0.fn g = some i := by
 simp only [G0, hf, Option.bind_some, hc]
noncomputable def withSpec (Γ : Env) (l : List (Nat × (List AV → Mem → Option (AV × Mem)))) : Env := { fn := G0.fn, spec := fun g => (l.find? fun p => p.1 == g).map (·.2) }
theorem withSpec_ok {l : List (Nat × (List AV → Mem → Option (AV × Mem)))} (h : ∀ p ∈ l, SpecOk Tryz.prog p.1 p.2) : EnvOk Tryz.prog (withSpec G0 l) := by
 refine ⟨G0_ok.fn, fun g S hS => ?_⟩
 simp only [withSpec, Option.map_eq_some_iff] at hS
 obtain ⟨p, hp, rfl⟩ := hS
 have h1 := List.mem_of_find?_eq_some hp
 have h2 := List.find?_some hp
 simp only [beq_iff_eq] at h2
 subst h2
 exact h p h1
noncomputable def Gh : Env := withSpec G0 [(71, borrowE G0 71), (72, borrowE G0 72)]
theorem callable {g : Nat} {f : Func} (hf : Tryz.prog.funcs[g]? = some f) (h : (f.name != "runtime.NumGoroutine" && f.body.isSome) = true) : Callable Tryz.prog g := by
 simp only [Bool.and_eq_true, bne_iff_ne, ne_eq] at h
 exact ⟨f, hf, h.1, h.2⟩
theorem Gh_ok : EnvOk Tryz.prog Gh := withSpec_ok fun p hp => by
 simp only [List.mem_cons, List.not_mem_nil, or_false] at hp
 rcases hp with rfl | rfl
 ·exact borrowE_ok G0_ok (callable Tryz.func71 (by kernel_rfl))
 ·exact borrowE_ok G0_ok (callable Tryz.func72 (by kernel_rfl))
theorem flat_ints (xs : List Int) : (xs.map (AV.int .i64)).all flatAV = true := by
 induction xs with
 | nil => rfl
 | cons x r ih => simp [flatAV]
theorem IntS.pureC {x : AV} {xs : List Int} (h : IntS x xs) : Zz.pureC x = true := by
 rcases h with ⟨rfl, _⟩ | ⟨f, rfl⟩
 ·rfl
 ·exact flat_ints _
theorem IntS.pureA {x : AV} {xs : List Int} (h : IntS x xs) : Zz.pureA x = true := by
 rcases h with ⟨rfl, _⟩ | ⟨f, rfl⟩
 ·rfl
 ·exact flat_ints _
theorem spec26 : Spec26 Gh := by
 refine ⟨_, rfl, fun s q qs m hq h1 h2 => ?_⟩
 refine borrowE_of ?_ ((valid_run (Γ := G0) rfl (fn_of Tryz.func71 cir71) hq h1 h2).mono fun y m' hy => by rw [hy]; rfl)
 have e : Zz.pureC (.int .i64 s) = true := rfl
 simp [Zz.pureA, hq.pureC, e]
theorem spec28 : Spec28 Gh := by
 refine ⟨_, rfl, fun q qs hq h1 => ?_⟩
 obtain ⟨v, hv, h⟩ := clone_run (Γ := G0) rfl (fn_of Tryz.func72 cir72) hq h1
 refine ⟨v, hv, fun m => borrowE_of ?_ h⟩
 simp [hq.pureA]
end Go.Proofs.YtgchabldcnmccacGreatDoor.Ln


set_option maxRecDepth 100000
set_option maxHeartbeats 8000000
namespace Go.Proofs.YtgchabldcnmccacGreatDoor.Ln
open Go.Zz
theorem IntS.resC {x : AV} {xs : List Int} (h : IntS x xs) (H : Hp) : Zz.resC H x = some x := by
 rcases h with ⟨rfl, _⟩ | ⟨f, rfl⟩
 ·rfl
 ·simp only [Zz.resC, flat_ints, if_true]
theorem pure17 {s ps bd : Int} {ack : Bool} {q : AV} {qs : List Int} (hq : IntS q qs) : [AV.agg [.int .i64 s, q], .agg [.bool ack, .int .i64 ps, .int .i64 bd]].all pureA = true := by
 have e1 : Zz.pureC (.int .i64 s) = true := rfl
 have e2 : Zz.pureC (.int .i64 ps) = true := rfl
 have e3 : Zz.pureC (.int .i64 bd) = true := rfl
 have e4 : Zz.pureC (.bool ack) = true := rfl
 simp [Zz.pureA, hq.pureC, e1, e2, e3, e4]
theorem spec17 {s ps bd : Int} {ack : Bool} {q : AV} {qs : List Int} (hq : IntS q qs) (h1 : I64 s) (h2 : I64 ps) (hmax : qs.length < 9223372036854775808) :
  (¬ ((0 ≤ s ∧ s ≤ 1000 ∧ (qs.length : Int) ≤ 1000 - s) ∧ ack = true ∧ bd = 0 ∧ 0 ≤ ps ∧ ps ≤ 1000) → ∀ m, borrowE Gh 50 [.agg [.int .i64 s, q], .agg [.bool ack, .int .i64 ps, .int .i64 bd]] m = some (.tuple [.agg [.int .i64 0, .snil], .int .i64 1], m)) ∧
  ((0 ≤ s ∧ s ≤ 1000 ∧ (qs.length : Int) ≤ 1000 - s) ∧ ack = true ∧ bd = 0 ∧ 0 ≤ ps ∧ ps ≤ 1000 → (qs.length : Int) < ps - s → ∀ m, borrowE Gh 50 [.agg [.int .i64 s, q], .agg [.bool ack, .int .i64 ps, .int .i64 bd]] m = some (.tuple [.agg [.int .i64 0, .snil], .int .i64 6], m)) ∧
  ((0 ≤ s ∧ s ≤ 1000 ∧ (qs.length : Int) ≤ 1000 - s) ∧ ack = true ∧ bd = 0 ∧ 0 ≤ ps ∧ ps ≤ 1000 → ¬ (qs.length : Int) < ps - s → ∃ v, IntS v (qs.drop (ps - s).toNat) ∧ ∀ m, borrowE Gh 50 [.agg [.int .i64 s, q], .agg [.bool ack, .int .i64 ps, .int .i64 bd]] m = some (.tuple [.agg [.int .i64 (s + (ps - s).toNat), v], .int .i64 0], m)) := by
 have hf : Gh.fn 50 = some ir50 := fn_of Tryz.func50 cir50
 refine ⟨fun hb m => borrowE_of (pure17 hq) (hear_bad spec26 rfl hf hq h1 h2 hmax hb), ?_, ?_⟩
 ·rintro ⟨cV, rfl, rfl, c1, c2⟩ c3 m
  exact borrowE_of (pure17 hq) (hear_state spec26 rfl hf hq h1 h2 hmax cV (by omega) (by omega) c3)
 ·rintro ⟨cV, rfl, rfl, c1, c2⟩ c3
  obtain ⟨v, hv, h⟩ := hear_good spec26 spec28 rfl hf hq h1 h2 hmax cV (by omega) (by omega) c3
  refine ⟨v, hv, fun m => borrowE_of (pure17 hq) (h.mono fun y m' hy => ?_)⟩
  rw [hy]
  have e1 : Zz.resC m'.heap (.int .i64 (s + (ps - s).toNat)) = some (.int .i64 (s + (ps - s).toNat)) := rfl
  have e2 : Zz.resC m'.heap (.int .i64 0) = some (.int .i64 0) := rfl
  simp only [resV, resT, resA, resL, e1, e2, hv.resC]
end Go.Proofs.YtgchabldcnmccacGreatDoor.Ln


set_option maxRecDepth 100000
set_option maxHeartbeats 8000000
namespace Go.Proofs.YtgchabldcnmccacGreatDoor.Ln
open Go.Zz
def Hears (s : Int) (qs : List Int) (ack : Bool) (ps bd : Int) : Prop := (0 ≤ s ∧ s ≤ 1000 ∧ (qs.length : Int) ≤ 1000 - s) ∧ ack = true ∧ bd = 0 ∧ 0 ≤ ps ∧ ps ≤ 1000 ∧ ps - s ≤ qs.length
end Go.Proofs.YtgchabldcnmccacGreatDoor.Ln


set_option maxRecDepth 100000
set_option maxHeartbeats 8000000
namespace Go.Proofs.YtgchabldcnmccacGreatDoor.Ln
open Go.Zz
def Cloned (H : Hp) (v : AV) (qs : List Int) (bl : Hp) : Prop :=
 (v = .snil ∧ qs = [] ∧ bl = []) ∨ (v = .sref H.length 0 0 1 0 (some 0) ∧ qs = [] ∧ bl = [some ⟨0, []⟩]) ∨ (0 < qs.length ∧ v = .sref (H.length + 1) 0 0 1 qs.length none ∧ bl = [some ⟨0, []⟩, some ⟨0, qs.map (.int .i64)⟩])
theorem clone_at {Γ : Env} {q : AV} {qs : List Int} (hs : Γ.spec 72 = none) (hf : Γ.fn 72 = some ir72) (hq : IntS q qs) (hmax : qs.length ≤ 2000) (m : Mem) :
  ∃ v bl, Cloned m.heap v qs bl ∧ WF Γ (.func 72 [] []) [q] m fun y m' => y = v ∧ m' = ⟨m.heap ++ bl, m.loops⟩ := by
 obtain ⟨H, L⟩ := m
 rcases hq with ⟨rfl, rfl⟩ | ⟨full, rfl⟩
 ·refine ⟨.snil, [], .inl ⟨rfl, rfl, rfl⟩, WF.fn hs hf (by show 1 ≤ 8; decide) ?_⟩
  unfold ir72; dsimp only [k0, kI, mV, oO, oG]
  simp only [padTo, List.replicate, List.nil_append, List.append_nil]
  refine WC.seq (WC.region ?_)
  repeat (first
   | (refine WO.op (by intro; simp only [go_sem]; rfl) ?_; simp only [pt]))
  refine WO.nil ?_
  simp only [Then]
  refine WC.seq (WC.seq (WC.region ?_))
  repeat (first
   | (refine WO.op (by intro; simp only [go_sem, nilEqAV]; rfl) ?_; simp only [pt]))
  refine WO.nil ?_
  simp only [Then]
  refine WC.yes (by simp only [go_sem]) (WC.seq (WC.region ?_))
  repeat (first
   | (refine WO.op (by intro; simp only [go_sem]; rfl) ?_; simp only [pt]))
  refine WO.nil ?_
  simp only [Then]
  exact WC.ret ⟨_, rfl, rfl, rfl⟩
 ·have body : ∀ v bl, Cloned H v qs bl → appendAV 1 8 ⟨H ++ [some ⟨0, []⟩], L⟩ (.sref H.length 0 0 1 0 (some 0)) (.sval full qs.length (qs.map (.int .i64))) = some (v, ⟨H ++ bl, L⟩) → WF Γ (.func 72 [] []) [.sval full qs.length (qs.map (.int .i64))] ⟨H, L⟩ fun y m' => y = v ∧ m' = ⟨H ++ bl, L⟩ := by
   intro v bl hc ha
   refine WF.fn hs hf (by show 1 ≤ 8; decide) ?_
   unfold ir72; dsimp only [k0, kI, mV, oO, oG]
   simp only [padTo, List.replicate, List.nil_append, List.append_nil]
   refine WC.seq (WC.region ?_)
   repeat (first
    | (refine WO.op (by intro; simp only [go_sem]; rfl) ?_; simp only [pt]))
   refine WO.nil ?_
   simp only [Then]
   refine WC.seq (WC.seq (WC.region ?_))
   repeat (first
    | (refine WO.op (by intro; simp only [go_sem, nilEqAV]; rfl) ?_; simp only [pt]))
   refine WO.nil ?_
   simp only [Then]
   refine WC.no (by simp only [go_sem]) (WC.skip ?_)
   simp only [Then]
   refine WC.seq (WC.region ?_)
   refine WO.op (by intro; simp only [go_sem, fillP, zeros]; rfl) ?_
   simp only [pt]
   refine WO.op (by intro; simp only [go_sem]; rfl) ?_
   simp only [pt]
   refine WO.op (by intro; rw [ev_append]; simp only [go_sem]; exact ha) ?_
   simp only [pt]
   repeat (first
    | (refine WO.op (by intro; simp only [go_sem]; rfl) ?_; simp only [pt]))
   refine WO.nil ?_
   simp only [Then]
   exact WC.ret ⟨_, rfl, rfl, rfl⟩
  cases qs with
  | nil =>
   refine ⟨_, _, .inr (.inl ⟨rfl, rfl, rfl⟩), body _ _ (.inr (.inl ⟨rfl, rfl, rfl⟩)) ?_⟩
   simp [appendAV, scells, slen, Zz.look, cut, storeAt, over, setBlk]
  | cons x r =>
   refine ⟨_, _, .inr (.inr ⟨by simp, rfl, rfl⟩), body _ _ (.inr (.inr ⟨by simp, rfl, rfl⟩)) ?_⟩
   simp only [List.length_cons] at hmax
   unfold appendAV
   simp only [scells, slen, List.length_map, List.length_cons, Nat.mul_one, if_true, Option.bind_eq_bind, Option.bind_some, Zz.look, List.getElem?_append_right (Nat.le_refl _), Nat.sub_self, List.getElem?_cons_zero, cut, Nat.zero_add, Nat.zero_le, List.drop_zero, List.take_zero]
   rw [if_neg (by omega), if_pos (by omega)]
   simp [newBlk]
end Go.Proofs.YtgchabldcnmccacGreatDoor.Ln

