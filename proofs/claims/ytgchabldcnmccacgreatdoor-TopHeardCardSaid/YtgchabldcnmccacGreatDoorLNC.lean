import Derived.Test.YtgchabldcnmccacGreatDoorLNB

set_option linter.unusedSimpArgs false
set_option linter.unusedVariables false

set_option maxRecDepth 100000
set_option maxHeartbeats 8000000
namespace Go.Proofs.YtgchabldcnmccacGreatDoor.Ln
open Go.Zz
theorem out_bad {Γ : Env} (h26 : Spec26 Γ) {s : Int} {q : AV} {qs : List Int} (hs : Γ.spec 44 = none) (hf : Γ.fn 44 = some ir44) (hq : IntS q qs) (h1 : I64 s) (hmax : qs.length < 9223372036854775808)
  (hb : ¬ (0 ≤ s ∧ s ≤ 1000 ∧ (qs.length : Int) ≤ 1000 - s)) :
  WF Γ (.func 44 [] []) [.agg [.int .i64 s, q]] ⟨[], []⟩ fun y m' => resV m'.heap y = some (.tuple [.snil, .int .i64 1]) := by
 obtain ⟨S, hS, h26⟩ := h26
 have h26' : ∀ m, S [.agg [.int .i64 s, q]] m = some (.bool false, m) := fun m => by rw [h26 s q qs m hq h1 hmax, decide_eq_false hb]
 refine WF.fn hs hf (by show 1 ≤ 34; decide) ?_
 unfold ir44; dsimp only [k0, kI, mV, oO, oG]
 simp only [padTo, List.replicate, List.nil_append, List.append_nil]
 refine WC.seq (WC.region ?_)
 repeat (first
  | (refine WO.op (by intro; simp only [go_sem]; rfl) ?_; simp only [pt]))
 refine WO.nil ?_
 simp only [Then]
 refine WC.seq (WC.seq (WC.region ?_))
 repeat (first
  | (refine WO.op (by intro; simp only [go_sem, Zz.look, cut]; rfl) ?_; simp only [pt]))
 refine WO.call rfl rfl (WF.spec hS (h26' _) ?_)
 simp only [pt]
 repeat (first
  | (refine WO.op (by intro; simp only [go_sem]; rfl) ?_; simp only [pt]))
 refine WO.nil ?_
 simp only [Then]
 refine WC.yes rfl (WC.seq (WC.region ?_))
 repeat (first
  | (refine WO.op (by intro; simp only [go_sem]; rfl) ?_; simp only [pt]))
 refine WO.nil ?_
 simp only [Then]
 exact WC.ret ⟨_, rfl, rfl⟩
abbrev Pkt := Bool × Int × Int
def pk (p : Pkt) : List AV := [.bool p.1, .int .i64 p.2.1, .int .i64 p.2.2]
def PackS (x : AV) (ps : List Pkt) : Prop := (x = .snil ∧ ps = []) ∨ ∃ f, x = .sval f ps.length (ps.flatMap pk)
def outs : Int → List Int → List Pkt
 | _, [] => []
 | s, b :: r => (false, s, b) :: outs (s + 1) r
theorem IntS.upto {x : AV} {xs : List Int} (h : IntS x xs) {n : Nat} (hn : n ≤ xs.length) : ∃ y, IntS y (xs.take n) ∧ ∀ H, sliceAV H 1 x none (some (.int .i64 (n : Int))) none = some y := by
 rcases h with ⟨rfl, rfl⟩ | ⟨full, rfl⟩
 ·have : n = 0 := by simpa using hn
  subst this
  exact ⟨.snil, .inl ⟨rfl, rfl⟩, fun H => by simp [sliceAV, bnds, bndO, bnd]⟩
 ·cases full
  ·refine ⟨.sval false n ((xs.take n).map (.int .i64)), .inr ⟨false, by simp [Nat.min_eq_left hn]⟩, fun H => ?_⟩
   simp only [sliceAV, List.length_map, Nat.mul_one, if_true, bnds, bndO, bnd, Bool.false_eq_true, if_false, Option.getD_none]
   rw [if_pos ⟨by omega, by omega⟩]
   simp [List.map_take]
  ·refine ⟨.sval (xs.length == n) n ((xs.take n).map (.int .i64)), .inr ⟨xs.length == n, by simp [Nat.min_eq_left hn]⟩, fun H => ?_⟩
   simp only [sliceAV, List.length_map, Nat.mul_one, if_true, bnds, bndO, bnd, Option.getD_some]
   rw [if_pos ⟨by omega, by omega⟩]
   simp [List.map_take]
theorem minmax4 (n : Nat) : minmaxAV false [.int .i64 4, .int .i64 n] = some (.int .i64 (min 4 n : Nat)) := by
 simp only [minmaxAV, mmGo, if_true, Bool.false_eq_true, if_false]
 split <;> congr 2 <;> omega
theorem out_good {Γ : Env} (h26 : Spec26 Γ) {s : Int} {q : AV} {qs : List Int} (hs : Γ.spec 44 = none) (hf : Γ.fn 44 = some ir44) (hq : IntS q qs) (h1 : I64 s) (hmax : qs.length < 9223372036854775808)
  (hb : 0 ≤ s ∧ s ≤ 1000 ∧ (qs.length : Int) ≤ 1000 - s) :
  ∃ v, PackS v (outs s (qs.take (min 4 qs.length))) ∧ WF Γ (.func 44 [] []) [.agg [.int .i64 s, q]] ⟨[], []⟩ fun y m' => resV m'.heap y = some (.tuple [v, .int .i64 0]) := by
 obtain ⟨S, hS, h26⟩ := h26
 have h26' : ∀ m, S [.agg [.int .i64 s, q]] m = some (.bool true, m) := fun m => by rw [h26 s q qs m hq h1 hmax, decide_eq_true hb]
 have key : ∃ v, PackS v (outs s (qs.take (min 4 qs.length))) ∧ ∀ y, IntS y (qs.take (min 4 qs.length)) → (∀ H, sliceAV H 1 q none (some (.int .i64 (min 4 qs.length : Nat))) none = some y) → WF Γ (.func 44 [] []) [.agg [.int .i64 s, q]] ⟨[], []⟩ fun y m' => resV m'.heap y = some (.tuple [v, .int .i64 0]) := by
  have hlen : (qs.take (min 4 qs.length)).length = min 4 qs.length := by simp
  generalize hw : qs.take (min 4 qs.length) = w at hlen ⊢
  rw [← hlen]
  have hw4 : w.length ≤ 4 := by omega
  have w1 : IntKind.wrap .i64 (0 + 1) = 1 := rfl
  have w2 : IntKind.wrap .i64 (1 + 1) = 2 := rfl
  have w3 : IntKind.wrap .i64 (2 + 1) = 3 := rfl
  have w4 : IntKind.wrap .i64 (3 + 1) = 4 := rfl
  have s0 : IntKind.wrap .i64 (s + 0) = s := by rw [wrap_id (by omega) (by omega)]; omega
  have s1 : IntKind.wrap .i64 (s + 1) = s + 1 := wrap_id (by omega) (by omega)
  have s2 : IntKind.wrap .i64 (s + 2) = s + 1 + 1 := by rw [wrap_id (by omega) (by omega)]; omega
  have s3 : IntKind.wrap .i64 (s + 3) = s + 1 + 1 + 1 := by rw [wrap_id (by omega) (by omega)]; omega
  match w, hw4 with
  | [], _ =>
   refine ⟨.snil, .inl ⟨rfl, rfl⟩, fun y hy hsl => ?_⟩
   refine WF.fn hs hf (by show 1 ≤ 34; decide) ?_
   unfold ir44; dsimp only [k0, kI, mV, oO, oG]
   simp only [padTo, List.replicate, List.nil_append, List.append_nil]
   refine WC.seq (WC.region ?_)
   repeat (first
    | (refine WO.op (by intro; simp only [go_sem]; rfl) ?_; simp only [pt]))
   refine WO.nil ?_
   simp only [Then]
   refine WC.seq (WC.seq (WC.region ?_))
   repeat (first
    | (refine WO.op (by intro; simp only [go_sem, Zz.look, cut]; rfl) ?_; simp only [pt]))
   refine WO.call rfl rfl (WF.spec hS (h26' _) ?_)
   simp only [pt]
   repeat (first
    | (refine WO.op (by intro; simp only [go_sem]; rfl) ?_; simp only [pt]))
   refine WO.nil ?_
   simp only [Then]
   refine WC.no rfl (WC.skip ?_)
   simp only [Then]
   refine WC.seq (WC.region ?_)
   repeat (first
    | (refine WO.op (by intro; simp only [go_sem]; rfl) ?_; simp only [pt]))
   refine WO.nil ?_
   simp only [Then]
   refine WC.seq (WC.seq (WC.region ?_))
   repeat (first
    | (refine WO.op (by intro; simp only [go_sem, Zz.look, cut]; rfl) ?_; simp only [pt]))
   refine WO.op (by intro; exact ev_lenS (n := qs.length) (by simp only [go_sem]; exact hq.len)) ?_
   simp only [pt]
   refine WO.op (by intro; rw [ev_minmax]; simp only [go_sem, List.map]; rw [minmax4, ← hlen]; rfl) ?_
   simp only [pt]
   refine WO.op (by intro; rw [ev_slice]; simp only [go_sem, Option.map_none]; exact (congrArg (Option.map _) (hsl _)).trans rfl) ?_
   simp only [pt]
   refine WO.op (by intro; exact ev_lenS (n := 0) (by simp only [go_sem]; exact hy.len)) ?_
   simp only [pt]
   repeat (first
    | (refine WO.op (by intro; simp only [go_sem]; rfl) ?_; simp only [pt]))
   refine WO.nil ?_
   simp only [Then]
   refine WC.block ?_
   refine WC.loop (WC.seq (WC.region ?_))
   repeat (first
    | (refine WO.op (by intro; simp only [go_sem]; rfl) ?_; simp only [pt]))
   refine WO.nil ?_
   simp only [Then]
   refine WC.seq (WC.no rfl (WC.exit ?_))
   simp only [Then, Out, if_true]
   refine WC.seq (WC.region ?_)
   repeat (first
    | (refine WO.op (by intro; simp only [go_sem]; rfl) ?_; simp only [pt]))
   refine WO.nil ?_
   simp only [Then]
   exact WC.ret ⟨_, rfl, rfl⟩
  | [a], _ =>
   refine ⟨.sval false 1 ((outs s [a]).flatMap pk), .inr ⟨_, rfl⟩, fun y hy hsl => ?_⟩
   have hy2 : ∃ f, y = .sval f 1 ([.int .i64 a]) := by
    rcases hy with ⟨_, h⟩ | ⟨f, h⟩
    ·cases h
    ·exact ⟨f, h⟩
   obtain ⟨f, rfl⟩ := hy2
   refine WF.fn hs hf (by show 1 ≤ 34; decide) ?_
   unfold ir44; dsimp only [k0, kI, mV, oO, oG]
   simp only [padTo, List.replicate, List.nil_append, List.append_nil]
   refine WC.seq (WC.region ?_)
   repeat (first
    | (refine WO.op (by intro; simp only [go_sem]; rfl) ?_; simp only [pt]))
   refine WO.nil ?_
   simp only [Then]
   refine WC.seq (WC.seq (WC.region ?_))
   repeat (first
    | (refine WO.op (by intro; simp only [go_sem, Zz.look, cut]; rfl) ?_; simp only [pt]))
   refine WO.call rfl rfl (WF.spec hS (h26' _) ?_)
   simp only [pt]
   repeat (first
    | (refine WO.op (by intro; simp only [go_sem]; rfl) ?_; simp only [pt]))
   refine WO.nil ?_
   simp only [Then]
   refine WC.no rfl (WC.skip ?_)
   simp only [Then]
   refine WC.seq (WC.region ?_)
   repeat (first
    | (refine WO.op (by intro; simp only [go_sem]; rfl) ?_; simp only [pt]))
   refine WO.nil ?_
   simp only [Then]
   refine WC.seq (WC.seq (WC.region ?_))
   repeat (first
    | (refine WO.op (by intro; simp only [go_sem, Zz.look, cut]; rfl) ?_; simp only [pt]))
   refine WO.op (by intro; exact ev_lenS (n := qs.length) (by simp only [go_sem]; exact hq.len)) ?_
   simp only [pt]
   refine WO.op (by intro; rw [ev_minmax]; simp only [go_sem, List.map]; rw [minmax4, ← hlen]; rfl) ?_
   simp only [pt]
   refine WO.op (by intro; rw [ev_slice]; simp only [go_sem, Option.map_none]; exact (congrArg (Option.map _) (hsl _)).trans rfl) ?_
   simp only [pt]
   refine WO.op (by intro; exact ev_lenS (n := 1) (by simp only [go_sem]; exact rfl)) ?_
   simp only [pt]
   repeat (first
    | (refine WO.op (by intro; simp only [go_sem]; rfl) ?_; simp only [pt]))
   refine WO.nil ?_
   simp only [Then]
   refine WC.block ?_
   refine WC.loop (WC.seq (WC.region ?_))
   repeat (first
    | (refine WO.op (by intro; simp only [go_sem]; rfl) ?_; simp only [pt]))
   refine WO.nil ?_
   simp only [Then]
   refine WC.seq (WC.yes rfl (WC.skip ?_))
   simp only [Then]
   refine WC.seq (WC.block (WC.seq (WC.region ?_)))
   repeat (first
    | (refine WO.op (by intro; simp only [go_sem, cut, indexAddrAV, idx]; rfl) ?_; simp only [pt]))
   refine WO.nil ?_
   simp only [Then]
   refine WC.region ?_
   repeat (first
    | (refine WO.op (by intro; simp only [go_sem, Zz.look, fillP, over, cut, s0]; rfl) ?_; simp only [pt]))
   refine WO.nil ?_
   simp only [Then, Out]
   refine WC.region ?_
   repeat (first
    | (refine WO.op (by intro; simp only [go_sem, w1]; rfl) ?_; simp only [pt]))
   refine WO.nil ?_
   simp only [Then]
   refine WC.loop (WC.seq (WC.region ?_))
   repeat (first
    | (refine WO.op (by intro; simp only [go_sem]; rfl) ?_; simp only [pt]))
   refine WO.nil ?_
   simp only [Then]
   refine WC.seq (WC.no rfl (WC.exit ?_))
   simp only [Then, Out, if_true]
   refine WC.seq (WC.region ?_)
   repeat (first
    | (refine WO.op (by intro; simp only [go_sem]; rfl) ?_; simp only [pt]))
   refine WO.nil ?_
   simp only [Then]
   exact WC.ret ⟨_, rfl, rfl⟩
  | [a, b], _ =>
   refine ⟨.sval false 2 ((outs s [a, b]).flatMap pk), .inr ⟨_, rfl⟩, fun y hy hsl => ?_⟩
   have hy2 : ∃ f, y = .sval f 2 ([.int .i64 a, .int .i64 b]) := by
    rcases hy with ⟨_, h⟩ | ⟨f, h⟩
    ·cases h
    ·exact ⟨f, h⟩
   obtain ⟨f, rfl⟩ := hy2
   refine WF.fn hs hf (by show 1 ≤ 34; decide) ?_
   unfold ir44; dsimp only [k0, kI, mV, oO, oG]
   simp only [padTo, List.replicate, List.nil_append, List.append_nil]
   refine WC.seq (WC.region ?_)
   repeat (first
    | (refine WO.op (by intro; simp only [go_sem]; rfl) ?_; simp only [pt]))
   refine WO.nil ?_
   simp only [Then]
   refine WC.seq (WC.seq (WC.region ?_))
   repeat (first
    | (refine WO.op (by intro; simp only [go_sem, Zz.look, cut]; rfl) ?_; simp only [pt]))
   refine WO.call rfl rfl (WF.spec hS (h26' _) ?_)
   simp only [pt]
   repeat (first
    | (refine WO.op (by intro; simp only [go_sem]; rfl) ?_; simp only [pt]))
   refine WO.nil ?_
   simp only [Then]
   refine WC.no rfl (WC.skip ?_)
   simp only [Then]
   refine WC.seq (WC.region ?_)
   repeat (first
    | (refine WO.op (by intro; simp only [go_sem]; rfl) ?_; simp only [pt]))
   refine WO.nil ?_
   simp only [Then]
   refine WC.seq (WC.seq (WC.region ?_))
   repeat (first
    | (refine WO.op (by intro; simp only [go_sem, Zz.look, cut]; rfl) ?_; simp only [pt]))
   refine WO.op (by intro; exact ev_lenS (n := qs.length) (by simp only [go_sem]; exact hq.len)) ?_
   simp only [pt]
   refine WO.op (by intro; rw [ev_minmax]; simp only [go_sem, List.map]; rw [minmax4, ← hlen]; rfl) ?_
   simp only [pt]
   refine WO.op (by intro; rw [ev_slice]; simp only [go_sem, Option.map_none]; exact (congrArg (Option.map _) (hsl _)).trans rfl) ?_
   simp only [pt]
   refine WO.op (by intro; exact ev_lenS (n := 2) (by simp only [go_sem]; exact rfl)) ?_
   simp only [pt]
   repeat (first
    | (refine WO.op (by intro; simp only [go_sem]; rfl) ?_; simp only [pt]))
   refine WO.nil ?_
   simp only [Then]
   refine WC.block ?_
   refine WC.loop (WC.seq (WC.region ?_))
   repeat (first
    | (refine WO.op (by intro; simp only [go_sem]; rfl) ?_; simp only [pt]))
   refine WO.nil ?_
   simp only [Then]
   refine WC.seq (WC.yes rfl (WC.skip ?_))
   simp only [Then]
   refine WC.seq (WC.block (WC.seq (WC.region ?_)))
   repeat (first
    | (refine WO.op (by intro; simp only [go_sem, cut, indexAddrAV, idx]; rfl) ?_; simp only [pt]))
   refine WO.nil ?_
   simp only [Then]
   refine WC.region ?_
   repeat (first
    | (refine WO.op (by intro; simp only [go_sem, Zz.look, fillP, over, cut, s0]; rfl) ?_; simp only [pt]))
   refine WO.nil ?_
   simp only [Then, Out]
   refine WC.region ?_
   repeat (first
    | (refine WO.op (by intro; simp only [go_sem, w1]; rfl) ?_; simp only [pt]))
   refine WO.nil ?_
   simp only [Then]
   refine WC.loop (WC.seq (WC.region ?_))
   repeat (first
    | (refine WO.op (by intro; simp only [go_sem]; rfl) ?_; simp only [pt]))
   refine WO.nil ?_
   simp only [Then]
   refine WC.seq (WC.yes rfl (WC.skip ?_))
   simp only [Then]
   refine WC.seq (WC.block (WC.seq (WC.region ?_)))
   repeat (first
    | (refine WO.op (by intro; simp only [go_sem, cut, indexAddrAV, idx]; rfl) ?_; simp only [pt]))
   refine WO.nil ?_
   simp only [Then]
   refine WC.region ?_
   repeat (first
    | (refine WO.op (by intro; simp only [go_sem, Zz.look, fillP, over, cut, s1]; rfl) ?_; simp only [pt]))
   refine WO.nil ?_
   simp only [Then, Out]
   refine WC.region ?_
   repeat (first
    | (refine WO.op (by intro; simp only [go_sem, w2]; rfl) ?_; simp only [pt]))
   refine WO.nil ?_
   simp only [Then]
   refine WC.loop (WC.seq (WC.region ?_))
   repeat (first
    | (refine WO.op (by intro; simp only [go_sem]; rfl) ?_; simp only [pt]))
   refine WO.nil ?_
   simp only [Then]
   refine WC.seq (WC.no rfl (WC.exit ?_))
   simp only [Then, Out, if_true]
   refine WC.seq (WC.region ?_)
   repeat (first
    | (refine WO.op (by intro; simp only [go_sem]; rfl) ?_; simp only [pt]))
   refine WO.nil ?_
   simp only [Then]
   exact WC.ret ⟨_, rfl, rfl⟩
  | [a, b, c], _ =>
   refine ⟨.sval false 3 ((outs s [a, b, c]).flatMap pk), .inr ⟨_, rfl⟩, fun y hy hsl => ?_⟩
   have hy2 : ∃ f, y = .sval f 3 ([.int .i64 a, .int .i64 b, .int .i64 c]) := by
    rcases hy with ⟨_, h⟩ | ⟨f, h⟩
    ·cases h
    ·exact ⟨f, h⟩
   obtain ⟨f, rfl⟩ := hy2
   refine WF.fn hs hf (by show 1 ≤ 34; decide) ?_
   unfold ir44; dsimp only [k0, kI, mV, oO, oG]
   simp only [padTo, List.replicate, List.nil_append, List.append_nil]
   refine WC.seq (WC.region ?_)
   repeat (first
    | (refine WO.op (by intro; simp only [go_sem]; rfl) ?_; simp only [pt]))
   refine WO.nil ?_
   simp only [Then]
   refine WC.seq (WC.seq (WC.region ?_))
   repeat (first
    | (refine WO.op (by intro; simp only [go_sem, Zz.look, cut]; rfl) ?_; simp only [pt]))
   refine WO.call rfl rfl (WF.spec hS (h26' _) ?_)
   simp only [pt]
   repeat (first
    | (refine WO.op (by intro; simp only [go_sem]; rfl) ?_; simp only [pt]))
   refine WO.nil ?_
   simp only [Then]
   refine WC.no rfl (WC.skip ?_)
   simp only [Then]
   refine WC.seq (WC.region ?_)
   repeat (first
    | (refine WO.op (by intro; simp only [go_sem]; rfl) ?_; simp only [pt]))
   refine WO.nil ?_
   simp only [Then]
   refine WC.seq (WC.seq (WC.region ?_))
   repeat (first
    | (refine WO.op (by intro; simp only [go_sem, Zz.look, cut]; rfl) ?_; simp only [pt]))
   refine WO.op (by intro; exact ev_lenS (n := qs.length) (by simp only [go_sem]; exact hq.len)) ?_
   simp only [pt]
   refine WO.op (by intro; rw [ev_minmax]; simp only [go_sem, List.map]; rw [minmax4, ← hlen]; rfl) ?_
   simp only [pt]
   refine WO.op (by intro; rw [ev_slice]; simp only [go_sem, Option.map_none]; exact (congrArg (Option.map _) (hsl _)).trans rfl) ?_
   simp only [pt]
   refine WO.op (by intro; exact ev_lenS (n := 3) (by simp only [go_sem]; exact rfl)) ?_
   simp only [pt]
   repeat (first
    | (refine WO.op (by intro; simp only [go_sem]; rfl) ?_; simp only [pt]))
   refine WO.nil ?_
   simp only [Then]
   refine WC.block ?_
   refine WC.loop (WC.seq (WC.region ?_))
   repeat (first
    | (refine WO.op (by intro; simp only [go_sem]; rfl) ?_; simp only [pt]))
   refine WO.nil ?_
   simp only [Then]
   refine WC.seq (WC.yes rfl (WC.skip ?_))
   simp only [Then]
   refine WC.seq (WC.block (WC.seq (WC.region ?_)))
   repeat (first
    | (refine WO.op (by intro; simp only [go_sem, cut, indexAddrAV, idx]; rfl) ?_; simp only [pt]))
   refine WO.nil ?_
   simp only [Then]
   refine WC.region ?_
   repeat (first
    | (refine WO.op (by intro; simp only [go_sem, Zz.look, fillP, over, cut, s0]; rfl) ?_; simp only [pt]))
   refine WO.nil ?_
   simp only [Then, Out]
   refine WC.region ?_
   repeat (first
    | (refine WO.op (by intro; simp only [go_sem, w1]; rfl) ?_; simp only [pt]))
   refine WO.nil ?_
   simp only [Then]
   refine WC.loop (WC.seq (WC.region ?_))
   repeat (first
    | (refine WO.op (by intro; simp only [go_sem]; rfl) ?_; simp only [pt]))
   refine WO.nil ?_
   simp only [Then]
   refine WC.seq (WC.yes rfl (WC.skip ?_))
   simp only [Then]
   refine WC.seq (WC.block (WC.seq (WC.region ?_)))
   repeat (first
    | (refine WO.op (by intro; simp only [go_sem, cut, indexAddrAV, idx]; rfl) ?_; simp only [pt]))
   refine WO.nil ?_
   simp only [Then]
   refine WC.region ?_
   repeat (first
    | (refine WO.op (by intro; simp only [go_sem, Zz.look, fillP, over, cut, s1]; rfl) ?_; simp only [pt]))
   refine WO.nil ?_
   simp only [Then, Out]
   refine WC.region ?_
   repeat (first
    | (refine WO.op (by intro; simp only [go_sem, w2]; rfl) ?_; simp only [pt]))
   refine WO.nil ?_
   simp only [Then]
   refine WC.loop (WC.seq (WC.region ?_))
   repeat (first
    | (refine WO.op (by intro; simp only [go_sem]; rfl) ?_; simp only [pt]))
   refine WO.nil ?_
   simp only [Then]
   refine WC.seq (WC.yes rfl (WC.skip ?_))
   simp only [Then]
   refine WC.seq (WC.block (WC.seq (WC.region ?_)))
   repeat (first
    | (refine WO.op (by intro; simp only [go_sem, cut, indexAddrAV, idx]; rfl) ?_; simp only [pt]))
   refine WO.nil ?_
   simp only [Then]
   refine WC.region ?_
   repeat (first
    | (refine WO.op (by intro; simp only [go_sem, Zz.look, fillP, over, cut, s2]; rfl) ?_; simp only [pt]))
   refine WO.nil ?_
   simp only [Then, Out]
   refine WC.region ?_
   repeat (first
    | (refine WO.op (by intro; simp only [go_sem, w3]; rfl) ?_; simp only [pt]))
   refine WO.nil ?_
   simp only [Then]
   refine WC.loop (WC.seq (WC.region ?_))
   repeat (first
    | (refine WO.op (by intro; simp only [go_sem]; rfl) ?_; simp only [pt]))
   refine WO.nil ?_
   simp only [Then]
   refine WC.seq (WC.no rfl (WC.exit ?_))
   simp only [Then, Out, if_true]
   refine WC.seq (WC.region ?_)
   repeat (first
    | (refine WO.op (by intro; simp only [go_sem]; rfl) ?_; simp only [pt]))
   refine WO.nil ?_
   simp only [Then]
   exact WC.ret ⟨_, rfl, rfl⟩
  | [a, b, c, d], _ =>
   refine ⟨.sval false 4 ((outs s [a, b, c, d]).flatMap pk), .inr ⟨_, rfl⟩, fun y hy hsl => ?_⟩
   have hy2 : ∃ f, y = .sval f 4 ([.int .i64 a, .int .i64 b, .int .i64 c, .int .i64 d]) := by
    rcases hy with ⟨_, h⟩ | ⟨f, h⟩
    ·cases h
    ·exact ⟨f, h⟩
   obtain ⟨f, rfl⟩ := hy2
   refine WF.fn hs hf (by show 1 ≤ 34; decide) ?_
   unfold ir44; dsimp only [k0, kI, mV, oO, oG]
   simp only [padTo, List.replicate, List.nil_append, List.append_nil]
   refine WC.seq (WC.region ?_)
   repeat (first
    | (refine WO.op (by intro; simp only [go_sem]; rfl) ?_; simp only [pt]))
   refine WO.nil ?_
   simp only [Then]
   refine WC.seq (WC.seq (WC.region ?_))
   repeat (first
    | (refine WO.op (by intro; simp only [go_sem, Zz.look, cut]; rfl) ?_; simp only [pt]))
   refine WO.call rfl rfl (WF.spec hS (h26' _) ?_)
   simp only [pt]
   repeat (first
    | (refine WO.op (by intro; simp only [go_sem]; rfl) ?_; simp only [pt]))
   refine WO.nil ?_
   simp only [Then]
   refine WC.no rfl (WC.skip ?_)
   simp only [Then]
   refine WC.seq (WC.region ?_)
   repeat (first
    | (refine WO.op (by intro; simp only [go_sem]; rfl) ?_; simp only [pt]))
   refine WO.nil ?_
   simp only [Then]
   refine WC.seq (WC.seq (WC.region ?_))
   repeat (first
    | (refine WO.op (by intro; simp only [go_sem, Zz.look, cut]; rfl) ?_; simp only [pt]))
   refine WO.op (by intro; exact ev_lenS (n := qs.length) (by simp only [go_sem]; exact hq.len)) ?_
   simp only [pt]
   refine WO.op (by intro; rw [ev_minmax]; simp only [go_sem, List.map]; rw [minmax4, ← hlen]; rfl) ?_
   simp only [pt]
   refine WO.op (by intro; rw [ev_slice]; simp only [go_sem, Option.map_none]; exact (congrArg (Option.map _) (hsl _)).trans rfl) ?_
   simp only [pt]
   refine WO.op (by intro; exact ev_lenS (n := 4) (by simp only [go_sem]; exact rfl)) ?_
   simp only [pt]
   repeat (first
    | (refine WO.op (by intro; simp only [go_sem]; rfl) ?_; simp only [pt]))
   refine WO.nil ?_
   simp only [Then]
   refine WC.block ?_
   refine WC.loop (WC.seq (WC.region ?_))
   repeat (first
    | (refine WO.op (by intro; simp only [go_sem]; rfl) ?_; simp only [pt]))
   refine WO.nil ?_
   simp only [Then]
   refine WC.seq (WC.yes rfl (WC.skip ?_))
   simp only [Then]
   refine WC.seq (WC.block (WC.seq (WC.region ?_)))
   repeat (first
    | (refine WO.op (by intro; simp only [go_sem, cut, indexAddrAV, idx]; rfl) ?_; simp only [pt]))
   refine WO.nil ?_
   simp only [Then]
   refine WC.region ?_
   repeat (first
    | (refine WO.op (by intro; simp only [go_sem, Zz.look, fillP, over, cut, s0]; rfl) ?_; simp only [pt]))
   refine WO.nil ?_
   simp only [Then, Out]
   refine WC.region ?_
   repeat (first
    | (refine WO.op (by intro; simp only [go_sem, w1]; rfl) ?_; simp only [pt]))
   refine WO.nil ?_
   simp only [Then]
   refine WC.loop (WC.seq (WC.region ?_))
   repeat (first
    | (refine WO.op (by intro; simp only [go_sem]; rfl) ?_; simp only [pt]))
   refine WO.nil ?_
   simp only [Then]
   refine WC.seq (WC.yes rfl (WC.skip ?_))
   simp only [Then]
   refine WC.seq (WC.block (WC.seq (WC.region ?_)))
   repeat (first
    | (refine WO.op (by intro; simp only [go_sem, cut, indexAddrAV, idx]; rfl) ?_; simp only [pt]))
   refine WO.nil ?_
   simp only [Then]
   refine WC.region ?_
   repeat (first
    | (refine WO.op (by intro; simp only [go_sem, Zz.look, fillP, over, cut, s1]; rfl) ?_; simp only [pt]))
   refine WO.nil ?_
   simp only [Then, Out]
   refine WC.region ?_
   repeat (first
    | (refine WO.op (by intro; simp only [go_sem, w2]; rfl) ?_; simp only [pt]))
   refine WO.nil ?_
   simp only [Then]
   refine WC.loop (WC.seq (WC.region ?_))
   repeat (first
    | (refine WO.op (by intro; simp only [go_sem]; rfl) ?_; simp only [pt]))
   refine WO.nil ?_
   simp only [Then]
   refine WC.seq (WC.yes rfl (WC.skip ?_))
   simp only [Then]
   refine WC.seq (WC.block (WC.seq (WC.region ?_)))
   repeat (first
    | (refine WO.op (by intro; simp only [go_sem, cut, indexAddrAV, idx]; rfl) ?_; simp only [pt]))
   refine WO.nil ?_
   simp only [Then]
   refine WC.region ?_
   repeat (first
    | (refine WO.op (by intro; simp only [go_sem, Zz.look, fillP, over, cut, s2]; rfl) ?_; simp only [pt]))
   refine WO.nil ?_
   simp only [Then, Out]
   refine WC.region ?_
   repeat (first
    | (refine WO.op (by intro; simp only [go_sem, w3]; rfl) ?_; simp only [pt]))
   refine WO.nil ?_
   simp only [Then]
   refine WC.loop (WC.seq (WC.region ?_))
   repeat (first
    | (refine WO.op (by intro; simp only [go_sem]; rfl) ?_; simp only [pt]))
   refine WO.nil ?_
   simp only [Then]
   refine WC.seq (WC.yes rfl (WC.skip ?_))
   simp only [Then]
   refine WC.seq (WC.block (WC.seq (WC.region ?_)))
   repeat (first
    | (refine WO.op (by intro; simp only [go_sem, cut, indexAddrAV, idx]; rfl) ?_; simp only [pt]))
   refine WO.nil ?_
   simp only [Then]
   refine WC.region ?_
   repeat (first
    | (refine WO.op (by intro; simp only [go_sem, Zz.look, fillP, over, cut, s3]; rfl) ?_; simp only [pt]))
   refine WO.nil ?_
   simp only [Then, Out]
   refine WC.region ?_
   repeat (first
    | (refine WO.op (by intro; simp only [go_sem, w4]; rfl) ?_; simp only [pt]))
   refine WO.nil ?_
   simp only [Then]
   refine WC.loop (WC.seq (WC.region ?_))
   repeat (first
    | (refine WO.op (by intro; simp only [go_sem]; rfl) ?_; simp only [pt]))
   refine WO.nil ?_
   simp only [Then]
   refine WC.seq (WC.no rfl (WC.exit ?_))
   simp only [Then, Out, if_true]
   refine WC.seq (WC.region ?_)
   repeat (first
    | (refine WO.op (by intro; simp only [go_sem]; rfl) ?_; simp only [pt]))
   refine WO.nil ?_
   simp only [Then]
   exact WC.ret ⟨_, rfl, rfl⟩
  | _ :: _ :: _ :: _ :: _ :: _, h => exact absurd h (by simp)
 obtain ⟨v, hv, h⟩ := key
 obtain ⟨y, hy, hsl⟩ := hq.upto (n := min 4 qs.length) (by omega)
 exact ⟨v, hv, h y hy hsl⟩
end Go.Proofs.YtgchabldcnmccacGreatDoor.Ln


set_option maxRecDepth 100000
set_option maxHeartbeats 8000000
namespace Go.Proofs.YtgchabldcnmccacGreatDoor.Ln
open Go.Zz
def pcells (ps : List Pkt) : List AV := ps.flatMap pk
theorem pk_len (p : Pkt) : (pk p).length = 3 := rfl
theorem pcells_len : ∀ ps : List Pkt, (pcells ps).length = ps.length * 3
 | [] => rfl
 | p :: ps => by
  have := pcells_len ps
  simp only [pcells, List.flatMap_cons, List.length_append, pk_len, List.length_cons] at this ⊢
  omega
theorem pcells_append (a b : List Pkt) : pcells (a ++ b) = pcells a ++ pcells b := by simp [pcells]
theorem pcells_take : ∀ (i : Nat) (ps : List Pkt), (pcells ps).take (i * 3) = pcells (ps.take i)
 | 0, ps => by simp [pcells]
 | i + 1, [] => by simp [pcells]
 | i + 1, p :: ps => by
  have e : (i + 1) * 3 = (pk p).length + i * 3 := by simp only [pk_len]; omega
  have := pcells_take i ps
  simp only [pcells, List.flatMap_cons, List.take_succ_cons] at this ⊢
  rw [e, List.take_length_add_append, this]
theorem pcells_drop : ∀ (i : Nat) (ps : List Pkt), (pcells ps).drop (i * 3) = pcells (ps.drop i)
 | 0, ps => by simp [pcells]
 | i + 1, [] => by simp [pcells]
 | i + 1, p :: ps => by
  have e : (i + 1) * 3 = (pk p).length + i * 3 := by simp only [pk_len]; omega
  have := pcells_drop i ps
  simp only [pcells, List.flatMap_cons, List.drop_succ_cons] at this ⊢
  rw [e, List.drop_length_add_append, this]
def QS (n0 : Nat) (H : Hp) (x : AV) (ps : List Pkt) : Prop :=
 (x = .snil ∧ ps = []) ∨ ∃ f g rest, x = .sref f g 0 3 ps.length none ∧ n0 ≤ f ∧ Zz.look H f g = some (pcells ps ++ rest)
section
variable {H : Hp} {L : List (Option ALoop)} {f g n i : Nat} {l : List AV}
theorem sl_check (hi : i < n) : ∃ v, sliceAV H 3 (.sref f g 0 3 n none) (some (.int .i64 i)) (some (.int .i64 (i + 1 : Nat))) (some (.int .i64 n)) = some v := by
 simp only [sliceAV, if_true, bnds, bndO, bnd, Option.isNone_none, Option.isSome_some, Bool.and_self, Option.getD_none]
 have hk : n ≤ kcap H 3 f g 0 n := by unfold kcap; split <;> omega
 rw [if_pos ⟨by omega, by omega⟩]
 simp only [Int.toNat_natCast]
 rw [if_pos ⟨by omega, by omega⟩]
 simp only [Int.toNat_natCast]
 rw [if_pos ⟨by omega, by omega⟩]
 exact ⟨_, rfl⟩
theorem sl_front (hi : i ≤ n) : sliceAV H 3 (.sref f g 0 3 n none) none (some (.int .i64 i)) none = some (.sref f g 0 3 i none) := by
 simp only [sliceAV, if_true, bnds, bndO, bnd, Option.isNone_none, Option.isSome_some, Bool.and_self, Option.getD_none]
 have hk : n ≤ kcap H 3 f g 0 n := by unfold kcap; split <;> omega
 rw [if_pos ⟨by omega, by omega⟩]
 simp
theorem sl_back (hl : Zz.look H f g = some l) (hn : n * 3 ≤ l.length) (hi : i < n) : ∃ v, sliceAV H 3 (.sref f g 0 3 n none) (some (.int .i64 (i + 1 : Nat))) none none = some v ∧ slen v = some (n - (i + 1)) ∧ scells H 3 v = some ((l.drop ((i + 1) * 3)).take ((n - (i + 1)) * 3)) := by
 simp only [sliceAV, if_true, bnds, bndO, bnd, Option.isNone_none, Option.isSome_none, Bool.and_false, Bool.false_eq_true, if_false, Option.getD_none]
 rw [if_pos ⟨by omega, by omega⟩]
 simp only [Int.toNat_natCast, Option.bind_some]
 rw [if_neg (by omega)]
 by_cases h0 : n - (i + 1) = 0
 ·rw [if_pos h0]
  refine ⟨_, rfl, by simp [slen, h0], ?_⟩
  simp [scells, h0]
 ·rw [if_neg h0]
  refine ⟨_, rfl, rfl, ?_⟩
  simp only [scells, if_true, hl, Option.bind_some, cut, Nat.zero_add]
  rw [if_pos (by omega)]
theorem app_back {v : AV} {xs : List AV} (hl : Zz.look H f g = some l) (hn : n * 3 ≤ l.length) (hi : i < n) (hv : slen v = some (n - (i + 1))) (hc : scells H 3 v = some xs) (hx : xs.length = (n - (i + 1)) * 3) :
  appendAV 3 24 ⟨H, L⟩ (.sref f g 0 3 i none) v = some (.sref f g 0 3 (n - 1) none, ⟨H.set f (some ⟨g, l.take (i * 3) ++ xs ++ l.drop ((n - 1) * 3)⟩), L⟩) := by
 simp only [appendAV, hv, hc, Option.bind_eq_bind, Option.bind_some, if_true, hl, cut, Nat.zero_add]
 rw [if_pos (by omega)]
 simp only [Option.bind_some]
 rw [if_pos (by omega)]
 simp only [storeAt, hl, Option.bind_eq_bind, Option.bind_some, over]
 rw [if_pos (by omega)]
 simp only [Option.bind_some, setBlk]
 have e1 : i + (n - (i + 1)) = n - 1 := by omega
 have e2 : i * 3 + xs.length = (n - 1) * 3 := by omega
 rw [e1, e2]
theorem sl_tail (hl : Zz.look H f g = some l) (hn : n * 3 ≤ l.length) (h0 : 0 < n) : ∃ v, sliceAV H 3 (.sref f g 0 3 (n - 1) none) (some (.int .i64 (n - 1 : Nat))) (some (.int .i64 n)) none = some v ∧
  ∀ z : List AV, z.length = 3 → clearAV z ⟨H, L⟩ v = some ⟨H.set f (some ⟨g, l.take ((n - 1) * 3) ++ z ++ l.drop (n * 3)⟩), L⟩ := by
 simp only [sliceAV, if_true, bnds, bndO, bnd, Option.isNone_none, Option.isSome_some, Bool.and_self, Option.getD_none]
 have hk : n ≤ kcap H 3 f g 0 (n - 1) := by unfold kcap; rw [hl]; simp only [Nat.sub_zero]; omega
 rw [if_pos ⟨by omega, by omega⟩]
 simp only [Int.toNat_natCast]
 rw [if_pos ⟨by omega, by omega⟩]
 simp only [Int.toNat_natCast, Option.bind_some]
 have key : ∀ off, off = (n - 1) * 3 → ∀ z : List AV, z.length = 3 → (storeAt H f g off (zeros z 1)).map (fun H => (⟨H, L⟩ : Mem)) = some ⟨H.set f (some ⟨g, l.take ((n - 1) * 3) ++ z ++ l.drop (n * 3)⟩), L⟩ := by
  intro off ho z hz
  subst ho
  simp only [storeAt, hl, Option.bind_eq_bind, Option.bind_some, over, zeros, List.append_nil]
  rw [if_pos (by omega)]
  simp only [Option.bind_some, Option.map_some, setBlk]
  rw [show (n - 1) * 3 + z.length = n * 3 by omega]
 by_cases h1 : n - 1 = 0
 ·rw [if_pos h1]
  refine ⟨_, rfl, fun z hz => ?_⟩
  have : n = 1 := by omega
  subst this
  simp only [clearAV]
  rw [if_neg (by omega)]
  exact key 0 rfl z hz
 ·rw [if_neg h1, if_neg (by omega)]
  refine ⟨_, rfl, fun z hz => ?_⟩
  simp only [clearAV]
  rw [if_neg (by omega), show n - (n - 1) = 1 by omega]
  exact key _ (by omega) z hz
end
end Go.Proofs.YtgchabldcnmccacGreatDoor.Ln


set_option maxRecDepth 100000
set_option maxHeartbeats 8000000
namespace Go.Proofs.YtgchabldcnmccacGreatDoor.Ln
open Go.Zz
section
variable {Γ : Env} {H : Hp} {L : List (Option ALoop)} {n0 : Nat}
theorem del_run (hs : Γ.spec 48 = none) (hf : Γ.fn 48 = some ir48) {f g i : Nat} {ps : List Pkt} {rest : List AV} (hl : Zz.look H f g = some (pcells ps ++ rest)) (hi : i < ps.length) :
  WF Γ (.func 48 [] []) [.sref f g 0 3 ps.length none, .int .i64 i, .int .i64 (i + 1 : Nat)] ⟨H, L⟩ fun y m' => y = .sref f g 0 3 (ps.length - 1) none ∧ ∃ rest', m' = ⟨H.set f (some ⟨g, pcells (ps.eraseIdx i) ++ rest'⟩), L⟩ := by
 generalize hn : ps.length = n at hi ⊢
 have hlen : n * 3 ≤ (pcells ps ++ rest).length := by rw [List.length_append, pcells_len]; omega
 obtain ⟨v13, e13⟩ := sl_check (H := H) (f := f) (g := g) hi
 have e22 := sl_front (H := H) (f := f) (g := g) (Nat.le_of_lt hi)
 obtain ⟨v25, e25, s25, c25⟩ := sl_back hl hlen hi
 have eapp := app_back (L := L) hl hlen hi s25 c25 (by rw [List.length_take, List.length_drop]; omega)
 have hf0 := look_lt hl
 obtain ⟨b0, hb0⟩ := look_some hl
 generalize hl1 : (pcells ps ++ rest).take (i * 3) ++ ((pcells ps ++ rest).drop ((i + 1) * 3)).take ((n - (i + 1)) * 3) ++ (pcells ps ++ rest).drop ((n - 1) * 3) = l1 at eapp
 have hlook1 : Zz.look (H.set f (some ⟨g, l1⟩)) f g = some l1 := look_set hf0
 have hlen1 : n * 3 ≤ l1.length := by
  rw [← hl1]
  simp only [List.length_append, List.length_take, List.length_drop] at hlen ⊢
  omega
 obtain ⟨v31, e31, ecl⟩ := sl_tail (L := L) hlook1 hlen1 (by omega)
 have hcl := ecl [.bool false, .int .i64 0, .int .i64 0] rfl
 have hne : ((i : Int) == ((i + 1 : Nat) : Int)) = false := by simp; omega
 refine WF.fn hs hf (by show 3 ≤ 33; decide) ?_
 unfold ir48; dsimp only [k0, kI, mV, oO, oG]
 simp only [padTo, List.replicate, List.nil_append, List.append_nil]
 refine WC.seq (WC.region ?_)
 repeat (first
  | (refine WO.op (by intro; simp only [go_sem]; rfl) ?_; simp only [pt]))
 refine WO.nil ?_
 simp only [Then]
 refine WC.seq (WC.region ?_)
 refine WO.op (by intro; simp only [go_sem]; rfl) ?_
 simp only [pt]
 refine WO.op (by intro; simp only [go_sem]; rfl) ?_
 simp only [pt]
 refine WO.op (by intro; simp only [go_sem]; rfl) ?_
 simp only [pt]
 refine WO.op (by intro; simp only [go_sem]; rfl) ?_
 simp only [pt]
 refine WO.op (by intro; exact ev_lenS (n := n) (by simp only [go_sem]; exact rfl)) ?_
 simp only [pt]
 refine WO.op (by intro; rw [ev_slice]; simp only [go_sem]; exact (congrArg (Option.map _) e13).trans rfl) ?_
 simp only [pt]
 refine WO.nil ?_
 simp only [Then]
 refine WC.seq (WC.seq (WC.region ?_))
 repeat (first
  | (refine WO.op (by intro; simp only [go_sem]; rfl) ?_; simp only [pt]))
 refine WO.nil ?_
 simp only [Then]
 refine WC.no (by simp only [go_sem, hne]) (WC.skip ?_)
 simp only [Then]
 refine WC.seq (WC.region ?_)
 refine WO.op (by intro; simp only [go_sem]; rfl) ?_
 simp only [pt]
 refine WO.op (by intro; exact ev_lenS (n := n) (by simp only [go_sem]; exact rfl)) ?_
 simp only [pt]
 repeat (first
  | (refine WO.op (by intro; simp only [go_sem]; rfl) ?_; simp only [pt]))
 refine WO.nil ?_
 simp only [Then]
 refine WC.seq (WC.draw ?_)
 refine WD.calm (a := [⟨⟨none, some 20, .move (.tmp 0)⟩, []⟩, ⟨⟨none, some 21, .move (.tmp 1)⟩, []⟩, ⟨⟨none, some 22, .slice 3 (.tmp 20) none (some (.tmp 21)) none⟩, []⟩, ⟨⟨none, some 23, .move (.tmp 0)⟩, []⟩, ⟨⟨none, some 24, .move (.tmp 2)⟩, []⟩, ⟨⟨none, some 25, .slice 3 (.tmp 23) (some (.tmp 24)) none none⟩, []⟩]) rfl ?_
 simp only [List.map]
 refine WO.op (by intro; simp only [go_sem]; rfl) ?_
 simp only [pt]
 refine WO.op (by intro; simp only [go_sem]; rfl) ?_
 simp only [pt]
 refine WO.op (by intro; rw [ev_slice]; simp only [go_sem]; exact (congrArg (Option.map _) e22).trans rfl) ?_
 simp only [pt]
 refine WO.op (by intro; simp only [go_sem]; rfl) ?_
 simp only [pt]
 refine WO.op (by intro; simp only [go_sem]; rfl) ?_
 simp only [pt]
 refine WO.op (by intro; rw [ev_slice]; simp only [go_sem]; exact (congrArg (Option.map _) e25).trans rfl) ?_
 simp only [pt]
 refine WO.nil ?_
 intro seen
 refine WD.plain rfl rfl (by intro; rw [ev_append]; simp only [go_sem]; exact eapp) (by have := dead_setS (b := ⟨g, l1⟩) hb0 []; simpa using this) ?_
 intro seen2
 simp only [St.put, pt]
 refine WD.free rfl (by intro; simp only [go_sem]; rfl) ?_
 simp only [pt]
 refine WD.nil ?_
 simp only [Then]
 refine WC.seq (WC.region ?_)
 refine WO.op (by intro; simp only [go_sem]; rfl) ?_
 simp only [pt]
 refine WO.op (by intro; simp only [go_sem]; rfl) ?_
 simp only [pt]
 refine WO.op (by intro; exact ev_lenS (n := n - 1) (by simp only [go_sem]; exact rfl)) ?_
 simp only [pt]
 refine WO.op (by intro; simp only [go_sem]; rfl) ?_
 simp only [pt]
 refine WO.op (by intro; rw [ev_slice]; simp only [go_sem]; exact (congrArg (Option.map _) e31).trans rfl) ?_
 simp only [pt]
 refine WO.opN (by intro; rw [ev_clear]; simp only [go_sem]; exact (congrArg (Option.map _) hcl).trans rfl) ?_
 refine WO.nil ?_
 simp only [Then]
 refine WC.seq (WC.region ?_)
 repeat (first
  | (refine WO.op (by intro; simp only [go_sem]; rfl) ?_; simp only [pt]))
 refine WO.nil ?_
 simp only [Then]
 refine WC.ret ⟨_, rfl, rfl, [.bool false, .int .i64 0, .int .i64 0] ++ rest, ?_⟩
 simp only [St.mem, List.set_set, Mem.mk.injEq, and_true]
 congr 3
 rw [← hl1]
 have hA : (pcells ps).length = n * 3 := by rw [pcells_len, hn]
 have e1 : (pcells ps ++ rest).take (i * 3) = pcells (ps.take i) := by
  rw [List.take_append_of_le_length (by omega), pcells_take]
 have e2 : ((pcells ps ++ rest).drop ((i + 1) * 3)).take ((n - (i + 1)) * 3) = pcells (ps.drop (i + 1)) := by
  rw [List.drop_append_of_le_length (by omega), List.take_append_of_le_length (by rw [List.length_drop]; omega), pcells_drop, List.take_of_length_le]
  rw [pcells_len, List.length_drop]; omega
 have e3 : (pcells ps ++ rest).drop ((n - 1) * 3) = (pcells ps).drop ((n - 1) * 3) ++ rest := List.drop_append_of_le_length (by omega)
 rw [e1, e2, e3, ← pcells_append]
 have e4 : ps.take i ++ ps.drop (i + 1) = ps.eraseIdx i := (List.eraseIdx_eq_take_drop_succ ps i).symm
 rw [e4]
 have hB : (pcells (ps.eraseIdx i)).length = (n - 1) * 3 := by rw [pcells_len, List.length_eraseIdx_of_lt (by omega), hn]
 have hB2 : ((pcells ps).drop ((n - 1) * 3)).length = 3 := by rw [List.length_drop]; omega
 rw [List.take_append_of_le_length (by omega), List.take_of_length_le (by omega), List.drop_append, List.drop_of_length_le (by omega), List.drop_append, List.drop_of_length_le (by omega)]
 have e5 : n * 3 - (pcells (ps.eraseIdx i)).length - ((pcells ps).drop ((n - 1) * 3)).length = 0 := by omega
 rw [e5]
 simp
theorem put_some (hs : Γ.spec 45 = none) (hf : Γ.fn 45 = some ir45) {r o f g : Nat} {C : List AV} {ps qs : List Pkt} {rest : List AV} {x : AV} (hC : Zz.look H r 0 = some C) (ho : C[o]? = some (.sref f g 0 3 ps.length none)) (hl : Zz.look H f g = some (pcells ps ++ rest)) (hfr : f ≠ r)
  (hx : slen x = some qs.length) (hc : scells H 3 x = some (pcells qs)) (hmax : ps.length + qs.length ≤ 1000000) :
  WF Γ (.func 45 [] []) [.pref r 0 o, x] ⟨H, L⟩ fun y m' => ∃ g' rest', m' = ⟨(H.set f (some ⟨g', pcells (ps ++ qs) ++ rest'⟩)).set r (some ⟨0, C.set o (.sref f g' 0 3 (ps.length + qs.length) none)⟩), L⟩ := by
 have hf0 := look_lt hl
 have hr0 := look_lt hC
 have hoC : o < C.length := (List.getElem?_eq_some_iff.1 ho).1
 have hlen : (pcells ps).length = ps.length * 3 := pcells_len ps
 have hq : (pcells qs).length = qs.length * 3 := pcells_len qs
 have eapp : ∃ g' rest', appendAV 3 24 ⟨H, L⟩ (.sref f g 0 3 ps.length none) x = some (.sref f g' 0 3 (ps.length + qs.length) none, ⟨H.set f (some ⟨g', pcells (ps ++ qs) ++ rest'⟩), L⟩) := by
  simp only [appendAV, hx, hc, Option.bind_eq_bind, Option.bind_some, if_true, hl, cut, Nat.zero_add, List.length_append]
  rw [if_pos (by omega)]
  simp only [Option.bind_some]
  by_cases h : (ps.length + qs.length) * 3 ≤ (pcells ps).length + rest.length
  ·rw [if_pos h]
   simp only [storeAt, hl, Option.bind_eq_bind, Option.bind_some, over, List.length_append]
   rw [if_pos (by omega)]
   simp only [Option.bind_some, setBlk]
   refine ⟨g, (pcells ps ++ rest).drop (ps.length * 3 + (pcells qs).length), ?_⟩
   rw [← hlen, List.take_left, pcells_append]
  ·rw [if_neg h, if_pos (by omega)]
   refine ⟨g + 1, [], ?_⟩
   simp only [setBlk, List.drop_zero, List.append_nil, pcells_append]
   rw [← hlen, List.take_left]
 obtain ⟨g', rest', eapp⟩ := eapp
 have hC2 : Zz.look (H.set f (some ⟨g', pcells (ps ++ qs) ++ rest'⟩)) r 0 = some C := by rw [← hC]; exact look_of_get (List.getElem?_set_ne hfr)
 have hov := over_one (x := AV.sref f g' 0 3 (ps.length + qs.length) none) hoC
 refine WF.fn hs hf (by show 2 ≤ 13; decide) ?_
 unfold ir45; dsimp only [k0, kI, mV, oO, oG]
 simp only [padTo, List.replicate, List.nil_append, List.append_nil]
 refine WC.region ?_
 repeat (first
  | (refine WO.op (by intro; simp only [go_sem, cut, nilCheckAV, hC, ho]; rfl) ?_; simp only [pt]))
 refine WO.op (by intro; rw [ev_append]; simp only [go_sem]; exact eapp) ?_
 simp only [pt]
 refine WO.op (by intro; simp only [go_sem, nilCheckAV]; rfl) ?_
 simp only [pt]
 refine WO.op (by intro; simp only [go_sem]; rfl) ?_
 simp only [pt]
 refine WO.opN (by intro; rw [ev_store]; simp only [go_sem, storeAt, hC2, hov, Option.bind_eq_bind]; rfl) ?_
 refine WO.nil ?_
 refine ⟨_, rfl, g', rest', ?_⟩
 rfl
end
end Go.Proofs.YtgchabldcnmccacGreatDoor.Ln


set_option maxRecDepth 100000
set_option maxHeartbeats 8000000
namespace Go.Proofs.YtgchabldcnmccacGreatDoor.Ln
open Go.Zz
def owns (x : AV) (id : Nat) : Prop := ∃ g o s n c, x = .sref id g o s n c
theorem owns_sref {f g o s n : Nat} {c : Option Nat} {id : Nat} (h : owns (.sref f g o s n c) id) : id = f := by
 obtain ⟨_, _, _, _, _, e⟩ := h
 cases e; rfl
theorem owns_mk {f g o s n : Nat} {c : Option Nat} : owns (.sref f g o s n c) f := ⟨_, _, _, _, _, rfl⟩
theorem owns_snil {id : Nat} (h : owns .snil id) : False := by
 obtain ⟨_, _, _, _, _, e⟩ := h
 cases e
section
variable {Γ : Env} {H : Hp} {L : List (Option ALoop)} {n0 : Nat}
structure QStep (n0 : Nat) (H H' : Hp) (r o : Nat) (C : List AV) (it it' : AV) (ps' : List Pkt) : Prop where
 at_ : Zz.look H' r 0 = some (C.set o it')
 qs : QS n0 H' it' ps'
 own : ∀ id, owns it' id → owns it id ∨ H.length ≤ id
 same : Same H H' H.length (fun id => id = r ∨ owns it id)
theorem put_run (hs : Γ.spec 45 = none) (hf : Γ.fn 45 = some ir45) {r o : Nat} {C : List AV} {ps qs : List Pkt} {it x : AV} (hC : Zz.look H r 0 = some C) (ho : C[o]? = some it) (hq : QS n0 H it ps) (hr : r < n0) (hn0 : n0 ≤ H.length)
  (hx : slen x = some qs.length) (hc : scells H 3 x = some (pcells qs)) (hmax : ps.length + qs.length ≤ 1000000) :
  WF Γ (.func 45 [] []) [.pref r 0 o, x] ⟨H, L⟩ fun y m' => m'.loops = L ∧ ∃ it', QStep n0 H m'.heap r o C it it' (ps ++ qs) := by
 have hr0 := look_lt hC
 obtain ⟨br, hbr⟩ := look_some hC
 have hoC : o < C.length := (List.getElem?_eq_some_iff.1 ho).1
 rcases hq with ⟨rfl, rfl⟩ | ⟨f, g, rest, rfl, hfn, hl⟩
 ·have hq : (pcells qs).length = qs.length * 3 := pcells_len qs
  have key : ∀ it' R, appendAV 3 24 ⟨H, L⟩ .snil x = some (it', ⟨H ++ R, L⟩) → WF Γ (.func 45 [] []) [.pref r 0 o, x] ⟨H, L⟩ fun y m' => m' = ⟨(H ++ R).set r (some ⟨0, C.set o it'⟩), L⟩ := by
   intro it' R eapp
   have hC2 : Zz.look (H ++ R) r 0 = some C := by rw [look_left hr0]; exact hC
   have hsc : it'.cells = some [it'] := by
    simp only [appendAV, hx, hc, Option.bind_eq_bind, Option.bind_some] at eapp
    split at eapp
    ·simp only [Option.some.injEq, Prod.mk.injEq] at eapp; rw [← eapp.1]; rfl
    ·split at eapp
     ·simp only [Option.some.injEq, Prod.mk.injEq] at eapp; rw [← eapp.1]; rfl
     ·cases eapp
   have hov := over_one (x := it') hoC
   refine WF.fn hs hf (by show 2 ≤ 13; decide) ?_
   unfold ir45; dsimp only [k0, kI, mV, oO, oG]
   simp only [padTo, List.replicate, List.nil_append, List.append_nil]
   refine WC.region ?_
   repeat (first
    | (refine WO.op (by intro; simp only [go_sem, cut, nilCheckAV, hC, ho]; rfl) ?_; simp only [pt]))
   refine WO.op (by intro; rw [ev_append]; simp only [go_sem]; exact eapp) ?_
   simp only [pt]
   refine WO.op (by intro; simp only [go_sem, nilCheckAV]; rfl) ?_
   simp only [pt]
   refine WO.op (by intro; simp only [go_sem]; rfl) ?_
   simp only [pt]
   refine WO.opN (by intro; rw [ev_store]; simp only [Opd.ev, gt, hsc, storeAt, hC2, hov, Option.bind_eq_bind, Option.bind_some, List.length_cons, List.length_nil, Nat.zero_add, if_true, Option.map_some, setBlk]; rfl) ?_
   refine WO.nil ?_
   exact ⟨_, rfl, rfl⟩
  by_cases h0 : qs.length = 0
  ·have e : qs = [] := List.eq_nil_of_length_eq_zero h0
   subst e
   refine (key .snil [] ?_).mono fun y m' e => ?_
   ·simp only [appendAV, hx, hc, Option.bind_eq_bind, Option.bind_some, List.length_nil, if_true, List.append_nil]
   ·subst e
    refine ⟨rfl, .snil, ?_, .inl ⟨rfl, rfl⟩, fun id h => absurd h owns_snil, ?_⟩
    ·simp only [List.append_nil]; exact look_set hr0
    ·simp only [List.append_nil]; exact Same.setL (.inl rfl) hbr
  ·refine (key (.sref H.length 0 0 3 qs.length none) [some (Blk.mk 0 (pcells qs))] ?_).mono fun y m' e => ?_
   ·simp only [appendAV, hx, hc, Option.bind_eq_bind, Option.bind_some]
    rw [if_neg h0, if_pos (by simp only [List.length_nil] at hmax; omega)]
    rfl
   ·subst e
    have hr1 : r < (H ++ [some (Blk.mk 0 (pcells qs))]).length := by simp; omega
    refine ⟨rfl, .sref H.length 0 0 3 qs.length none, look_set hr1, .inr ⟨H.length, 0, [], rfl, hn0, ?_⟩, fun id h => .inr (by rw [owns_sref h]; exact Nat.le_refl _), ?_⟩
    ·rw [show Zz.look (List.set (H ++ [some (Blk.mk 0 (pcells qs))]) r (some ⟨0, C.set o (.sref H.length 0 0 3 qs.length none)⟩)) H.length 0 = Zz.look (H ++ [some (Blk.mk 0 (pcells qs))]) H.length 0 from look_of_get (List.getElem?_set_ne (by omega)), look_right0]
     simp [Zz.look]
    ·have s1 : Same H (H ++ [some (Blk.mk 0 (pcells qs))]) H.length (fun id => id = r ∨ owns .snil id) := Same.app _
     exact s1.trans (Same.setL (.inl rfl) (by rw [List.getElem?_append_left hr0]; exact hbr))
 ·have hfr : f ≠ r := by omega
  obtain ⟨bf, hbf⟩ := look_some hl
  have hf0 := look_lt hl
  refine (put_some (L := L) hs hf hC ho hl hfr hx hc hmax).mono ?_
  rintro y m' ⟨g', rest', rfl⟩
  refine ⟨rfl, .sref f g' 0 3 (ps.length + qs.length) none, look_set (by simpa using hr0), .inr ⟨f, g', rest', by simp, hfn, ?_⟩, fun id h => .inl (by rw [owns_sref h]; exact owns_mk), ?_⟩
  ·rw [show Zz.look (List.set (H.set f (some ⟨g', pcells (ps ++ qs) ++ rest'⟩)) r (some ⟨0, C.set o (.sref f g' 0 3 (ps.length + qs.length) none)⟩)) f g' = Zz.look (H.set f (some ⟨g', pcells (ps ++ qs) ++ rest'⟩)) f g' from look_of_get (List.getElem?_set_ne (Ne.symm hfr)), look_set hf0]
  ·exact Same.trans (Same.setL (.inr owns_mk) hbf) (Same.setL (.inl rfl) (by rw [List.getElem?_set_ne hfr]; exact hbr))
end
end Go.Proofs.YtgchabldcnmccacGreatDoor.Ln

