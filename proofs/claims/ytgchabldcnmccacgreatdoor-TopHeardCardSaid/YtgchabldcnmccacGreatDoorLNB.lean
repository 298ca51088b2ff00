import Derived.Test.YtgchabldcnmccacGreatDoorLNA

set_option linter.unusedSimpArgs false
set_option linter.unusedVariables false

set_option maxRecDepth 100000
set_option maxHeartbeats 8000000
namespace Go.Proofs.YtgchabldcnmccacGreatDoor.Ln
open Go.Zz
theorem take_bad {Γ : Env} {ps bd : Int} {ack : Bool} {g : AV} {gs : List Int} (hs : Γ.spec 47 = none) (hf : Γ.fn 47 = some ir47) (hg : IntS g gs) (hmax : gs.length < 9223372036854775808)
  (hbad : ¬ (gs.length ≤ 1000 ∧ ack = false ∧ 0 ≤ ps ∧ ps < 1000)) :
  WF Γ (.func 47 [] []) [.agg [g], .agg [.bool ack, .int .i64 ps, .int .i64 bd]] ⟨[], []⟩ fun y m' => resV m'.heap y = some (.tuple [.agg [.snil], .agg [.bool false, .int .i64 0, .int .i64 0], .int .i64 1]) := by
 refine WF.fn hs hf (by show 2 ≤ 46; decide) ?_
 unfold ir47; dsimp only [k0, kI, mV, oO, oG]
 simp only [padTo, List.replicate, List.nil_append, List.append_nil]
 refine WC.seq (WC.region ?_)
 repeat (first
  | (refine WO.op (by intro; simp only [go_sem]; rfl) ?_; simp only [pt]))
 refine WO.nil ?_
 simp only [Then]
 refine WC.seq (WC.seq (WC.region ?_))
 repeat (first
  | (refine WO.op (by intro; simp only [go_sem, Zz.look, cut]; rfl) ?_; simp only [pt]))
 refine WO.op (by intro; exact ev_lenS (n := gs.length) (by simp only [go_sem]; exact hg.len)) ?_
 simp only [pt]
 by_cases c0 : (1000 : Int) < gs.length
 ·repeat (first
   | (refine WO.yes rfl ?_)
   | (refine WO.no rfl ?_; simp only [pt])
   | (refine WO.op (by intro; simp only [go_sem, c0, decide_true]; rfl) ?_; simp only [pt])
   | (refine WO.opN (by intro; simp only [go_sem, Zz.look, storeAt, over, setBlk, cut, c0, decide_true]; rfl) ?_))
  refine WO.nil ?_
  simp only [Then]
  refine WC.yes (by simp only [go_sem]) (WC.seq (WC.region ?_))
  repeat (first
   | (refine WO.op (by intro; simp only [go_sem, fillP]; rfl) ?_; simp only [pt])
   | (refine WO.opN (by intro; simp only [go_sem, Zz.look, storeAt, over, setBlk]; rfl) ?_))
  refine WO.nil ?_
  simp only [Then]
  exact WC.ret ⟨_, rfl, rfl⟩
 ·cases ack with
  | true =>
   repeat (first
    | (refine WO.yes rfl ?_)
    | (refine WO.no rfl ?_; simp only [pt])
    | (refine WO.op (by intro; simp only [go_sem, Zz.look, cut, c0, decide_false]; rfl) ?_; simp only [pt]))
   refine WO.nil ?_
   simp only [Then]
   refine WC.yes (by simp only [go_sem]) (WC.seq (WC.region ?_))
   repeat (first
    | (refine WO.op (by intro; simp only [go_sem, fillP]; rfl) ?_; simp only [pt])
    | (refine WO.opN (by intro; simp only [go_sem, Zz.look, storeAt, over, setBlk]; rfl) ?_))
   refine WO.nil ?_
   simp only [Then]
   exact WC.ret ⟨_, rfl, rfl⟩
  | false =>
   by_cases c1 : ps < 0
   ·repeat (first
     | (refine WO.yes rfl ?_)
     | (refine WO.no rfl ?_; simp only [pt])
     | (refine WO.op (by intro; simp only [go_sem, Zz.look, cut, c0, c1, decide_true, decide_false]; rfl) ?_; simp only [pt])
     | (refine WO.opN (by intro; simp only [go_sem, Zz.look, storeAt, over, setBlk, cut, c0, c1, decide_true, decide_false]; rfl) ?_))
    refine WO.nil ?_
    simp only [Then]
    refine WC.yes (by simp only [go_sem]) (WC.seq (WC.region ?_))
    repeat (first
     | (refine WO.op (by intro; simp only [go_sem, fillP]; rfl) ?_; simp only [pt])
     | (refine WO.opN (by intro; simp only [go_sem, Zz.look, storeAt, over, setBlk]; rfl) ?_))
    refine WO.nil ?_
    simp only [Then]
    exact WC.ret ⟨_, rfl, rfl⟩
   ·by_cases c2 : 1000 ≤ ps
    ·repeat (first
      | (refine WO.yes rfl ?_)
      | (refine WO.no rfl ?_; simp only [pt])
      | (refine WO.op (by intro; simp only [go_sem, Zz.look, cut, c0, c1, c2, decide_true, decide_false]; rfl) ?_; simp only [pt])
      | (refine WO.opN (by intro; simp only [go_sem, Zz.look, storeAt, over, setBlk, cut, c0, c1, c2, decide_true, decide_false]; rfl) ?_))
     refine WO.nil ?_
     simp only [Then]
     refine WC.yes (by simp only [go_sem]) (WC.seq (WC.region ?_))
     repeat (first
      | (refine WO.op (by intro; simp only [go_sem, fillP]; rfl) ?_; simp only [pt])
      | (refine WO.opN (by intro; simp only [go_sem, Zz.look, storeAt, over, setBlk]; rfl) ?_))
     refine WO.nil ?_
     simp only [Then]
     exact WC.ret ⟨_, rfl, rfl⟩
    ·exact absurd ⟨by omega, rfl, by omega, by omega⟩ hbad
def takes (gs : List Int) (ps bd : Int) : List Int := if ps = gs.length then gs ++ [bd] else gs
theorem app_own {a b c d e : Option Blk} {gs : List Int} {bd : Int} {L : List (Option ALoop)} (h : gs.length ≤ 1000) :
  appendAV 1 8 ⟨[a, b, c, d, e, some ⟨0, gs.map (.int .i64)⟩, some ⟨0, [.int .i64 bd]⟩], L⟩ (.sref 5 0 0 1 gs.length none) (.sref 6 0 0 1 1 (some 1)) = some (.sref 5 1 0 1 (gs.length + 1) none, ⟨[a, b, c, d, e, some ⟨1, gs.map (.int .i64) ++ [.int .i64 bd]⟩, some ⟨0, [.int .i64 bd]⟩], L⟩) := by
 simp only [appendAV, scells, slen, Zz.look, cut, List.getElem?_cons_succ, List.getElem?_cons_zero, Option.bind_eq_bind, Option.bind_some, if_true, List.length_map, Nat.mul_one, Nat.zero_add, List.length_cons, List.length_nil, Nat.le_refl, List.drop_zero]
 rw [if_neg (by omega), if_pos (by omega)]
 simp [setBlk, List.take_of_length_le]
theorem take_good {Γ : Env} {ps bd : Int} {g : AV} {gs : List Int} (hs : Γ.spec 47 = none) (hf : Γ.fn 47 = some ir47) (hs8 : Γ.spec 72 = none) (hf8 : Γ.fn 72 = some ir72) (hg : IntS g gs) (hmax : gs.length ≤ 1000) (h1 : 0 ≤ ps) (h2 : ps < 1000) :
  ∃ v, IntS v (takes gs ps bd) ∧ WF Γ (.func 47 [] []) [.agg [g], .agg [.bool false, .int .i64 ps, .int .i64 bd]] ⟨[], []⟩ fun y m' => resV m'.heap y = some (.tuple [.agg [v], .agg [.bool true, .int .i64 (takes gs ps bd).length, .int .i64 0], .int .i64 0]) := by
 have c0 : ¬ (1000 : Int) < gs.length := by omega
 have c1 : ¬ ps < 0 := by omega
 have c2 : ¬ 1000 ≤ ps := by omega
 have hmax' : gs.length < 9223372036854775808 := by omega
 obtain ⟨v, bl, hc, hw⟩ := clone_at hs8 hf8 hg (by omega) ⟨[some ⟨0, [g]⟩, some ⟨0, [.bool false, .int .i64 ps, .int .i64 bd]⟩, some ⟨0, [.snil]⟩, some ⟨0, [.bool false, .int .i64 0, .int .i64 0]⟩], []⟩
 by_cases cond : ps = gs.length
 ·have ht : takes gs ps bd = gs ++ [bd] := by simp [takes, cond]
  rw [ht]
  have cb : (ps == (gs.length : Int)) = true := by simpa using cond
  rcases hc with ⟨rfl, hgs, rfl⟩ | ⟨rfl, hgs, rfl⟩ | ⟨hpos, rfl, rfl⟩
  ·refine ⟨.sval false 1 [.int .i64 bd], .inr ⟨_, by rw [hgs]; rfl⟩, ?_⟩
   have cb' : (ps == ((0 : Nat) : Int)) = true := by rw [hgs] at cb; exact cb
   have hl0 : gs.length = 0 := by rw [hgs]; rfl
   refine WF.fn hs hf (by show 2 ≤ 46; decide) ?_
   unfold ir47; dsimp only [k0, kI, mV, oO, oG]
   simp only [padTo, List.replicate, List.nil_append, List.append_nil]
   refine WC.seq (WC.region ?_)
   repeat (first
    | (refine WO.op (by intro; simp only [go_sem]; rfl) ?_; simp only [pt]))
   refine WO.nil ?_
   simp only [Then]
   refine WC.seq (WC.seq (WC.region ?_))
   repeat (first
    | (refine WO.op (by intro; simp only [go_sem, Zz.look, cut]; rfl) ?_; simp only [pt]))
   refine WO.op (by intro; exact ev_lenS (n := gs.length) (by simp only [go_sem]; exact hg.len)) ?_
   simp only [pt]
   repeat (first
    | (refine WO.yes rfl ?_)
    | (refine WO.op (by intro; simp only [go_sem, Zz.look, cut, c0, c1, c2, decide_false]; rfl) ?_; simp only [pt]))
   refine WO.nil ?_
   simp only [Then]
   refine WC.no (by simp only [go_sem]) (WC.skip ?_)
   simp only [Then]
   refine WC.seq (WC.region ?_)
   repeat (first
    | (refine WO.op (by intro; simp only [go_sem, Zz.look, cut]; rfl) ?_; simp only [pt]))
   refine WO.call rfl rfl (hw.mono ?_)
   rintro y m' ⟨rfl, rfl⟩
   simp only [pt, List.append_nil]
   repeat (first
    | (refine WO.op (by intro; simp only [go_sem]; rfl) ?_; simp only [pt]))
   refine WO.nil ?_
   simp only [Then]
   refine WC.seq (WC.seq (WC.region ?_))
   repeat (first
    | (refine WO.op (by intro; simp only [go_sem, Zz.look, cut]; rfl) ?_; simp only [pt]))
   try (
    refine WO.op (by intro; exact ev_lenS (n := 0) rfl) ?_
    simp only [pt])
   repeat (first
    | (refine WO.op (by intro; simp only [go_sem, cb']; rfl) ?_; simp only [pt]))
   refine WO.nil ?_
   simp only [Then]
   refine WC.yes (by simp only [go_sem]) (WC.region ?_)
   repeat (first
    | (refine WO.op (by intro; simp only [go_sem, Zz.look, fillP, over, cut]; rfl) ?_; simp only [pt]))
   try (
    refine WO.op (by intro; rw [ev_append]; exact rfl) ?_
    simp only [pt])
   skip
   refine WO.nil ?_
   simp only [Then]
   refine WC.seq (WC.region ?_)
   repeat (first
    | (refine WO.op (by intro; simp only [go_sem, fillP, over]; rfl) ?_; simp only [pt])
    | (refine WO.opN (by intro; simp only [go_sem, Zz.look, storeAt, over, setBlk]; rfl) ?_))
   try (
    refine WO.op (by intro; exact ev_lenS (n := 1) rfl) ?_
    simp only [pt])
   skip
   refine WO.nil ?_
   simp only [Then]
   refine WC.ret ⟨_, rfl, ?_⟩
   simp [oneRes, gt, resV, resA, resC, resT, resL, Zz.look, cut, flatAV, St.mem, List.take_of_length_le, hl0] 
  ·refine ⟨.sval false 1 [.int .i64 bd], .inr ⟨_, by rw [hgs]; rfl⟩, ?_⟩
   have cb' : (ps == ((0 : Nat) : Int)) = true := by rw [hgs] at cb; exact cb
   have hl0 : gs.length = 0 := by rw [hgs]; rfl
   refine WF.fn hs hf (by show 2 ≤ 46; decide) ?_
   unfold ir47; dsimp only [k0, kI, mV, oO, oG]
   simp only [padTo, List.replicate, List.nil_append, List.append_nil]
   refine WC.seq (WC.region ?_)
   repeat (first
    | (refine WO.op (by intro; simp only [go_sem]; rfl) ?_; simp only [pt]))
   refine WO.nil ?_
   simp only [Then]
   refine WC.seq (WC.seq (WC.region ?_))
   repeat (first
    | (refine WO.op (by intro; simp only [go_sem, Zz.look, cut]; rfl) ?_; simp only [pt]))
   refine WO.op (by intro; exact ev_lenS (n := gs.length) (by simp only [go_sem]; exact hg.len)) ?_
   simp only [pt]
   repeat (first
    | (refine WO.yes rfl ?_)
    | (refine WO.op (by intro; simp only [go_sem, Zz.look, cut, c0, c1, c2, decide_false]; rfl) ?_; simp only [pt]))
   refine WO.nil ?_
   simp only [Then]
   refine WC.no (by simp only [go_sem]) (WC.skip ?_)
   simp only [Then]
   refine WC.seq (WC.region ?_)
   repeat (first
    | (refine WO.op (by intro; simp only [go_sem, Zz.look, cut]; rfl) ?_; simp only [pt]))
   refine WO.call rfl rfl (hw.mono ?_)
   rintro y m' ⟨rfl, rfl⟩
   simp only [pt, List.cons_append, List.nil_append]
   repeat (first
    | (refine WO.op (by intro; simp only [go_sem]; rfl) ?_; simp only [pt]))
   refine WO.nil ?_
   simp only [Then]
   refine WC.seq (WC.seq (WC.region ?_))
   repeat (first
    | (refine WO.op (by intro; simp only [go_sem, Zz.look, cut]; rfl) ?_; simp only [pt]))
   try (
    refine WO.op (by intro; exact ev_lenS (n := 0) rfl) ?_
    simp only [pt])
   skip
   refine WO.nil ?_
   simp only [Then]
   refine WC.yes (by simp only [go_sem, cb']) (WC.region ?_)
   repeat (first
    | (refine WO.op (by intro; simp only [go_sem, Zz.look, fillP, over, cut]; rfl) ?_; simp only [pt]))
   try (
    refine WO.op (by intro; rw [ev_append]; exact rfl) ?_
    simp only [pt])
   skip
   refine WO.nil ?_
   simp only [Then]
   refine WC.seq (WC.region ?_)
   repeat (first
    | (refine WO.op (by intro; simp only [go_sem, fillP, over]; rfl) ?_; simp only [pt])
    | (refine WO.opN (by intro; simp only [go_sem, Zz.look, storeAt, over, setBlk]; rfl) ?_))
   try (
    refine WO.op (by intro; exact ev_lenS (n := 1) rfl) ?_
    simp only [pt])
   skip
   refine WO.nil ?_
   simp only [Then]
   refine WC.ret ⟨_, rfl, ?_⟩
   simp [oneRes, gt, resV, resA, resC, resT, resL, Zz.look, cut, flatAV, St.mem, List.take_of_length_le, hl0] 
  ·refine ⟨.sval false (gs.length + 1) (gs.map (.int .i64) ++ [.int .i64 bd]), .inr ⟨false, by simp⟩, ?_⟩
   have happ := fun (a b c d e : Option Blk) (L : List (Option ALoop)) => app_own (a := a) (b := b) (c := c) (d := d) (e := e) (bd := bd) (L := L) hmax
   have fl := flat_ints gs
   have hl0 : (0 : Nat) = 0 := rfl
   refine WF.fn hs hf (by show 2 ≤ 46; decide) ?_
   unfold ir47; dsimp only [k0, kI, mV, oO, oG]
   simp only [padTo, List.replicate, List.nil_append, List.append_nil]
   refine WC.seq (WC.region ?_)
   repeat (first
    | (refine WO.op (by intro; simp only [go_sem]; rfl) ?_; simp only [pt]))
   refine WO.nil ?_
   simp only [Then]
   refine WC.seq (WC.seq (WC.region ?_))
   repeat (first
    | (refine WO.op (by intro; simp only [go_sem, Zz.look, cut]; rfl) ?_; simp only [pt]))
   refine WO.op (by intro; exact ev_lenS (n := gs.length) (by simp only [go_sem]; exact hg.len)) ?_
   simp only [pt]
   repeat (first
    | (refine WO.yes rfl ?_)
    | (refine WO.op (by intro; simp only [go_sem, Zz.look, cut, c0, c1, c2, decide_false]; rfl) ?_; simp only [pt]))
   refine WO.nil ?_
   simp only [Then]
   refine WC.no (by simp only [go_sem]) (WC.skip ?_)
   simp only [Then]
   refine WC.seq (WC.region ?_)
   repeat (first
    | (refine WO.op (by intro; simp only [go_sem, Zz.look, cut]; rfl) ?_; simp only [pt]))
   refine WO.call rfl rfl (hw.mono ?_)
   rintro y m' ⟨rfl, rfl⟩
   simp only [pt, List.cons_append, List.nil_append]
   repeat (first
    | (refine WO.op (by intro; simp only [go_sem]; rfl) ?_; simp only [pt]))
   refine WO.nil ?_
   simp only [Then]
   refine WC.seq (WC.seq (WC.region ?_))
   repeat (first
    | (refine WO.op (by intro; simp only [go_sem, Zz.look, cut]; rfl) ?_; simp only [pt]))
   try (
    refine WO.op (by intro; exact ev_lenS (n := gs.length) rfl) ?_
    simp only [pt])
   skip
   refine WO.nil ?_
   simp only [Then]
   refine WC.yes (by simp only [go_sem, cb]) (WC.region ?_)
   repeat (first
    | (refine WO.op (by intro; simp only [go_sem, Zz.look, fillP, over, cut]; rfl) ?_; simp only [pt]))
   try (
    refine WO.op (by intro; rw [ev_append]; simp only [go_sem]; exact happ _ _ _ _ _ _) ?_
    simp only [pt])
   repeat (first
    | (refine WO.op (by intro; simp only [go_sem]; rfl) ?_; simp only [pt]))
   refine WO.nil ?_
   simp only [Then]
   refine WC.seq (WC.region ?_)
   repeat (first
    | (refine WO.op (by intro; simp only [go_sem, fillP, over]; rfl) ?_; simp only [pt])
    | (refine WO.opN (by intro; simp only [go_sem, Zz.look, storeAt, over, setBlk]; rfl) ?_))
   try (
    refine WO.op (by intro; exact ev_lenS (n := gs.length + 1) rfl) ?_
    simp only [pt])
   skip
   refine WO.nil ?_
   simp only [Then]
   refine WC.ret ⟨_, rfl, ?_⟩
   simp [oneRes, gt, resV, resA, resC, resT, resL, Zz.look, cut, flatAV, St.mem, List.take_of_length_le] 
 ·have ht : takes gs ps bd = gs := by simp [takes, cond]
  rw [ht]
  have cb : (ps == (gs.length : Int)) = false := by simpa using cond
  rcases hc with ⟨rfl, hgs, rfl⟩ | ⟨rfl, hgs, rfl⟩ | ⟨hpos, rfl, rfl⟩
  ·refine ⟨.snil, .inl ⟨rfl, hgs⟩, ?_⟩
   have cb' : (ps == ((0 : Nat) : Int)) = false := by rw [hgs] at cb; exact cb
   have hl0 : gs.length = 0 := by rw [hgs]; rfl
   refine WF.fn hs hf (by show 2 ≤ 46; decide) ?_
   unfold ir47; dsimp only [k0, kI, mV, oO, oG]
   simp only [padTo, List.replicate, List.nil_append, List.append_nil]
   refine WC.seq (WC.region ?_)
   repeat (first
    | (refine WO.op (by intro; simp only [go_sem]; rfl) ?_; simp only [pt]))
   refine WO.nil ?_
   simp only [Then]
   refine WC.seq (WC.seq (WC.region ?_))
   repeat (first
    | (refine WO.op (by intro; simp only [go_sem, Zz.look, cut]; rfl) ?_; simp only [pt]))
   refine WO.op (by intro; exact ev_lenS (n := gs.length) (by simp only [go_sem]; exact hg.len)) ?_
   simp only [pt]
   repeat (first
    | (refine WO.yes rfl ?_)
    | (refine WO.op (by intro; simp only [go_sem, Zz.look, cut, c0, c1, c2, decide_false]; rfl) ?_; simp only [pt]))
   refine WO.nil ?_
   simp only [Then]
   refine WC.no (by simp only [go_sem]) (WC.skip ?_)
   simp only [Then]
   refine WC.seq (WC.region ?_)
   repeat (first
    | (refine WO.op (by intro; simp only [go_sem, Zz.look, cut]; rfl) ?_; simp only [pt]))
   refine WO.call rfl rfl (hw.mono ?_)
   rintro y m' ⟨rfl, rfl⟩
   simp only [pt, List.append_nil]
   repeat (first
    | (refine WO.op (by intro; simp only [go_sem]; rfl) ?_; simp only [pt]))
   refine WO.nil ?_
   simp only [Then]
   refine WC.seq (WC.seq (WC.region ?_))
   repeat (first
    | (refine WO.op (by intro; simp only [go_sem, Zz.look, cut]; rfl) ?_; simp only [pt]))
   try (
    refine WO.op (by intro; exact ev_lenS (n := 0) rfl) ?_
    simp only [pt])
   repeat (first
    | (refine WO.op (by intro; simp only [go_sem, cb']; rfl) ?_; simp only [pt]))
   refine WO.nil ?_
   simp only [Then]
   refine WC.no (by simp only [go_sem]) (WC.skip ?_)
   simp only [Then]
   refine WC.seq (WC.region ?_)
   repeat (first
    | (refine WO.op (by intro; simp only [go_sem, fillP, over]; rfl) ?_; simp only [pt])
    | (refine WO.opN (by intro; simp only [go_sem, Zz.look, storeAt, over, setBlk]; rfl) ?_))
   try (
    refine WO.op (by intro; exact ev_lenS (n := 0) rfl) ?_
    simp only [pt])
   skip
   refine WO.nil ?_
   simp only [Then]
   refine WC.ret ⟨_, rfl, ?_⟩
   simp [oneRes, gt, resV, resA, resC, resT, resL, List.take_of_length_le, hl0] 
  ·refine ⟨.sval true 0 [], .inr ⟨_, by rw [hgs]; rfl⟩, ?_⟩
   have cb' : (ps == ((0 : Nat) : Int)) = false := by rw [hgs] at cb; exact cb
   have hl0 : gs.length = 0 := by rw [hgs]; rfl
   refine WF.fn hs hf (by show 2 ≤ 46; decide) ?_
   unfold ir47; dsimp only [k0, kI, mV, oO, oG]
   simp only [padTo, List.replicate, List.nil_append, List.append_nil]
   refine WC.seq (WC.region ?_)
   repeat (first
    | (refine WO.op (by intro; simp only [go_sem]; rfl) ?_; simp only [pt]))
   refine WO.nil ?_
   simp only [Then]
   refine WC.seq (WC.seq (WC.region ?_))
   repeat (first
    | (refine WO.op (by intro; simp only [go_sem, Zz.look, cut]; rfl) ?_; simp only [pt]))
   refine WO.op (by intro; exact ev_lenS (n := gs.length) (by simp only [go_sem]; exact hg.len)) ?_
   simp only [pt]
   repeat (first
    | (refine WO.yes rfl ?_)
    | (refine WO.op (by intro; simp only [go_sem, Zz.look, cut, c0, c1, c2, decide_false]; rfl) ?_; simp only [pt]))
   refine WO.nil ?_
   simp only [Then]
   refine WC.no (by simp only [go_sem]) (WC.skip ?_)
   simp only [Then]
   refine WC.seq (WC.region ?_)
   repeat (first
    | (refine WO.op (by intro; simp only [go_sem, Zz.look, cut]; rfl) ?_; simp only [pt]))
   refine WO.call rfl rfl (hw.mono ?_)
   rintro y m' ⟨rfl, rfl⟩
   simp only [pt, List.cons_append, List.nil_append]
   repeat (first
    | (refine WO.op (by intro; simp only [go_sem]; rfl) ?_; simp only [pt]))
   refine WO.nil ?_
   simp only [Then]
   refine WC.seq (WC.seq (WC.region ?_))
   repeat (first
    | (refine WO.op (by intro; simp only [go_sem, Zz.look, cut]; rfl) ?_; simp only [pt]))
   try (
    refine WO.op (by intro; exact ev_lenS (n := 0) rfl) ?_
    simp only [pt])
   skip
   refine WO.nil ?_
   simp only [Then]
   refine WC.no (by simp only [go_sem, cb']) (WC.skip ?_)
   simp only [Then]
   refine WC.seq (WC.region ?_)
   repeat (first
    | (refine WO.op (by intro; simp only [go_sem, fillP, over]; rfl) ?_; simp only [pt])
    | (refine WO.opN (by intro; simp only [go_sem, Zz.look, storeAt, over, setBlk]; rfl) ?_))
   try (
    refine WO.op (by intro; exact ev_lenS (n := 0) rfl) ?_
    simp only [pt])
   skip
   refine WO.nil ?_
   simp only [Then]
   refine WC.ret ⟨_, rfl, ?_⟩
   simp [oneRes, gt, resV, resA, resC, resT, resL, Zz.look, cut, St.mem, List.take_of_length_le, hl0] 
  ·refine ⟨.sval false gs.length (gs.map (.int .i64)), .inr ⟨false, rfl⟩, ?_⟩
   have fl := flat_ints gs
   have hl0 : (0 : Nat) = 0 := rfl
   refine WF.fn hs hf (by show 2 ≤ 46; decide) ?_
   unfold ir47; dsimp only [k0, kI, mV, oO, oG]
   simp only [padTo, List.replicate, List.nil_append, List.append_nil]
   refine WC.seq (WC.region ?_)
   repeat (first
    | (refine WO.op (by intro; simp only [go_sem]; rfl) ?_; simp only [pt]))
   refine WO.nil ?_
   simp only [Then]
   refine WC.seq (WC.seq (WC.region ?_))
   repeat (first
    | (refine WO.op (by intro; simp only [go_sem, Zz.look, cut]; rfl) ?_; simp only [pt]))
   refine WO.op (by intro; exact ev_lenS (n := gs.length) (by simp only [go_sem]; exact hg.len)) ?_
   simp only [pt]
   repeat (first
    | (refine WO.yes rfl ?_)
    | (refine WO.op (by intro; simp only [go_sem, Zz.look, cut, c0, c1, c2, decide_false]; rfl) ?_; simp only [pt]))
   refine WO.nil ?_
   simp only [Then]
   refine WC.no (by simp only [go_sem]) (WC.skip ?_)
   simp only [Then]
   refine WC.seq (WC.region ?_)
   repeat (first
    | (refine WO.op (by intro; simp only [go_sem, Zz.look, cut]; rfl) ?_; simp only [pt]))
   refine WO.call rfl rfl (hw.mono ?_)
   rintro y m' ⟨rfl, rfl⟩
   simp only [pt, List.cons_append, List.nil_append]
   repeat (first
    | (refine WO.op (by intro; simp only [go_sem]; rfl) ?_; simp only [pt]))
   refine WO.nil ?_
   simp only [Then]
   refine WC.seq (WC.seq (WC.region ?_))
   repeat (first
    | (refine WO.op (by intro; simp only [go_sem, Zz.look, cut]; rfl) ?_; simp only [pt]))
   try (
    refine WO.op (by intro; exact ev_lenS (n := gs.length) rfl) ?_
    simp only [pt])
   skip
   refine WO.nil ?_
   simp only [Then]
   refine WC.no (by simp only [go_sem, cb]) (WC.skip ?_)
   simp only [Then]
   refine WC.seq (WC.region ?_)
   repeat (first
    | (refine WO.op (by intro; simp only [go_sem, fillP, over]; rfl) ?_; simp only [pt])
    | (refine WO.opN (by intro; simp only [go_sem, Zz.look, storeAt, over, setBlk]; rfl) ?_))
   try (
    refine WO.op (by intro; exact ev_lenS (n := gs.length) rfl) ?_
    simp only [pt])
   skip
   refine WO.nil ?_
   simp only [Then]
   refine WC.ret ⟨_, rfl, ?_⟩
   simp [oneRes, gt, resV, resA, resC, resT, resL, Zz.look, cut, flatAV, St.mem, List.take_of_length_le] 
end Go.Proofs.YtgchabldcnmccacGreatDoor.Ln


set_option maxRecDepth 100000
set_option maxHeartbeats 8000000
namespace Go.Proofs.YtgchabldcnmccacGreatDoor.Ln
open Go.Zz
def Takes (gs : List Int) (ack : Bool) (ps : Int) : Prop := gs.length ≤ 1000 ∧ ack = false ∧ 0 ≤ ps ∧ ps < 1000
theorem pureTake {ack : Bool} {ps bd : Int} {g : AV} {gs : List Int} (hg : IntS g gs) : [AV.agg [g], .agg [.bool ack, .int .i64 ps, .int .i64 bd]].all pureA = true := by
 have e2 : Zz.pureC (.int .i64 ps) = true := rfl
 have e3 : Zz.pureC (.int .i64 bd) = true := rfl
 have e4 : Zz.pureC (.bool ack) = true := rfl
 simp [Zz.pureA, hg.pureC, e2, e3, e4]
theorem take_no {ps bd : Int} {ack : Bool} {g : AV} {gs : List Int} (hg : IntS g gs) (hmax : gs.length < 9223372036854775808) (h : ¬ Takes gs ack ps) (m : Mem) :
  borrowE G0 47 [.agg [g], .agg [.bool ack, .int .i64 ps, .int .i64 bd]] m = some (.tuple [.agg [.snil], .agg [.bool false, .int .i64 0, .int .i64 0], .int .i64 1], m) :=
 borrowE_of (pureTake hg) (take_bad rfl (fn_of Tryz.func47 cir47) hg hmax h)
theorem take_yes {ps bd : Int} {ack : Bool} {g : AV} {gs : List Int} (hg : IntS g gs) (h : Takes gs ack ps) : ∃ v, IntS v (takes gs ps bd) ∧ ∀ m,
  borrowE G0 47 [.agg [g], .agg [.bool ack, .int .i64 ps, .int .i64 bd]] m = some (.tuple [.agg [v], .agg [.bool true, .int .i64 (takes gs ps bd).length, .int .i64 0], .int .i64 0], m) := by
 obtain ⟨c1, rfl, c2, c3⟩ := h
 obtain ⟨v, hv, g⟩ := take_good (Γ := G0) rfl (fn_of Tryz.func47 cir47) rfl (fn_of Tryz.func72 cir72) hg c1 c2 c3
 exact ⟨v, hv, fun m => borrowE_of (pureTake hg) g⟩
end Go.Proofs.YtgchabldcnmccacGreatDoor.Ln

