import Derived.Test.YtgchabldcnmccacGreatDoorWh
import Derived.Test.YtgchabldcnmccacGreatDoorLNF

set_option linter.unusedSimpArgs false
set_option linter.unusedVariables false

namespace Go.Proofs.YtgchabldcnmccacGreatDoor
open Go.Zz
set_option maxRecDepth 100000
set_option maxHeartbeats 8000000
theorem mg_eqC {q : Mg} : cellsEq [true, true, true, true, true, true, true, true, true, true] [.int .i64 q.k, .int .i64 q.f, .int .i64 q.t, .int .i64 q.s, .int .i64 q.b, .int .i64 q.w, .int .i64 q.v.s, .int .i64 q.v.c, .int .i64 q.v.n, .int .i64 q.v.d] [.int .i64 q.k, .int .i64 q.f, .int .i64 q.t, .int .i64 q.s, .int .i64 q.b, .int .i64 q.w, .int .i64 q.v.s, .int .i64 q.v.c, .int .i64 q.v.n, .int .i64 q.v.d] = some true := by
 simp [cellsEq, cellEq]
theorem w10 {x y : AV} {qs : List Mg} (hx : MgL x qs) (hy : MgL y qs) (hlen : qs.length ≤ 1000000) : WF Z3 (.func 10 [] []) [x, y] ⟨[], []⟩ fun z m' => z = .bool true := by
 refine WF.fnE rfl (fn_of Tryz.func10 cir10) (by show 2 ≤ 26; decide) ?_
 unfold ir10; dsimp only [k0, kI, mV, oO, oG]
 simp only [padTo, List.replicate, List.nil_append, List.append_nil]
 repeat' (first | (refine WO.opE (by intro; simp (disch := omega) only [go_sem]; rfl) (by simp only [pt8, pt0, pt2, pt4, pt5, pt6]; rfl) ?_) | (refine WO.opE (by intro; exact ev_lenS (by simp only [go_sem]; exact hx.len)) (by simp only [pt7]; rfl) ?_) | (refine WO.opE (by intro; exact ev_lenS (by simp only [go_sem]; exact hy.len)) (by simp only [pt8, pt1]; rfl) ?_) | (refine WC.seq ?_) | (refine WC.region ?_) | (refine WO.nil ?_) | (simp only [fl1]) | (refine WC.no rfl ?_) | (refine WC.skip ?_) | (refine WC.block ?_))
 refine WC.loopI (fun m st => ∃ T i, st = ⟨T, [], []⟩ ∧ T.length = 26 ∧ gt T 0 = x ∧ gt T 1 = y ∧ gt T 5 = .int .i64 (i : Nat) ∧ m + i = qs.length) ?_ qs.length _ ⟨_, 0, rfl, rfl, rfl, rfl, rfl, rfl⟩
 rintro m _ ⟨T, i, rfl, hT, g0, g1, g5, hm⟩
 obtain ⟨f, rfl⟩ := ex26 hT
 clear hT
 replace g0 : f 0 = x := g0
 replace g1 : f 1 = y := g1
 replace g5 : f 5 = .int .i64 (i : Nat) := g5
 simp only [g0, g1, g5]
 by_cases hi : i < qs.length
 ·have hat := hx.at hi
  have hat2 := hy.at hi
  generalize gnth qs i = q at *
  have he := mg_eqC (q := q)
  repeat' (first | (refine WO.opE (by intro; simp (disch := omega) only [go_sem, hat, hat2, he]; rfl) (by simp only [pt8, pt0, pt1, pt2, pt3, pt4, pt5, pt6, pt7]; rfl) ?_) | (refine WO.opE (by intro; exact ev_lenS (by simp only [go_sem]; exact hx.len)) (by simp only [pt8, pt5]; rfl) ?_) | (refine WC.seq ?_) | (refine WC.region ?_) | (refine WO.nil ?_) | (simp only [fl1, fl10]) | (refine WC.calm rfl ?_) | (refine WC.no rfl ?_) | (refine WC.skip ?_) | (refine WC.block ?_) | (refine WC.em2 rfl (fun hp => ?_) (fun hp => ?_) <;> try (exfalso; first | omega | contradiction)))
  exact ⟨m - 1, by omega, _, i + 1, rfl, rfl, rfl, rfl, rfl, by omega⟩
 ·
  repeat' (first | (refine WO.opE (by intro; simp (disch := omega) only [go_sem]; rfl) (by simp only [pt8, pt3, pt4, pt6]; rfl) ?_) | (refine WO.opE (by intro; exact ev_lenS (by simp only [go_sem]; exact hx.len)) (by simp only [pt8, pt5]; rfl) ?_) | (refine WC.seq ?_) | (refine WC.region ?_) | (refine WO.nil ?_) | (simp only [fl1]) | (refine WC.exit ?_) | (refine WC.ret ?_) | (refine WC.em2 rfl (fun hp => ?_) (fun hp => ?_) <;> try (exfalso; first | omega | contradiction)))
  exact ⟨_, rfl, rfl⟩
theorem t10 {x y : AV} {qs : List Mg} (hx : MgL x qs) (hy : MgL y qs) (hlen : qs.length ≤ 1000000) (h1 : Zz.pureA x = true) (h2 : Zz.pureA y = true) {m : Mem} : borrowE Z3 10 [x, y] m = some (.bool true, m) :=
 borrowE_of (by rw [List.all_cons, List.all_cons, h1, h2]; rfl) ((w10 hx hy hlen).mono fun z m' e => by rw [e]; rfl)
noncomputable def Z4 : Env := Z3.put 10 (borrowE Z3 10)
theorem Z4_ok : EnvOk Tryz.prog Z4 := Env.put_ok Z3_ok (borrowE_ok Z3_ok (callable Tryz.func10 (by kernel_rfl)))
theorem w13a : WF Z4 (.func 13 [] []) [.snil, .snil] ⟨[], []⟩ fun z m' => z = .bool true := by
 refine WF.fnE rfl (fn_of Tryz.func13 cir13) (by show 2 ≤ 26; decide) ?_
 unfold ir13; dsimp only [k0, kI, mV, oO, oG]
 simp only [padTo, List.replicate, List.nil_append, List.append_nil]
 repeat' (first | (refine WO.opE (by intro; simp (disch := omega) only [go_sem]; rfl) (by simp only [pt8, pt0, pt2, pt4, pt5, pt6]; rfl) ?_) | (refine WO.opE (by intro; exact ev_lenS (by simp only [go_sem]; first | rfl | assumption)) (by simp only [pt8, pt1, pt7]; rfl) ?_) | (refine WC.seq ?_) | (refine WC.region ?_) | (refine WO.nil ?_) | (simp only [fl1]) | (refine WC.no rfl ?_) | (refine WC.skip ?_) | (refine WC.block ?_))
 refine WC.loop ?_
 repeat' (first | (refine WO.opE (by intro; simp (disch := omega) only [go_sem]; rfl) (by simp only [pt8, pt3, pt4, pt6]; rfl) ?_) | (refine WO.opE (by intro; exact ev_lenS (by simp only [go_sem]; first | rfl | assumption)) (by simp only [pt8, pt5]; rfl) ?_) | (refine WC.seq ?_) | (refine WC.region ?_) | (refine WO.nil ?_) | (simp only [fl1]) | (refine WC.no rfl ?_) | (refine WC.exit ?_) | (refine WC.ret ?_))
 exact ⟨_, rfl, rfl⟩
theorem w13b {t : Tk} : WF Z4 (.func 13 [] []) [.sval false 1 [.int .i64 t.s, .int .i64 t.c, .int .i64 t.n, .int .i64 t.d], .sval false 1 [.int .i64 t.s, .int .i64 t.c, .int .i64 t.n, .int .i64 t.d]] ⟨[], []⟩ fun z m' => z = .bool true := by
 have hi : indexAddrAV 4 (.sval false 1 [.int .i64 t.s, .int .i64 t.c, .int .i64 t.n, .int .i64 t.d]) (.int .i64 0) = some (.pval [.int .i64 t.s, .int .i64 t.c, .int .i64 t.n, .int .i64 t.d]) := rfl
 have hi2 : indexAddrAV 4 (.sval false 1 [.int .i64 t.s, .int .i64 t.c, .int .i64 t.n, .int .i64 t.d]) (.int .i64 ((0 : Nat) : Int)) = some (.pval [.int .i64 t.s, .int .i64 t.c, .int .i64 t.n, .int .i64 t.d]) := rfl
 have hte := tk_eqC (t := t) (u := t)
 simp only [decide_true] at hte
 refine WF.fnE rfl (fn_of Tryz.func13 cir13) (by show 2 ≤ 26; decide) ?_
 unfold ir13; dsimp only [k0, kI, mV, oO, oG]
 simp only [padTo, List.replicate, List.nil_append, List.append_nil]
 repeat' (first | (refine WO.opE (by intro; simp (disch := omega) only [go_sem]; rfl) (by simp only [pt8, pt0, pt2, pt4, pt5, pt6]; rfl) ?_) | (refine WO.opE (by intro; exact ev_lenS (by simp only [go_sem]; first | rfl | assumption)) (by simp only [pt8, pt1, pt7]; rfl) ?_) | (refine WC.seq ?_) | (refine WC.region ?_) | (refine WO.nil ?_) | (simp only [fl1]) | (refine WC.no rfl ?_) | (refine WC.skip ?_) | (refine WC.block ?_))
 refine WC.loop ?_
 repeat' (first | (refine WO.opE (by intro; simp (disch := omega) only [go_sem, Int.reduceAdd, hi, hte]; rfl) (by simp only [pt8, pt0, pt1, pt2, pt3, pt4, pt5, pt6, pt7]; rfl) ?_) | (refine WO.opE (by intro; exact ev_lenS (by simp only [go_sem]; first | rfl | assumption)) (by simp only [pt8, pt5]; rfl) ?_) | (refine WC.seq ?_) | (refine WC.region ?_) | (refine WO.nil ?_) | (simp only [fl1]) | (refine WC.calm rfl ?_) | (refine WC.yes rfl ?_) | (refine WC.no rfl ?_) | (refine WC.skip ?_) | (refine WC.block ?_))
 refine WC.loop ?_
 repeat' (first | (refine WO.opE (by intro; simp (disch := omega) only [go_sem]; rfl) (by simp only [pt8, pt3, pt4, pt5, pt6]; rfl) ?_) | (refine WC.seq ?_) | (refine WC.region ?_) | (refine WO.nil ?_) | (simp only [fl1]) | (refine WC.no rfl ?_) | (refine WC.exit ?_) | (refine WC.ret ?_))
 exact ⟨_, rfl, rfl⟩
theorem t13 {n : Int} {vs : List Vo} {V : Tk} {m : Mem} : borrowE Z4 13 [lgV (logL n vs V), lgV (logL n vs V)] m = some (.bool true, m) := by
 unfold logL
 split
 ·exact borrowE_of rfl (w13a.mono fun z m' e => by rw [e]; rfl)
 ·exact borrowE_of rfl (w13b.mono fun z m' e => by rw [e]; rfl)
noncomputable def Z5 : Env := Z4.put 13 (borrowE Z4 13)
theorem Z5_ok : EnvOk Tryz.prog Z5 := Env.put_ok Z4_ok (borrowE_ok Z4_ok (callable Tryz.func13 (by kernel_rfl)))
theorem t12 {n : Int} (hn : 1 ≤ n) {vs ws : List Vo} {V : Tk} (hV : TkOk V) (hs : ∀ v ∈ vs, v ∈ ws) {m : Mem} : borrowE Y9 12 [lgV (logL n ws V), lgV (logL n vs V)] m = some (.tuple [lgV (logL n ws V), .int .i64 0], m) := by
 rcases logL_sub (V := V) hn hs with h | ⟨h, h2⟩
 ·rw [h]
  have : logL n ws V = [] ∨ logL n ws V = [V] := by
   unfold logL
   split
   ·exact .inl rfl
   ·exact .inr rfl
  rcases this with e | e <;> rw [e]
  ·exact s12a
  ·exact s12b hV
 ·rw [h, h2]
  exact s12c hV
set_option maxRecDepth 100000
set_option maxHeartbeats 8000000
theorem mv_flat (ms : List Mv) : ∀ c ∈ ms.map Mv.cells, c.all flatAV = true := by
 intro c hc
 obtain ⟨p, _, rfl⟩ := List.mem_map.1 hc
 rfl
theorem MvL.byVal {x : AV} {ms : List Mv} (h : MvL x ms) (H : Hp) : Zz.byVal H x = some x := SL.byVal h (mv_flat ms) H
theorem s5x {n : Int} {x z : AV} {ms : List Mv} {m : Mem} (hz : Zz.byVal m.heap z = some x) (hx : MvL x ms) (hbig : ms.length ≤ 1000000) : borrowX E11 5 [.int .i64 n, z] m = some (runV n ms, m) :=
 borrowX_of (byVals_cons rfl (byVals_cons hz (byVals_nil _))) ((f5 hx hbig).mono fun y m' h => h.2)
noncomputable def Z6 : Env := Z5.put 5 (borrowX E11 5)
theorem Z6_ok : EnvOk Tryz.prog Z6 := Env.put_ok Z5_ok (borrowX_ok E11_ok (callable Tryz.func5 (by kernel_rfl)))
def tkH : Tk := ⟨2, 1, -1, 1⟩
def msH : List Mv := [⟨1, 1, 0, tk0⟩, ⟨1, 1, 1, tk0⟩, ⟨2, 1, 0, tkH⟩, ⟨3, 1, 0, tk0⟩, ⟨3, 1, 1, tk0⟩]
def voH : List Vo := [⟨0, 1, tkH⟩, ⟨1, 1, tkH⟩]
theorem msH_ok : RunOk 3 msH := by decide
theorem msH_vos : (runM 3 msH).vos = voH := by decide
theorem msH_run : runV 3 msH = .tuple [rsV (runM 3 msH), .int .i64 0] := if_pos msH_ok
theorem voH_ch : chL 3 voH = [(1, tkH)] := by decide
theorem voH_ok : VoOk 3 voH tkH := by
 refine ⟨by decide, by decide, fun v hv => ?_, fun x hx => ?_, by rw [voH_ch]; decide, by decide, by decide⟩
 ·simp only [voH, List.mem_cons, List.not_mem_nil, or_false] at hv
  rcases hv with rfl | rfl <;> decide
 ·rw [voH_ch] at hx
  obtain rfl := List.mem_singleton.1 hx
  rfl
theorem voH_log : logL 3 voH tkH = [tkH] := by
 unfold logL
 rw [voH_ch]
 rfl
theorem msH_L (f : Bool) : MvL (.sval f 5 (msH.map Mv.cells).flatten) msH := by
 refine ⟨fun c hc => ?_, .inr ⟨f, rfl⟩⟩
 obtain ⟨p, _, rfl⟩ := List.mem_map.1 hc
 rfl
theorem slV_pure {ms : List Mg} {k : Nat} : Zz.pureA (slV (msF ms) k) = true := by
 unfold slV
 split
 ·rfl
 ·exact msF_flat ms
theorem slV_len {ms : List Mg} {k : Nat} (hk : k = ms.length) : slen (slV (msF ms) k) = some k := by
 rw [hk]
 exact (MgL.slV rfl).len
theorem g4 : WF Z6 (.func 4 [] []) [] ⟨[], []⟩ fun y m' => y = .bool true := by
 refine WF.fnE rfl (fn_of Tryz.func4 cir4) (by show 0 ≤ 58; decide) ?_
 unfold ir4; dsimp only [k0, kI, mV, oO, oG]
 simp only [padTo, List.replicate, List.append_nil]
 repeat' (first | (refine WO.opE (by intro; simp (disch := omega) only [go_sem, zeros, ov_one0, ov_one1, ov_one2, ov_one3, fillP, Option.bind_eq_bind, Zz.look, Zz.cut, Nat.reduceAdd, Nat.reduceLeDiff, Int.reduceNeg, Int.reduceAdd]; rfl) (by simp only [pt8, pt0, pt1, pt2, pt3, pt4, pt5, pt6, pt7]; rfl) ?_) | (refine WO.opN (by intro; simp (disch := omega) only [go_sem, ov_all4, Option.bind_eq_bind, Zz.look, Nat.reduceAdd, Int.reduceNeg, setBlk, List.set_cons_zero]; rfl) ?_) | (refine WC.seq ?_) | (refine WC.region ?_) | (refine WO.nil ?_) | (simp only [fl1]))
 have hs5 := fun m (h : _) => s5x (n := 3) (z := .sref 1 0 0 7 5 (some 5)) (ms := msH) (m := m) h (msH_L true) (by decide)
 obtain ⟨a1, a2, a3, hrs⟩ : ∃ a1 a2 a3, rsV (runM 3 msH) = .agg [a1, a2, a3, slV (voF voH) 2] := ⟨_, _, _, by unfold rsV; rw [msH_vos]; rfl⟩
 rw [msH_run, hrs] at hs5
 have hw : VoL (slV (voF voH) 2) voH := VoL.slV (vs := voH)
 have hs6 := fun m => x6 (n := 3) (m := m) (hw.byVal m.heap) hw (by decide) voH_ok.ok (by decide)
 have hs11 := fun m => t11 (m := m) (n := 3) (x := slV (msF (voH.map mgO)) 2) (z := .snil) (ms := voH.map mgO) (V := tkH) (MgL.slV rfl) voH_ok slV_pure
 have hlg : logL 3 ((voH.map mgO).map mgV) tkH = [tkH] := voH_log
 rw [hlg] at hs11
 simp only [lgV, tkH] at hs11
 have hsl : slen (slV (msF (voH.map mgO)) 2) = some 2 := slV_len rfl
 have hlv : voH.length = 2 := rfl
 rw [hlv] at hs6
 generalize slV (voF voH) 2 = w at *
 generalize slV (msF (voH.map mgO)) 2 = g at *
 refine WO.specE rfl rfl (hs5 _ rfl) (by simp only [pt8, pt3]; rfl) ?_
 repeat' (first | (refine WO.yes rfl ?_) | (refine WO.opE (by intro; simp (disch := omega) only [go_sem, Zz.look, Zz.cut, Nat.reduceAdd, Nat.reduceMul, Nat.reduceLeDiff, Int.reduceNeg, Int.reduceToNat]; rfl) (by simp only [pt8, pt0, pt1, pt2, pt3, pt4, pt5, pt6, pt7]; rfl) ?_) | (refine WO.opN (by intro; simp (disch := omega) only [go_sem, ov_all4, Option.bind_eq_bind, Zz.look, Nat.reduceAdd, Int.reduceNeg, setBlk, List.set_cons_zero, List.set_cons_succ]; rfl) ?_) | (refine WO.opE (by intro; exact ev_lenS (by simp only [go_sem]; first | rfl | assumption)) (by simp only [pt8, pt3]; rfl) ?_) | (refine WO.specE rfl rfl (hs6 _) (by simp only [pt8, pt1]; rfl) ?_) | (refine WO.specE rfl rfl (hs11 _) (by simp only [pt8, pt6]; rfl) ?_) | (refine WC.seq ?_) | (refine WC.region ?_) | (refine WO.nil ?_) | (simp only [fl1]) | (refine WC.calm rfl ?_) | (refine WC.ret ?_))
 all_goals exact ⟨_, rfl, rfl⟩
theorem s4 {m : Mem} : borrowE Z6 4 [] m = some (.bool true, m) := borrowE_of rfl (g4.mono fun y m' h => by rw [h]; rfl)
noncomputable def Z7 : Env := Z6.put 4 (borrowE Z6 4)
theorem Z7_ok : EnvOk Tryz.prog Z7 := Env.put_ok Z6_ok (borrowE_ok Z6_ok (callable Tryz.func4 (by kernel_rfl)))
set_option maxRecDepth 100000
set_option maxHeartbeats 8000000
noncomputable def W0 : Env := Ln.G3 Z7.spec
theorem W0_ok : EnvOk Tryz.prog W0 := Ln.G3_ok Z7_ok.spec
theorem W0_fn {g : Nat} {f : Func} {i : IFunc} (hf : Tryz.prog.funcs[g]? = some f) (hc : cFunc Tryz.prog f = some i) : W0.fn g = some i := Ln.fn_of hf hc
theorem ms_flatl (ms : List Mg) : (ms.map Mg.cells).flatten = msF ms := by rw [msF, List.flatMap_def]
theorem msF_len (ms : List Mg) : (msF ms).length = ms.length * 10 := by
 induction ms with
 | nil => rfl
 | cons m r ih =>
  have e : msF (m :: r) = m.cells ++ msF r := rfl
  have hl : m.cells.length = 10 := rfl
  rw [e, List.length_append, hl, ih, List.length_cons]
  omega
theorem msF_take (ms : List Mg) (i : Nat) : (msF ms).take (i * 10) = msF (ms.take i) := by
 induction ms generalizing i with
 | nil => simp [msF]
 | cons m r ih =>
  cases i with
  | zero => simp [msF]
  | succ i =>
   have e : msF (m :: r) = m.cells ++ msF r := rfl
   have hl : m.cells.length = 10 := rfl
   rw [e, show (i + 1) * 10 = m.cells.length + i * 10 by rw [hl]; omega, List.take_length_add_append, ih, List.take_succ_cons]
   rfl
theorem sl10 {ms : List Mg} {i : Nat} (hi : i ≤ ms.length) : ∃ y, (∀ H, sliceAV H 10 (slV (msF ms) ms.length) none (some (.int .i64 (i : Int))) none = some y) ∧ MgL y (ms.take i) ∧ Zz.pureA y = true := by
 by_cases h0 : ms.length = 0
 ·have e : ms = [] := by simpa using h0
  subst e
  obtain rfl : i = 0 := by simpa using hi
  exact ⟨.snil, fun H => by simp [slV, sliceAV, bnds, bndO, bnd], ⟨by simp, .inl ⟨rfl, rfl⟩⟩, rfl⟩
 ·refine ⟨.sval false i (msF (ms.take i)), fun H => ?_, ⟨fun c hc => ?_, .inr ⟨false, ?_⟩⟩, ?_⟩
  ·have e1 : (0 : Int) ≤ i ∧ (i : Int) ≤ (ms.length : Nat) := by omega
   unfold slV
   rw [if_neg h0]
   simp only [sliceAV, msF_len, if_true, bnds, bndO, bnd]
   simp [e1, msF_take]
  ·obtain ⟨p, _, rfl⟩ := List.mem_map.1 hc
   rfl
  ·rw [List.length_map, List.length_take, Nat.min_eq_left hi, ms_flatl]
  ·exact msF_flat _
theorem SlH.bds {H : Hp} {z : AV} {bs : List Int} (h : SlH H z 1 (bs.map (.int .i64)) bs.length) : Ln.BdS H.length H.length H z bs := by
 obtain ⟨h1, ⟨rfl, h2⟩ | ⟨h2, id, g, rfl, h3⟩⟩ := h
 ·have : bs = [] := by simpa using h2
  subst this
  exact .inl (.inl ⟨rfl, rfl⟩)
 ·have := look_ltR h3
  exact .inr ⟨id, g, 0, _, rfl, this, by omega, h3, rfl⟩
theorem byS_of {H : Hp} {z : AV} {bs : List Int} {k : Nat} (h : SlH H z 1 (uB bs) k) (hk : k = bs.length) : ∃ x, Zz.byVal H z = some x ∧ ByS x bs := by
 subst hk
 refine ⟨_, h.byV (uB_flat _), ?_⟩
 unfold slV
 split
 ·rename_i h0
  have : bs = [] := by simpa using h0
  subst this
  exact .inl ⟨rfl, rfl⟩
 ·exact .inr ⟨false, rfl⟩
theorem ints_app (a : List Int) (x : Int) : a.map (AV.int .i64) ++ [.int .i64 x] = (a ++ [x]).map (AV.int .i64) := by simp
theorem uB_app1 (a : List Int) (x : Int) : uB a ++ [.int .u8 x] = uB (a ++ [x]) := by simp [uB]
theorem SlH.slen {H : Hp} {z : AV} {k len : Nat} {l : List AV} (h : SlH H z k l len) : slen z = some len := by
 obtain ⟨h1, ⟨rfl, rfl⟩ | ⟨h2, id, g, rfl, h3⟩⟩ := h <;> rfl
theorem got_pre {bs : List Int} {ss : List Nat} (hb : bs.length ≤ 1000) : ∃ k, (Ln.runM bs ss).got = bs.take k := ⟨_, (Ln.run_inv (ss := ss) hb).got⟩
end Go.Proofs.YtgchabldcnmccacGreatDoor

