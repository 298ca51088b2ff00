import Derived.Test.YtgchabldcnmccacGreatDoorWf

set_option linter.unusedSimpArgs false
set_option linter.unusedVariables false

namespace Go.Proofs.YtgchabldcnmccacGreatDoor
open Go.Zz
set_option maxRecDepth 100000
set_option maxHeartbeats 8000000
theorem f32a {t : Tk} (h : TkOk t) : WF Y7 (.func 32 [] []) [.snil, .agg [.int .i64 t.s, .int .i64 t.c, .int .i64 t.n, .int .i64 t.d]] ⟨[], []⟩ fun y m' => y = .tuple [.sval false 1 [.int .i64 t.s, .int .i64 t.c, .int .i64 t.n, .int .i64 t.d], .int .i64 0] := by
 obtain ⟨h1, h2, _⟩ := id h
 have s1 := fun m => s23 (t := t) (m := m)
 simp only [h, decide_true] at s1
 refine WF.fnE rfl (fn_of Tryz.func32 cir32) (by show 2 ≤ 34; decide) ?_
 unfold ir32; dsimp only [k0, kI, mV, oO, oG]
 simp only [padTo, List.replicate, List.nil_append, List.append_nil]
 repeat' (first | (refine WO.opE (by intro; simp (disch := omega) only [go_sem, Zz.look, Zz.cut, Nat.reduceAdd, Nat.reduceLeDiff]; rfl) (by simp only [pt8, pt0, pt2, pt3, pt4, pt5, pt6]; rfl) ?_) | (refine WO.specE rfl rfl (s1 _) (by simp only [pt8, pt1, pt7]; rfl) ?_) | (refine WC.seq ?_) | (refine WC.region ?_) | (refine WO.nil ?_) | (simp only [fl1]) | (refine WC.no rfl ?_) | (refine WC.skip ?_))
 refine WO.call rfl rfl ((f64a (k := t.s) ⟨h1, by omega⟩).mono ?_)
 rintro y _ ⟨rfl, X, rfl⟩
 simp only [pt8, pt7, List.cons_append, List.nil_append]
 obtain ⟨A, hA⟩ : ∃ A, A = some (Blk.mk 0 [.int .i64 t.s, .int .i64 t.c, .int .i64 t.n, .int .i64 t.d]) :: X := ⟨_, rfl⟩
 have hA0 : Zz.look A 0 0 = some [.int .i64 t.s, .int .i64 t.c, .int .i64 t.n, .int .i64 t.d] := by rw [hA]; rfl
 have hA1 : ∀ R, Zz.look (A ++ R) 0 0 = some [.int .i64 t.s, .int .i64 t.c, .int .i64 t.n, .int .i64 t.d] := fun R => look_appR hA0
 rw [← hA]
 clear hA
 repeat' (first | (refine WO.opE (by intro; simp (disch := omega) only [go_sem]; rfl) (by simp only [pt8, pt0, pt1, pt2, pt3, pt4, pt6, pt7]; rfl) ?_) | (refine WO.opN (by intro; simp (disch := omega) only [go_sem, ov_all4, Option.bind_eq_bind, Nat.reduceAdd, lk0, st0, setBlk]; rfl) ?_) | (refine WC.seq ?_) | (refine WC.region ?_) | (refine WO.nil ?_) | (simp only [fl1]) | (refine WC.drawT ?_) | (refine WT.free rfl (by intro; simp (disch := omega) only [go_sem, hA1]; rfl) rfl (by simp only [pt8, pt1, pt3]; rfl) ?_) | (refine WT.big rfl rfl (by intro; simp (disch := omega) only [go_sem, hA1]; rfl) (by simp (disch := omega) only [go_sem, touch]; rfl) (by first | exact .inl rfl | exact .inr (apart_nil _) | exact .inr trivial | (right; apply apart_mk; simp only [apartL, List.nil_append, List.cons_append, List.getElem?_cons_succ, List.getElem?_cons_zero, Tch.free, and_true, true_and]; first | done | omega)) (by simp only [pt8, pt3]; rfl) ?_) | (refine WC.yes rfl ?_) | (refine WC.no rfl ?_) | (refine WC.block ?_))
 refine WT.callA (fun V => f65 (H := V) rfl) (by simp only [pt8, pt2]; rfl) ?_
 repeat' (first | (simp only [fl1]))
 refine WT.callN (f66.mono ?_)
 rintro y _ ⟨rfl, X2, rfl⟩
 refine ⟨dead_app _ _, ?_⟩
 simp only [pt8, pt4]
 repeat' (first | (simp only [fl2, fl5]) | (refine WT.nil ?_) | (refine WT.free rfl (by intro; simp (disch := omega) only [go_sem]; rfl) rfl (by simp only [pt8, pt4, pt5]; rfl) ?_) | (refine WC.ret ?_))
 exact ⟨_, rfl, rfl⟩
theorem f32b {f : Bool} {t : Tk} (h : TkOk t) : WF Y7 (.func 32 [] []) [.sval f 1 [.int .i64 t.s, .int .i64 t.c, .int .i64 t.n, .int .i64 t.d], .agg [.int .i64 t.s, .int .i64 t.c, .int .i64 t.n, .int .i64 t.d]] ⟨[], []⟩ fun y m' => y = .tuple [.snil, .int .i64 5] := by
 have s1 := fun m => s23 (t := t) (m := m)
 simp only [h, decide_true] at s1
 have hte := tk_eqC (t := t) (u := t)
 simp only [decide_true] at hte
 refine WF.fnE rfl (fn_of Tryz.func32 cir32) (by show 2 ≤ 34; decide) ?_
 unfold ir32; dsimp only [k0, kI, mV, oO, oG]
 simp only [padTo, List.replicate, List.nil_append, List.append_nil]
 repeat' (first | (refine WO.opE (by intro; simp (disch := omega) only [go_sem, Zz.look, Zz.cut, Nat.reduceAdd, Nat.reduceLeDiff]; rfl) (by simp only [pt8, pt0, pt2, pt3, pt4, pt5, pt6]; rfl) ?_) | (refine WO.specE rfl rfl (s1 _) (by simp only [pt8, pt1, pt7]; rfl) ?_) | (refine WC.seq ?_) | (refine WC.region ?_) | (refine WO.nil ?_) | (simp only [fl1]) | (refine WC.no rfl ?_) | (refine WC.skip ?_))
 refine WO.call rfl rfl ((f64b h).mono ?_)
 rintro y _ ⟨rfl, X, rfl⟩
 simp only [pt8, pt7, List.cons_append, List.nil_append]
 obtain ⟨A, hA⟩ : ∃ A, A = some (Blk.mk 0 [.int .i64 t.s, .int .i64 t.c, .int .i64 t.n, .int .i64 t.d]) :: X := ⟨_, rfl⟩
 have hA0 : Zz.look A 0 0 = some [.int .i64 t.s, .int .i64 t.c, .int .i64 t.n, .int .i64 t.d] := by rw [hA]; rfl
 have hA1 : ∀ R, Zz.look (A ++ R) 0 0 = some [.int .i64 t.s, .int .i64 t.c, .int .i64 t.n, .int .i64 t.d] := fun R => look_appR hA0
 rw [← hA]
 clear hA
 repeat' (first | (refine WO.opE (by intro; simp (disch := omega) only [go_sem, hA1, lk0, hte]; rfl) (by simp only [pt8, pt0, pt1, pt2, pt3, pt4, pt5, pt6, pt7]; rfl) ?_) | (refine WO.opN (by intro; simp (disch := omega) only [go_sem, ov_all4, Option.bind_eq_bind, Nat.reduceAdd, lk0, st0, setBlk]; rfl) ?_) | (refine WC.seq ?_) | (refine WC.region ?_) | (refine WO.nil ?_) | (simp only [fl1, fl2, fl5]) | (refine WC.yes rfl ?_) | (refine WC.no rfl ?_) | (refine WC.ret ?_) | (refine WC.block ?_))
 exact ⟨_, rfl, rfl⟩
theorem s32a {t : Tk} (h : TkOk t) {m : Mem} : borrowE Y7 32 [.snil, .agg [.int .i64 t.s, .int .i64 t.c, .int .i64 t.n, .int .i64 t.d]] m = some (.tuple [.sval false 1 [.int .i64 t.s, .int .i64 t.c, .int .i64 t.n, .int .i64 t.d], .int .i64 0], m) := borrowE_of rfl ((f32a h).mono fun y m' h => by rw [h]; rfl)
theorem s32b {f : Bool} {t : Tk} (h : TkOk t) {m : Mem} : borrowE Y7 32 [.sval f 1 [.int .i64 t.s, .int .i64 t.c, .int .i64 t.n, .int .i64 t.d], .agg [.int .i64 t.s, .int .i64 t.c, .int .i64 t.n, .int .i64 t.d]] m = some (.tuple [.snil, .int .i64 5], m) := borrowE_of rfl ((f32b h).mono fun y m' h => by rw [h]; rfl)
noncomputable def Y8 : Env := Y7.put 32 (borrowE Y7 32)
theorem Y8_ok : EnvOk Tryz.prog Y8 := Env.put_ok Y7_ok (borrowE_ok Y7_ok (callable Tryz.func32 (by kernel_rfl)))
theorem s33a {m : Mem} : borrowE Y7 33 [.snil] m = some (.bool true, m) := borrowE_of rfl (f33a.mono fun y m' h => by rw [h.1]; rfl)
theorem s33b {f : Bool} {t : Tk} (h : TkOk t) {m : Mem} : borrowE Y7 33 [.sval f 1 [.int .i64 t.s, .int .i64 t.c, .int .i64 t.n, .int .i64 t.d]] m = some (.bool true, m) := borrowE_of rfl ((f33b h).mono fun y m' h => by rw [h.1]; rfl)
noncomputable def Y9 : Env := Y8.put 33 (borrowE Y7 33)
theorem Y9_ok : EnvOk Tryz.prog Y9 := Env.put_ok Y8_ok (borrowE_ok Y7_ok (callable Tryz.func33 (by kernel_rfl)))
theorem f12a : WF Y9 (.func 12 [] []) [.snil, .snil] ⟨[], []⟩ fun y m' => y = .tuple [.snil, .int .i64 0] := by
 refine WF.fnE rfl (fn_of Tryz.func12 cir12) (by show 2 ≤ 42; decide) ?_
 unfold ir12; dsimp only [k0, kI, mV, oO, oG]
 simp only [padTo, List.replicate, List.nil_append, List.append_nil]
 repeat' (first | (refine WO.yes rfl ?_) | (refine WO.opE (by intro; simp (disch := omega) only [go_sem]; rfl) (by simp only [pt8, pt1, pt2, pt3, pt4, pt5, pt6, pt7]; rfl) ?_) | (refine WO.opE (by intro; exact ev_lenS (by simp only [go_sem]; first | rfl | assumption)) (by simp only [pt8, pt6]; rfl) ?_) | (refine WO.specE rfl rfl (s33a) (by simp only [pt8, pt0, pt4]; rfl) ?_) | (refine WO.specE rfl rfl (x34a) (by simp only [pt8, pt4]; rfl) ?_) | (refine WC.seq ?_) | (refine WC.region ?_) | (refine WO.nil ?_) | (simp only [fl1]) | (refine WC.no rfl ?_) | (refine WC.skip ?_) | (refine WC.block ?_))
 refine WC.loop ?_
 repeat' (first | (refine WO.opE (by intro; simp (disch := omega) only [go_sem]; rfl) (by simp only [pt8, pt0, pt1, pt4, pt5]; rfl) ?_) | (refine WC.seq ?_) | (refine WC.region ?_) | (refine WO.nil ?_) | (simp only [fl1]) | (refine WC.no rfl ?_) | (refine WC.exit ?_) | (refine WC.ret ?_))
 exact ⟨_, rfl, rfl⟩
theorem f12b {f : Bool} {t : Tk} (h : TkOk t) : WF Y9 (.func 12 [] []) [.sval f 1 [.int .i64 t.s, .int .i64 t.c, .int .i64 t.n, .int .i64 t.d], .snil] ⟨[], []⟩ fun y m' => y = .tuple [.sval false 1 [.int .i64 t.s, .int .i64 t.c, .int .i64 t.n, .int .i64 t.d], .int .i64 0] := by
 have s1 := fun m => s33b (f := f) h (m := m)
 have s2 := fun m => x34b (f := f) (t := t) (z := .sval f 1 [.int .i64 t.s, .int .i64 t.c, .int .i64 t.n, .int .i64 t.d]) (m := m) rfl
 refine WF.fnE rfl (fn_of Tryz.func12 cir12) (by show 2 ≤ 42; decide) ?_
 unfold ir12; dsimp only [k0, kI, mV, oO, oG]
 simp only [padTo, List.replicate, List.nil_append, List.append_nil]
 repeat' (first | (refine WO.yes rfl ?_) | (refine WO.opE (by intro; simp (disch := omega) only [go_sem]; rfl) (by simp only [pt8, pt1, pt2, pt3, pt4, pt5, pt6, pt7]; rfl) ?_) | (refine WO.opE (by intro; exact ev_lenS (by simp only [go_sem]; first | rfl | assumption)) (by simp only [pt8, pt6]; rfl) ?_) | (refine WO.specE rfl rfl (s1 _) (by simp only [pt8, pt4]; rfl) ?_) | (refine WO.specE rfl rfl (s2 _) (by simp only [pt8, pt4]; rfl) ?_) | (refine WO.specE rfl rfl (s33a) (by simp only [pt8, pt0]; rfl) ?_) | (refine WC.seq ?_) | (refine WC.region ?_) | (refine WO.nil ?_) | (simp only [fl1]) | (refine WC.no rfl ?_) | (refine WC.skip ?_) | (refine WC.block ?_))
 refine WC.loop ?_
 repeat' (first | (refine WO.opE (by intro; simp (disch := omega) only [go_sem]; rfl) (by simp only [pt8, pt0, pt1, pt4, pt5]; rfl) ?_) | (refine WC.seq ?_) | (refine WC.region ?_) | (refine WO.nil ?_) | (simp only [fl1]) | (refine WC.no rfl ?_) | (refine WC.exit ?_) | (refine WC.ret ?_))
 exact ⟨_, rfl, rfl⟩
theorem f12c {f g : Bool} {t : Tk} (h : TkOk t) : WF Y9 (.func 12 [] []) [.sval f 1 [.int .i64 t.s, .int .i64 t.c, .int .i64 t.n, .int .i64 t.d], .sval g 1 [.int .i64 t.s, .int .i64 t.c, .int .i64 t.n, .int .i64 t.d]] ⟨[], []⟩ fun y m' => y = .tuple [.sval false 1 [.int .i64 t.s, .int .i64 t.c, .int .i64 t.n, .int .i64 t.d], .int .i64 0] := by
 have s1 := fun m => s33b (f := f) h (m := m)
 have s3 := fun m => s33b (f := g) h (m := m)
 have s2 := fun m => x34b (f := f) (t := t) (z := .sval f 1 [.int .i64 t.s, .int .i64 t.c, .int .i64 t.n, .int .i64 t.d]) (m := m) rfl
 have s4 := fun m => s32b (f := false) h (m := m)
 have hi : indexAddrAV 4 (.sval g 1 [.int .i64 t.s, .int .i64 t.c, .int .i64 t.n, .int .i64 t.d]) (.int .i64 0) = some (.pval [.int .i64 t.s, .int .i64 t.c, .int .i64 t.n, .int .i64 t.d]) := rfl
 have hi2 : indexAddrAV 4 (.sval g 1 [.int .i64 t.s, .int .i64 t.c, .int .i64 t.n, .int .i64 t.d]) (.int .i64 ((0 : Nat) : Int)) = some (.pval [.int .i64 t.s, .int .i64 t.c, .int .i64 t.n, .int .i64 t.d]) := rfl
 refine WF.fnE rfl (fn_of Tryz.func12 cir12) (by show 2 ≤ 42; decide) ?_
 unfold ir12; dsimp only [k0, kI, mV, oO, oG]
 simp only [padTo, List.replicate, List.nil_append, List.append_nil]
 repeat' (first | (refine WO.yes rfl ?_) | (refine WO.opE (by intro; simp (disch := omega) only [go_sem]; rfl) (by simp only [pt8, pt1, pt2, pt3, pt4, pt5, pt6, pt7]; rfl) ?_) | (refine WO.opE (by intro; exact ev_lenS (by simp only [go_sem]; first | rfl | assumption)) (by simp only [pt8, pt6]; rfl) ?_) | (refine WO.specE rfl rfl (s1 _) (by simp only [pt8, pt4]; rfl) ?_) | (refine WO.specE rfl rfl (s2 _) (by simp only [pt8, pt4]; rfl) ?_) | (refine WO.specE rfl rfl (s3 _) (by simp only [pt8, pt0]; rfl) ?_) | (refine WC.seq ?_) | (refine WC.region ?_) | (refine WO.nil ?_) | (simp only [fl1]) | (refine WC.no rfl ?_) | (refine WC.skip ?_) | (refine WC.block ?_))
 refine WC.loop ?_
 repeat' (first | (refine WO.opE (by intro; simp (disch := omega) only [go_sem, Zz.look, Int.reduceAdd, hi]; rfl) (by simp only [pt8, pt0, pt1, pt2, pt3, pt4, pt5, pt6, pt7]; rfl) ?_) | (refine WO.opN (by intro; simp (disch := omega) only [go_sem, ov_all4, Option.bind_eq_bind, Zz.look, Nat.reduceAdd, setBlk]; rfl) ?_) | (refine WO.specE rfl rfl (s4 _) (by simp only [pt8, pt6]; rfl) ?_) | (refine WC.seq ?_) | (refine WC.region ?_) | (refine WO.nil ?_) | (simp only [fl1]) | (refine WC.yes rfl ?_) | (refine WC.no rfl ?_) | (refine WC.skip ?_) | (refine WC.block ?_))
 refine WC.loop ?_
 repeat' (first | (refine WO.opE (by intro; simp (disch := omega) only [go_sem]; rfl) (by simp only [pt8, pt0, pt1, pt4, pt5]; rfl) ?_) | (refine WC.seq ?_) | (refine WC.region ?_) | (refine WO.nil ?_) | (simp only [fl1]) | (refine WC.no rfl ?_) | (refine WC.exit ?_) | (refine WC.ret ?_))
 exact ⟨_, rfl, rfl⟩
theorem s12a {m : Mem} : borrowE Y9 12 [.snil, .snil] m = some (.tuple [.snil, .int .i64 0], m) := borrowE_of rfl (f12a.mono fun y m' h => by rw [h]; rfl)
theorem s12b {f : Bool} {t : Tk} (h : TkOk t) {m : Mem} : borrowE Y9 12 [.sval f 1 [.int .i64 t.s, .int .i64 t.c, .int .i64 t.n, .int .i64 t.d], .snil] m = some (.tuple [.sval false 1 [.int .i64 t.s, .int .i64 t.c, .int .i64 t.n, .int .i64 t.d], .int .i64 0], m) := borrowE_of rfl ((f12b h).mono fun y m' h => by rw [h]; rfl)
theorem s12c {f g : Bool} {t : Tk} (h : TkOk t) {m : Mem} : borrowE Y9 12 [.sval f 1 [.int .i64 t.s, .int .i64 t.c, .int .i64 t.n, .int .i64 t.d], .sval g 1 [.int .i64 t.s, .int .i64 t.c, .int .i64 t.n, .int .i64 t.d]] m = some (.tuple [.sval false 1 [.int .i64 t.s, .int .i64 t.c, .int .i64 t.n, .int .i64 t.d], .int .i64 0], m) := borrowE_of rfl ((f12c h).mono fun y m' h => by rw [h]; rfl)
noncomputable def Z1 : Env := Y9.put 12 (borrowE Y9 12)
theorem Z1_ok : EnvOk Tryz.prog Z1 := Env.put_ok Y9_ok (borrowE_ok Y9_ok (callable Tryz.func12 (by kernel_rfl)))
end Go.Proofs.YtgchabldcnmccacGreatDoor

