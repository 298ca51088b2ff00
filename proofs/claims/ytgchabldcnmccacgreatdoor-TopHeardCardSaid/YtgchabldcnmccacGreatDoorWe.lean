import Derived.Test.YtgchabldcnmccacGreatDoorWd

set_option linter.unusedSimpArgs false
set_option linter.unusedVariables false

namespace Go.Proofs.YtgchabldcnmccacGreatDoor
open Go.Zz
set_option maxRecDepth 100000
set_option maxHeartbeats 8000000
section
variable {Γ : Env} {rd : List DOper} {ms : List Nat} {tch : List Tch} {T T' : List AV} {H : Hp} {L : List (Option ALoop)} {Q : St → Prop} {d : Nat} {f : Opd} {args : List Opd} {v : AV}
theorem WT.callN (h : WF Γ (f.ev T) (args.map (·.ev T)) ⟨H, L⟩ fun v m' => stillDead H m'.heap = true ∧ WT Γ rd ⟨pt T d v, m'.heap, m'.loops⟩ (tch ++ [.all]) Q) : WT Γ (⟨⟨none, some d, .call f args⟩, []⟩ :: rd) ⟨T, H, L⟩ tch Q := by
 refine ⟨fun seen hs => ?_⟩
 refine WD.call rfl (h.mono fun v m' hv => ?_)
 refine ⟨hv.1, ?_⟩
 have hb : back H (strikes H seen []) m'.heap = m'.heap := back_dead hv.1
 rw [hb]
 exact hv.2.run _ (hs.app (dead_len hv.1) (Nat.le_refl _) fun j hj => hj.elim)
theorem WT.callA {X : Hp} (h : ∀ V, WF Γ (f.ev T) (args.map (·.ev T)) ⟨V, L⟩ fun y m' => y = v ∧ m' = ⟨V ++ X, L⟩) (ht : pt T d v = T') (k : WT Γ rd ⟨T', H ++ X, L⟩ (tch ++ [.all]) Q) : WT Γ (⟨⟨none, some d, .call f args⟩, ms⟩ :: rd) ⟨T, H, L⟩ tch Q := by
 refine ⟨fun seen hs => ?_⟩
 have hp := PartL.strikes hs.le ms (PartL.refl H)
 refine WD.call rfl ((h _).mono ?_)
 rintro y m' ⟨rfl, rfl⟩
 refine ⟨dead_app _ _, ?_⟩
 simp only [St.put, hp.backApp, ht]
 exact k.run _ (hs.app (by simp) (by simp [hp.len]) fun j hj => hj.elim)
theorem WT.specS {g : Nat} {aa : List AV} {S : List AV → Mem → Option (AV × Mem)} (x : AV) (hx : apartT tch ms (slBlk x)) (ha : args.map (·.ev T) = aa) (hS : Γ.spec g = some S) (h : ∀ V, Seen V H x → S aa ⟨V, L⟩ = some (v, ⟨V, L⟩)) (ht : pt T d v = T')
  (k : WT Γ rd ⟨T', H, L⟩ (tch ++ [.all]) Q) : WT Γ (⟨⟨none, some d, .call (.con (.func g [] [])) args⟩, ms⟩ :: rd) ⟨T, H, L⟩ tch Q := by
 refine ⟨fun seen hs => ?_⟩
 have hp := PartL.strikes hs.le ms (PartL.refl H)
 refine WD.call rfl ?_
 rw [ha]
 refine WF.spec hS (by simpa using h _ (seen_of hs hx)) ?_
 refine ⟨dead_self _, ?_⟩
 simp only [St.put, hp.back, hp.len, ht]
 exact k.run _ (hs.app (Nat.le_refl _) (Nat.le_refl _) fun j hj => hj.elim)
end
theorem g84 {t : Tk} : WF Y4 (.func 84 [] []) [.agg [.int .i64 t.s, .int .i64 t.c, .int .i64 t.n, .int .i64 t.d]] ⟨[], []⟩ fun y m' => y = .int .i64 t.s := by
 refine WF.fnE rfl (fn_of Tryz.func84 cir84) (by show 1 ≤ 5; decide) ?_
 unfold ir84; dsimp only [k0, kI, mV, oO, oG]
 simp only [padTo, List.replicate, List.nil_append, List.append_nil]
 repeat' (first | (refine WO.opE (by intro; simp (disch := omega) only [go_sem, Zz.look]; rfl) (by simp only [pt1, pt2, pt3, pt4]; rfl) ?_) | (refine WC.seq ?_) | (refine WC.region ?_) | (refine WO.nil ?_) | (simp only [fl1]) | (refine WC.ret ?_))
 exact ⟨_, rfl, rfl⟩
theorem s84 {t : Tk} {m : Mem} : borrowE Y4 84 [.agg [.int .i64 t.s, .int .i64 t.c, .int .i64 t.n, .int .i64 t.d]] m = some (.int .i64 t.s, m) :=
 borrowE_of rfl (g84.mono fun y m' h => by rw [h]; rfl)
noncomputable def Y5 : Env := Y4.put 84 (borrowE Y4 84)
theorem Y5_ok : EnvOk Tryz.prog Y5 := Env.put_ok Y4_ok (borrowE_ok Y4_ok (callable Tryz.func84 (by kernel_rfl)))
theorem f34a : WF Y5 (.func 34 [] []) [.snil] ⟨[], []⟩ fun y m' => newV m'.heap y = some .snil := by
 refine WF.fnE rfl (fn_of Tryz.func34 cir34) (by show 1 ≤ 8; decide) ?_
 unfold ir34; dsimp only [k0, kI, mV, oO, oG]
 simp only [padTo, List.replicate, List.nil_append, List.append_nil]
 repeat' (first | (refine WO.opE (by intro; simp (disch := omega) only [go_sem]; rfl) (by simp only [pt2, pt3, pt4]; rfl) ?_) | (refine WC.seq ?_) | (refine WC.region ?_) | (refine WO.nil ?_) | (simp only [fl1, fl2]) | (refine WC.yes rfl ?_) | (refine WC.ret ?_))
 all_goals exact ⟨_, rfl, rfl⟩
theorem f34b {f : Bool} {t : Tk} : WF Y5 (.func 34 [] []) [.sval f 1 [.int .i64 t.s, .int .i64 t.c, .int .i64 t.n, .int .i64 t.d]] ⟨[], []⟩ fun y m' => newV m'.heap y = some (.sval false 1 [.int .i64 t.s, .int .i64 t.c, .int .i64 t.n, .int .i64 t.d]) := by
 refine WF.fnE rfl (fn_of Tryz.func34 cir34) (by show 1 ≤ 8; decide) ?_
 unfold ir34; dsimp only [k0, kI, mV, oO, oG]
 simp only [padTo, List.replicate, List.nil_append, List.append_nil]
 repeat' (first | (refine WO.opE (by intro; simp (disch := omega) only [go_sem, zeros, fillP, Nat.reduceMul]; rfl) (by simp only [pt2, pt3, pt4, pt5, pt6, pt7]; rfl) ?_) | (refine WC.seq ?_) | (refine WC.region ?_) | (refine WO.nil ?_) | (simp only [fl1]) | (refine WC.no rfl ?_) | (refine WC.skip ?_) | (refine WC.ret ?_))
 exact ⟨_, rfl, rfl⟩
theorem x34a {m : Mem} : borrowX Y5 34 [.snil] m = some (.snil, m) := borrowX_of (byVals_cons rfl (byVals_nil _)) f34a
theorem x34b {f : Bool} {t : Tk} {z : AV} {m : Mem} (hz : Zz.byVal m.heap z = some (.sval f 1 [.int .i64 t.s, .int .i64 t.c, .int .i64 t.n, .int .i64 t.d])) : borrowX Y5 34 [z] m = some (.sval false 1 [.int .i64 t.s, .int .i64 t.c, .int .i64 t.n, .int .i64 t.d], m) := borrowX_of (byVals_cons hz (byVals_nil _)) f34b
noncomputable def Y6 : Env := Y5.put 34 (borrowX Y5 34)
theorem Y6_ok : EnvOk Tryz.prog Y6 := Env.put_ok Y5_ok (borrowX_ok Y5_ok (callable Tryz.func34 (by kernel_rfl)))
theorem f85 {f : Bool} {t : Tk} : WF Y6 (.func 85 [] []) [.snil, .int .i64 0, .sval f 1 [.int .i64 t.s, .int .i64 t.c, .int .i64 t.n, .int .i64 t.d]] ⟨[], []⟩ fun y m' => newV m'.heap y = some (.sval false 1 [.int .i64 t.s, .int .i64 t.c, .int .i64 t.n, .int .i64 t.d]) := by
 refine WF.fnE rfl (fn_of Tryz.func85 cir85) (by show 3 ≤ 95; decide) ?_
 unfold ir85; dsimp only [k0, kI, mV, oO, oG]
 simp only [padTo, List.replicate, List.nil_append, List.append_nil]
 repeat' (first | (refine WO.opE (by intro; simp (disch := omega) only [go_sem]; rfl) (by simp only [pt8, pt0, pt1, pt2, pt3, pt4, pt5, pt6, pt7]; rfl) ?_) | (refine WO.opE (by intro; exact ev_lenS (by simp only [go_sem]; first | rfl | assumption)) (by simp only [pt8, pt3, pt6]; rfl) ?_) | (refine WC.seq ?_) | (refine WC.region ?_) | (refine WO.nil ?_) | (simp only [fl1, fl2]) | (refine WC.yes rfl ?_) | (refine WC.no rfl ?_) | (refine WC.skip ?_) | (refine WC.ret ?_))
 exact ⟨_, rfl, rfl⟩
theorem x85 {f : Bool} {t : Tk} {z : AV} {m : Mem} (hz : Zz.byVal m.heap z = some (.sval f 1 [.int .i64 t.s, .int .i64 t.c, .int .i64 t.n, .int .i64 t.d])) : borrowX Y6 85 [.snil, .int .i64 0, z] m = some (.sval false 1 [.int .i64 t.s, .int .i64 t.c, .int .i64 t.n, .int .i64 t.d], m) := borrowX_of (byVals_cons rfl (byVals_cons rfl (byVals_cons hz (byVals_nil _)))) f85
noncomputable def Y7 : Env := Y6.put 85 (borrowX Y6 85)
theorem Y7_ok : EnvOk Tryz.prog Y7 := Env.put_ok Y6_ok (borrowX_ok Y6_ok (callable Tryz.func85 (by kernel_rfl)))
theorem f65 {H : Hp} {L : List (Option ALoop)} {x : AV} (hc : x.cells = some [x]) : WF Y7 (.func 65 [] []) [x] ⟨H, L⟩ fun y m' => y = .agg [x, .func 84 [] []] ∧ m' = ⟨H ++ [some ⟨0, [x, .func 84 [] []]⟩], L⟩ := by
 unfold AV.cells at hc
 refine WF.fnE rfl (fn_of Tryz.func65 cir65) (by show 1 ≤ 5; decide) ?_
 unfold ir65; dsimp only [k0, kI, mV, oO, oG]
 simp only [padTo, List.replicate, List.nil_append, List.append_nil]
 repeat' (first | (refine WO.opE (by intro; simp (disch := omega) only [go_sem, ov_one0, ov_one1, fillP, Option.bind_eq_bind, hc]; rfl) (by simp only [pt2, pt3, pt4]; rfl) ?_) | (refine WO.opN (by intro; simp (disch := omega) only [go_sem, ov_all2, Option.bind_eq_bind, Nat.reduceAdd, lk0, st0, setBlk]; rfl) ?_) | (refine WC.seq ?_) | (refine WC.region ?_) | (refine WO.nil ?_) | (simp only [fl1]) | (refine WC.ret ?_))
 refine ⟨[.agg [x, .func 84 [] []]], ?_, rfl, rfl⟩
 simp only [evRes, gt2, lk0 (l := []) rfl, Option.bind_some, loadCs]
 rfl
theorem f67 {H : Hp} {L : List (Option ALoop)} {x : AV} {n : Nat} (hc : x.cells = some [x]) (hl : slen x = some n) (hn : n ≤ 1) : WF Y7 (.func 67 [] []) [.agg [x, .func 84 [] []]] ⟨H, L⟩ fun y m' => y = .bool true ∧ ∃ b, m' = ⟨H ++ [b], L⟩ := by
 unfold AV.cells at hc
 refine WF.fnE rfl (fn_of Tryz.func67 cir67) (by show 1 ≤ 29; decide) ?_
 unfold ir67; dsimp only [k0, kI, mV, oO, oG]
 simp only [padTo, List.replicate, List.nil_append, List.append_nil]
 repeat' (first | (refine WO.opE (by intro; simp (disch := omega) only [go_sem]; rfl) (by simp only [pt1, pt2, pt3]; rfl) ?_) | (refine WC.seq ?_) | (refine WC.region ?_) | (refine WO.nil ?_) | (simp only [fl1]) | (refine WC.block ?_))
 refine WC.loop ?_
 repeat' (first | (refine WO.opE (by intro; simp (disch := omega) only [go_sem, lk0]; rfl) (by simp only [pt8, pt0, pt2, pt4, pt5, pt6]; rfl) ?_) | (refine WO.opE (by intro; exact ev_lenS (by simp only [go_sem]; first | rfl | assumption)) (by simp only [pt7]; rfl) ?_) | (refine WC.seq ?_) | (refine WC.region ?_) | (refine WO.nil ?_) | (simp only [fl1]) | (refine WC.exit ?_) | (refine WC.ret ?_) | (refine WC.em2 rfl (fun hp => ?_) (fun hp => ?_) <;> try (exfalso; first | omega | contradiction)))
 exact ⟨_, rfl, rfl, _, rfl⟩
theorem mem2 {H A B : Hp} {L : List (Option ALoop)} : Mem.mk (H ++ A ++ B) L = Mem.mk (H ++ (A ++ B)) L := by rw [List.append_assoc]
theorem mem3 {H A B C : Hp} {L : List (Option ALoop)} : Mem.mk (H ++ A ++ B ++ C) L = Mem.mk (H ++ (A ++ B ++ C)) L := by simp
theorem f33a {H : Hp} {L : List (Option ALoop)} : WF Y7 (.func 33 [] []) [.snil] ⟨H, L⟩ fun y m' => y = .bool true ∧ ∃ X, m' = ⟨H ++ X, L⟩ := by
 refine WF.fnE rfl (fn_of Tryz.func33 cir33) (by show 1 ≤ 18; decide) ?_
 unfold ir33; dsimp only [k0, kI, mV, oO, oG]
 simp only [padTo, List.replicate, List.nil_append, List.append_nil]
 repeat' (first | (refine WO.opE (by intro; simp (disch := omega) only [go_sem]; rfl) (by simp only [pt2, pt5, pt7]; rfl) ?_) | (refine WO.opE (by intro; exact ev_lenS (by simp only [go_sem]; first | rfl | assumption)) (by simp only [pt6]; rfl) ?_) | (refine WC.seq ?_) | (refine WC.region ?_) | (refine WO.nil ?_) | (simp only [fl1]) | (refine WC.block ?_))
 refine WC.loop ?_
 repeat' (first | (refine WO.opE (by intro; simp (disch := omega) only [go_sem]; rfl) (by simp only [pt8, pt0, pt7]; rfl) ?_) | (refine WC.seq ?_) | (refine WC.region ?_) | (refine WO.nil ?_) | (simp only [fl1]) | (refine WC.no rfl ?_) | (refine WC.exit ?_))
 refine WO.call rfl rfl ((f65 rfl).mono ?_)
 rintro y _ ⟨rfl, rfl⟩
 simp only [pt8, pt0]
 skip
 refine WO.call rfl rfl ((f67 rfl rfl (Nat.zero_le _)).mono ?_)
 rintro y _ ⟨rfl, b, rfl⟩
 simp only [pt8, pt1]
 repeat' (first | (refine WO.opE (by intro; simp (disch := omega) only [go_sem]; rfl) (by simp only [pt2]; rfl) ?_) | (refine WO.nil ?_) | (refine WC.ret ?_))
 exact ⟨_, rfl, rfl, _, mem2⟩
theorem f33b {H : Hp} {L : List (Option ALoop)} {f : Bool} {t : Tk} (h : TkOk t) : WF Y7 (.func 33 [] []) [.sval f 1 [.int .i64 t.s, .int .i64 t.c, .int .i64 t.n, .int .i64 t.d]] ⟨H, L⟩ fun y m' => y = .bool true ∧ ∃ X, m' = ⟨H ++ X, L⟩ := by
 have s1 := fun m => s23 (t := t) (m := m)
 simp only [h, decide_true] at s1
 have hi : indexAddrAV 4 (.sval f 1 [.int .i64 t.s, .int .i64 t.c, .int .i64 t.n, .int .i64 t.d]) (.int .i64 0) = some (.pval [.int .i64 t.s, .int .i64 t.c, .int .i64 t.n, .int .i64 t.d]) := rfl
 have hi2 : indexAddrAV 4 (.sval f 1 [.int .i64 t.s, .int .i64 t.c, .int .i64 t.n, .int .i64 t.d]) (.int .i64 ((0 : Nat) : Int)) = some (.pval [.int .i64 t.s, .int .i64 t.c, .int .i64 t.n, .int .i64 t.d]) := rfl
 refine WF.fnE rfl (fn_of Tryz.func33 cir33) (by show 1 ≤ 18; decide) ?_
 unfold ir33; dsimp only [k0, kI, mV, oO, oG]
 simp only [padTo, List.replicate, List.nil_append, List.append_nil]
 repeat' (first | (refine WO.opE (by intro; simp (disch := omega) only [go_sem]; rfl) (by simp only [pt2, pt5, pt7]; rfl) ?_) | (refine WO.opE (by intro; exact ev_lenS (by simp only [go_sem]; first | rfl | assumption)) (by simp only [pt6]; rfl) ?_) | (refine WC.seq ?_) | (refine WC.region ?_) | (refine WO.nil ?_) | (simp only [fl1]) | (refine WC.block ?_))
 refine WC.loop ?_
 repeat' (first | (refine WO.opE (by intro; simp (disch := omega) only [go_sem, Int.reduceAdd, hi, lk0]; rfl) (by simp only [pt8, pt0, pt1, pt2, pt3, pt4, pt5, pt6, pt7]; rfl) ?_) | (refine WO.opN (by intro; simp (disch := omega) only [go_sem, ov_all4, Option.bind_eq_bind, Nat.reduceAdd, lk0, st0, setBlk]; rfl) ?_) | (refine WO.specE rfl rfl (s1 _) (by simp only [pt8, pt4]; rfl) ?_) | (refine WC.seq ?_) | (refine WC.region ?_) | (refine WO.nil ?_) | (simp only [fl1]) | (refine WC.yes rfl ?_) | (refine WC.no rfl ?_) | (refine WC.skip ?_) | (refine WC.block ?_))
 refine WC.loop ?_
 repeat' (first | (refine WO.opE (by intro; simp (disch := omega) only [go_sem]; rfl) (by simp only [pt8, pt0, pt7]; rfl) ?_) | (refine WC.seq ?_) | (refine WC.region ?_) | (refine WO.nil ?_) | (simp only [fl1]) | (refine WC.no rfl ?_) | (refine WC.exit ?_))
 refine WO.call rfl rfl ((f65 rfl).mono ?_)
 rintro y _ ⟨rfl, rfl⟩
 simp only [pt8, pt0]
 skip
 refine WO.call rfl rfl ((f67 (n := 1) rfl rfl (Nat.le_refl _)).mono ?_)
 rintro y _ ⟨rfl, b, rfl⟩
 simp only [pt8, pt1]
 repeat' (first | (refine WO.opE (by intro; simp (disch := omega) only [go_sem]; rfl) (by simp only [pt2]; rfl) ?_) | (refine WO.nil ?_) | (refine WC.ret ?_))
 exact ⟨_, rfl, rfl, _, mem3⟩
end Go.Proofs.YtgchabldcnmccacGreatDoor

