import Derived.Test.YtgchabldcnmccacGreatDoorWe

set_option linter.unusedSimpArgs false
set_option linter.unusedVariables false

namespace Go.Proofs.YtgchabldcnmccacGreatDoor
open Go.Zz
set_option maxRecDepth 100000
set_option maxHeartbeats 8000000
theorem f94 {H : Hp} {L : List (Option ALoop)} {sb : Nat} {x : AV} {t : Tk} (hs : Zz.look H sb 0 = some [x, .func 84 [] []]) : WF Y7 (.func 94 [] [.pref sb 0 0]) [.agg [.int .i64 t.s, .int .i64 t.c, .int .i64 t.n, .int .i64 t.d], .int .i64 t.s] ⟨H, L⟩ fun y m' => y = .int .i64 0 ∧ ∃ b, m' = ⟨H ++ [b], L⟩ := by
 have hs2 : ∀ R, Zz.look (H ++ R) sb 0 = some [x, .func 84 [] []] := fun R => look_appR hs
 have h63 : ∀ m, borrowE Y2 63 [.int .i64 t.s, .int .i64 t.s] m = some (.int .i64 0, m) := fun m => by
  rw [s63]
  simp [cmpI]
 refine WF.fnE rfl (fn_of Tryz.func94 cir94) (by show 3 ≤ 12; decide) ?_
 unfold ir94; dsimp only [k0, kI, mV, oO, oG]
 simp only [padTo, List.replicate, List.nil_append, List.cons_append]
 repeat' (first | (refine WO.opE (by intro; simp (disch := omega) only [go_sem, hs2, lk0]; rfl) (by simp only [pt8, pt0, pt2, pt3, pt5, pt6, pt7]; rfl) ?_) | (refine WO.ispec rfl rfl rfl (s84 (t := t)) (by simp only [pt8, pt1]; rfl) ?_) | (refine WO.specE rfl rfl (h63 _) (by simp only [pt8, pt3]; rfl) ?_) | (refine WC.seq ?_) | (refine WC.region ?_) | (refine WO.nil ?_) | (simp only [fl1]) | (refine WC.ret ?_))
 exact ⟨_, rfl, rfl, _, rfl⟩
theorem f93a {H : Hp} {L : List (Option ALoop)} {g : AV} {k : Int} : WF Y7 (.func 93 [] []) [.snil, .int .i64 k, g] ⟨H, L⟩ fun y m' => y = .tuple [.int .i64 0, .bool false] ∧ m' = ⟨H, L⟩ := by
 refine WF.fnE rfl (fn_of Tryz.func93 cir93) (by show 3 ≤ 49; decide) ?_
 unfold ir93; dsimp only [k0, kI, mV, oO, oG]
 simp only [padTo, List.replicate, List.nil_append, List.append_nil]
 repeat' (first | (refine WO.opE (by intro; simp (disch := omega) only [go_sem]; rfl) (by simp only [pt8, pt0, pt1, pt2, pt4, pt6, pt7]; rfl) ?_) | (refine WO.opE (by intro; exact ev_lenS (by simp only [go_sem]; first | rfl | assumption)) (by simp only [pt8, pt5]; rfl) ?_) | (refine WC.seq ?_) | (refine WC.region ?_) | (refine WO.nil ?_) | (refine WC.block ?_))
 refine WC.loop ?_
 repeat' (first | (refine WO.noE rfl (by simp only [pt8, pt0, pt1, pt2, pt3, pt4, pt5, pt6, pt7]; rfl) ?_) | (refine WO.opE (by intro; simp (disch := omega) only [go_sem]; rfl) (by simp only [pt8, pt0, pt1, pt3, pt4, pt5, pt6, pt7]; rfl) ?_) | (refine WC.seq ?_) | (refine WC.region ?_) | (refine WO.nil ?_) | (simp only [fl1]) | (refine WC.no rfl ?_) | (refine WC.exit ?_) | (refine WC.ret ?_))
 exact ⟨_, rfl, rfl, rfl⟩
theorem f93b {H : Hp} {L : List (Option ALoop)} {sb : Nat} {x : AV} {f : Bool} {t : Tk} (hs : Zz.look H sb 0 = some [x, .func 84 [] []]) : WF Y7 (.func 93 [] []) [.sval f 1 [.int .i64 t.s, .int .i64 t.c, .int .i64 t.n, .int .i64 t.d], .int .i64 t.s, .func 94 [] [.pref sb 0 0]] ⟨H, L⟩ fun y m' => y = .tuple [.int .i64 0, .bool true] ∧ ∃ X, m' = ⟨H ++ X, L⟩ := by
 have hi : indexAddrAV 4 (.sval f 1 [.int .i64 t.s, .int .i64 t.c, .int .i64 t.n, .int .i64 t.d]) (.int .i64 0) = some (.pval [.int .i64 t.s, .int .i64 t.c, .int .i64 t.n, .int .i64 t.d]) := rfl
 have hi2 : indexAddrAV 4 (.sval f 1 [.int .i64 t.s, .int .i64 t.c, .int .i64 t.n, .int .i64 t.d]) (.int .i64 ((0 : Nat) : Int)) = some (.pval [.int .i64 t.s, .int .i64 t.c, .int .i64 t.n, .int .i64 t.d]) := rfl
 have hw : IntKind.i64.wrap ((IntKind.u64.wrap 1).fdiv (2 ^ min 1 64)) = 0 := by decide
 have h01 : ((1 : Nat) : Int) = 1 := rfl
 refine WF.fnE rfl (fn_of Tryz.func93 cir93) (by show 3 ≤ 49; decide) ?_
 unfold ir93; dsimp only [k0, kI, mV, oO, oG]
 simp only [padTo, List.replicate, List.nil_append, List.append_nil]
 repeat' (first | (refine WO.opE (by intro; simp (disch := omega) only [go_sem]; rfl) (by simp only [pt8, pt0, pt1, pt2, pt4, pt6, pt7]; rfl) ?_) | (refine WO.opE (by intro; exact ev_lenS (by simp only [go_sem]; first | rfl | assumption)) (by simp only [pt8, pt5]; rfl) ?_) | (refine WC.seq ?_) | (refine WC.region ?_) | (refine WO.nil ?_) | (refine WC.block ?_))
 simp only [h01]
 refine WC.loop ?_
 repeat' (first | (refine WO.opE (by intro; simp (disch := omega) only [go_sem, Int.reduceAdd, Int.reduceToNat, hi, hw]; rfl) (by simp only [pt8, pt0, pt1, pt2, pt3, pt4, pt5, pt6, pt7]; rfl) ?_) | (refine WC.seq ?_) | (refine WC.region ?_) | (refine WO.nil ?_) | (simp only [fl1]) | (refine WC.yes rfl ?_) | (refine WC.skip ?_) | (refine WC.block ?_))
 refine WO.call rfl rfl ((f94 hs).mono ?_)
 rintro y _ ⟨rfl, b1, rfl⟩
 simp only [pt8, pt6]
 repeat' (first | (refine WO.opE (by intro; simp (disch := omega) only [go_sem]; rfl) (by simp only [pt8, pt2, pt7]; rfl) ?_) | (refine WC.region ?_) | (refine WO.nil ?_) | (simp only [fl1, fl4]) | (refine WC.no rfl ?_))
 refine WC.loop ?_
 repeat' (first | (refine WO.yes rfl ?_) | (refine WO.opE (by intro; simp (disch := omega) only [go_sem, hi]; rfl) (by simp only [pt8, pt0, pt1, pt2, pt3, pt4, pt5, pt6, pt7]; rfl) ?_) | (refine WC.seq ?_) | (refine WC.region ?_) | (refine WO.nil ?_) | (simp only [fl1]) | (refine WC.no rfl ?_) | (refine WC.exit ?_))
 refine WO.call rfl rfl ((f94 (look_appR hs)).mono ?_)
 rintro y _ ⟨rfl, b2, rfl⟩
 simp only [pt8, pt6]
 repeat' (first | (refine WO.yes rfl ?_) | (refine WO.opE (by intro; simp (disch := omega) only [go_sem]; rfl) (by simp only [pt8, pt0, pt6, pt7]; rfl) ?_) | (refine WO.nil ?_) | (refine WC.ret ?_))
 exact ⟨_, rfl, rfl, [b1, b2], congrArg (fun h => Mem.mk h L) (List.append_assoc H [b1] [b2])⟩
theorem f83a {H : Hp} {L : List (Option ALoop)} {k : Int} : WF Y7 (.func 83 [] []) [.agg [.snil, .func 84 [] []], .int .i64 k] ⟨H, L⟩ fun y m' => y = .tuple [.int .i64 0, .bool false] ∧ ∃ X, m' = ⟨H ++ X, L⟩ := by
 refine WF.fnE rfl (fn_of Tryz.func83 cir83) (by show 2 ≤ 13; decide) ?_
 unfold ir83; dsimp only [k0, kI, mV, oO, oG]
 simp only [padTo, List.replicate, List.nil_append, List.append_nil]
 repeat' (first | (refine WO.opE (by intro; simp (disch := omega) only [go_sem, lk0]; rfl) (by simp only [pt8, pt0, pt1, pt2, pt4, pt5, pt6, pt7]; rfl) ?_) | (refine WC.seq ?_) | (refine WC.region ?_) | (refine WO.nil ?_) | (simp only [fl1]))
 refine WO.call rfl rfl (f93a.mono ?_)
 rintro y _ ⟨rfl, rfl⟩
 simp only [pt8, pt2]
 repeat' (first | (refine WO.opE (by intro; simp (disch := omega) only [go_sem]; rfl) (by simp only [pt8, pt3, pt4, pt5]; rfl) ?_) | (refine WO.nil ?_) | (refine WC.ret ?_))
 exact ⟨_, rfl, rfl, _, rfl⟩
theorem f83b {H : Hp} {L : List (Option ALoop)} {f : Bool} {t : Tk} : WF Y7 (.func 83 [] []) [.agg [.sval f 1 [.int .i64 t.s, .int .i64 t.c, .int .i64 t.n, .int .i64 t.d], .func 84 [] []], .int .i64 t.s] ⟨H, L⟩ fun y m' => y = .tuple [.int .i64 0, .bool true] ∧ ∃ X, m' = ⟨H ++ X, L⟩ := by
 refine WF.fnE rfl (fn_of Tryz.func83 cir83) (by show 2 ≤ 13; decide) ?_
 unfold ir83; dsimp only [k0, kI, mV, oO, oG]
 simp only [padTo, List.replicate, List.nil_append, List.append_nil]
 repeat' (first | (refine WO.opE (by intro; simp (disch := omega) only [go_sem, lk0]; rfl) (by simp only [pt8, pt0, pt1, pt2, pt4, pt5, pt6, pt7]; rfl) ?_) | (refine WC.seq ?_) | (refine WC.region ?_) | (refine WO.nil ?_) | (simp only [fl1]))
 refine WO.call rfl rfl ((f93b (lk0 rfl)).mono ?_)
 rintro y _ ⟨rfl, X, rfl⟩
 simp only [pt8, pt2]
 repeat' (first | (refine WO.opE (by intro; simp (disch := omega) only [go_sem]; rfl) (by simp only [pt8, pt3, pt4, pt5]; rfl) ?_) | (refine WO.nil ?_) | (refine WC.ret ?_))
 exact ⟨_, rfl, rfl, _, congrArg (fun h => Mem.mk h L) (List.append_assoc H [_] X)⟩
theorem f64a {H : Hp} {L : List (Option ALoop)} {k : Int} (h : 1 ≤ k ∧ k ≤ 15) : WF Y7 (.func 64 [] []) [.snil, .int .i64 k] ⟨H, L⟩ fun y m' => y = .tuple [.agg [.int .i64 0, .int .i64 0, .int .i64 0, .int .i64 0], .int .i64 4] ∧ ∃ X, m' = ⟨H ++ X, L⟩ := by
 obtain ⟨h1, h2⟩ := h
 refine WF.fnE rfl (fn_of Tryz.func64 cir64) (by show 2 ≤ 34; decide) ?_
 unfold ir64; dsimp only [k0, kI, mV, oO, oG]
 simp only [padTo, List.replicate, List.nil_append, List.append_nil]
 repeat' (first | (refine WO.opE (by intro; simp (disch := omega) only [go_sem]; rfl) (by simp only [pt8, pt0, pt4, pt5]; rfl) ?_) | (refine WC.seq ?_) | (refine WC.region ?_) | (refine WO.nil ?_) | (simp only [fl1]))
 refine WO.call rfl rfl (f33a.mono ?_)
 rintro y _ ⟨rfl, X0, rfl⟩
 simp only [pt8, pt1]
 repeat' (first | (refine WO.yes rfl ?_) | (refine WO.opE (by intro; simp (disch := omega) only [go_sem]; rfl) (by simp only [pt8, pt0, pt1, pt2, pt3, pt4, pt5, pt6, pt7]; rfl) ?_) | (refine WC.seq ?_) | (refine WC.region ?_) | (refine WO.nil ?_) | (simp only [fl1]) | (refine WC.skip ?_) | (refine WO.em2 rfl (by intro hp; simp only [hp, decide_true]; rfl) (by intro hp; simp only [hp, decide_false]; rfl) (fun hp => ?_) (fun hp => ?_) <;> try (exfalso; first | omega | contradiction)) | (refine WC.em2 rfl (fun hp => ?_) (fun hp => ?_) <;> try (exfalso; first | omega | contradiction)))
 refine WO.call rfl rfl ((f65 rfl).mono ?_)
 rintro y _ ⟨rfl, rfl⟩
 simp only [pt8, pt6]
 repeat' (first | (refine WO.opE (by intro; simp (disch := omega) only [go_sem]; rfl) (by simp only [pt8, pt7]; rfl) ?_) | fail)
 refine WO.call rfl rfl (f83a.mono ?_)
 rintro y _ ⟨rfl, X, rfl⟩
 simp only [pt8, pt0, List.append_assoc, List.cons_append, List.nil_append]
 repeat' (first | (refine WO.opE (by intro; simp (disch := omega) only [go_sem, fillP]; rfl) (by simp only [pt8, pt1, pt2, pt3, pt4, pt5, pt6, pt7]; rfl) ?_) | (refine WO.opN (by intro; simp (disch := omega) only [go_sem, ov_all4, Option.bind_eq_bind, Nat.reduceAdd, lk0, st0, setBlk]; rfl) ?_) | (refine WC.seq ?_) | (refine WC.region ?_) | (refine WO.nil ?_) | (simp only [fl1, fl2]) | (refine WC.yes rfl ?_) | (refine WC.ret ?_))
 refine ⟨[.agg [.int .i64 0, .int .i64 0, .int .i64 0, .int .i64 0], .int .i64 4], ?_, rfl, _, rfl⟩
 simp only [evRes, gt4, gt5, lk0 rfl, Option.bind_some, loadCs]
 rfl
theorem f64b {H : Hp} {L : List (Option ALoop)} {f : Bool} {t : Tk} (h : TkOk t) : WF Y7 (.func 64 [] []) [.sval f 1 [.int .i64 t.s, .int .i64 t.c, .int .i64 t.n, .int .i64 t.d], .int .i64 t.s] ⟨H, L⟩ fun y m' => y = .tuple [.agg [.int .i64 t.s, .int .i64 t.c, .int .i64 t.n, .int .i64 t.d], .int .i64 0] ∧ ∃ X, m' = ⟨H ++ X, L⟩ := by
 obtain ⟨h1, h2, _⟩ := id h
 have hi : indexAddrAV 4 (.sval f 1 [.int .i64 t.s, .int .i64 t.c, .int .i64 t.n, .int .i64 t.d]) (.int .i64 0) = some (.pval [.int .i64 t.s, .int .i64 t.c, .int .i64 t.n, .int .i64 t.d]) := rfl
 have hi2 : indexAddrAV 4 (.sval f 1 [.int .i64 t.s, .int .i64 t.c, .int .i64 t.n, .int .i64 t.d]) (.int .i64 ((0 : Nat) : Int)) = some (.pval [.int .i64 t.s, .int .i64 t.c, .int .i64 t.n, .int .i64 t.d]) := rfl
 refine WF.fnE rfl (fn_of Tryz.func64 cir64) (by show 2 ≤ 34; decide) ?_
 unfold ir64; dsimp only [k0, kI, mV, oO, oG]
 simp only [padTo, List.replicate, List.nil_append, List.append_nil]
 repeat' (first | (refine WO.opE (by intro; simp (disch := omega) only [go_sem]; rfl) (by simp only [pt8, pt0, pt4, pt5]; rfl) ?_) | (refine WC.seq ?_) | (refine WC.region ?_) | (refine WO.nil ?_) | (simp only [fl1]))
 refine WO.call rfl rfl ((f33b h).mono ?_)
 rintro y _ ⟨rfl, X0, rfl⟩
 simp only [pt8, pt1]
 repeat' (first | (refine WO.yes rfl ?_) | (refine WO.opE (by intro; simp (disch := omega) only [go_sem]; rfl) (by simp only [pt8, pt0, pt1, pt2, pt3, pt4, pt5, pt6, pt7]; rfl) ?_) | (refine WC.seq ?_) | (refine WC.region ?_) | (refine WO.nil ?_) | (simp only [fl1]) | (refine WC.skip ?_) | (refine WO.em2 rfl (by intro hp; simp only [hp, decide_true]; rfl) (by intro hp; simp only [hp, decide_false]; rfl) (fun hp => ?_) (fun hp => ?_) <;> try (exfalso; first | omega | contradiction)) | (refine WC.em2 rfl (fun hp => ?_) (fun hp => ?_) <;> try (exfalso; first | omega | contradiction)))
 refine WO.call rfl rfl ((f65 rfl).mono ?_)
 rintro y _ ⟨rfl, rfl⟩
 simp only [pt8, pt6]
 repeat' (first | (refine WO.opE (by intro; simp (disch := omega) only [go_sem]; rfl) (by simp only [pt8, pt7]; rfl) ?_) | fail)
 refine WO.call rfl rfl (f83b.mono ?_)
 rintro y _ ⟨rfl, X, rfl⟩
 simp only [pt8, pt0, List.append_assoc, List.cons_append, List.nil_append]
 repeat' (first | (refine WO.opE (by intro; simp (disch := omega) only [go_sem, hi]; rfl) (by simp only [pt8, pt0, pt1, pt2, pt3, pt4, pt5, pt6, pt7]; rfl) ?_) | (refine WO.opN (by intro; simp (disch := omega) only [go_sem, ov_all4, Option.bind_eq_bind, Nat.reduceAdd, lk0, st0, setBlk]; rfl) ?_) | (refine WC.seq ?_) | (refine WC.region ?_) | (refine WO.nil ?_) | (simp only [fl1]) | (refine WC.no rfl ?_) | (refine WC.skip ?_) | (refine WC.ret ?_))
 refine ⟨[.agg [.int .i64 t.s, .int .i64 t.c, .int .i64 t.n, .int .i64 t.d], .int .i64 0], ?_, rfl, _, rfl⟩
 simp only [evRes, gt4, gt5, lk0 rfl, Option.bind_some, loadCs]
 rfl
theorem lkE {H X : Hp} {a b c : Option Blk} {l : List AV} : Zz.look (H ++ a :: b :: c :: (X ++ [some ⟨0, l⟩])) (H.length + (X.length + 1 + 1 + 1)) 0 = some l := by
 have e : H ++ a :: b :: c :: (X ++ [some ⟨0, l⟩]) = (H ++ a :: b :: c :: X) ++ some ⟨0, l⟩ :: [] := by simp
 rw [e]
 exact lk0 (by simp)
theorem f66 {H : Hp} {L : List (Option ALoop)} {t : Tk} : WF Y7 (.func 66 [] []) [.agg [.snil, .func 84 [] []], .agg [.int .i64 t.s, .int .i64 t.c, .int .i64 t.n, .int .i64 t.d]] ⟨H, L⟩ fun y m' => y = .agg [.sval false 1 [.int .i64 t.s, .int .i64 t.c, .int .i64 t.n, .int .i64 t.d], .func 84 [] []] ∧ ∃ X, m' = ⟨H ++ X, L⟩ := by
 refine WF.fnE rfl (fn_of Tryz.func66 cir66) (by show 2 ≤ 26; decide) ?_
 unfold ir66; dsimp only [k0, kI, mV, oO, oG]
 simp only [padTo, List.replicate, List.nil_append, List.append_nil]
 repeat' (first | (refine WO.opE (by intro; simp (disch := omega) only [go_sem, List.length_append, Nat.reduceAdd, List.append_assoc]; rfl) (by simp only [pt2, pt3, pt4]; rfl) ?_) | (refine WT.ispec rfl rfl rfl (fun V => s84) (by simp only [pt8, pt4, pt5]; rfl) ?_) | (refine WC.seq ?_) | (refine WC.region ?_) | (refine WO.nil ?_) | (simp only [fl1]) | (refine WC.drawT ?_) | (refine WT.free rfl (by intro; simp (disch := omega) only [go_sem, lk0, lk1]; rfl) rfl (by simp only [pt8, pt0, pt1, pt2, pt3]; rfl) ?_) | (refine WT.big rfl rfl (by intro; simp (disch := omega) only [go_sem, lk0, lk1]; rfl) (by simp (disch := omega) only [go_sem, touch]; rfl) (by first | exact .inl rfl | exact .inr (apart_nil _) | exact .inr trivial | (right; apply apart_mk; simp only [apartL, List.nil_append, List.cons_append, List.getElem?_cons_succ, List.getElem?_cons_zero, Tch.free, and_true, true_and]; first | done | omega)) (by simp only [pt8, pt0, pt2, pt3]; rfl) ?_) | fail)
 refine WT.callN (f83a.mono ?_)
 rintro y _ ⟨rfl, X, rfl⟩
 refine ⟨dead_app _ _, ?_⟩
 simp only [pt8, pt5, List.append_assoc, List.cons_append, List.nil_append]
 repeat' (first | (refine WT.spec rfl rfl (fun V => x34a) (by simp only [pt8, pt2]; rfl) ?_) | (refine WC.seq ?_) | (simp only [fl1]) | (refine WC.drawT ?_) | (refine WT.nil ?_) | (refine WT.free rfl (by intro; simp (disch := omega) only [go_sem, zeros, List.length_append, ov_all4, fillP, Option.bind_eq_bind, Nat.reduceAdd, lk0, lk1, List.append_assoc]; rfl) rfl (by simp only [pt8, pt0, pt1, pt3, pt4, pt5, pt6, pt7]; rfl) ?_) | (refine WT.big rfl rfl (by intro; simp (disch := omega) only [go_sem, zeros, List.length_append, ov_all4, fillP, Option.bind_eq_bind, Nat.reduceAdd, lk0, lk1, List.append_assoc]; rfl) (by simp (disch := omega) only [go_sem, List.length_append, touch]; rfl) (by first | exact .inl rfl | exact .inr (apart_nil _) | exact .inr trivial | (right; apply apart_mk; simp only [apartL, List.nil_append, List.cons_append, List.getElem?_cons_succ, List.getElem?_cons_zero, Tch.free, and_true]; first | done | omega)) (by simp only [pt8, pt0, pt1, pt4, pt5]; rfl) ?_) | fail)
 have hlE := lkE (H := H) (X := X) (a := some ⟨0, [.snil, .func 84 [] []]⟩) (b := some ⟨0, [.int .i64 t.s, .int .i64 t.c, .int .i64 t.n, .int .i64 t.d]⟩) (c := some ⟨0, [.snil, .nilFunc]⟩) (l := [.int .i64 t.s, .int .i64 t.c, .int .i64 t.n, .int .i64 t.d])
 have hsp : ∀ V, Seen V (H ++ some ⟨0, [.snil, .func 84 [] []]⟩ :: some ⟨0, [.int .i64 t.s, .int .i64 t.c, .int .i64 t.n, .int .i64 t.d]⟩ :: some ⟨0, [.snil, .nilFunc]⟩ :: (X ++ [some ⟨0, [.int .i64 t.s, .int .i64 t.c, .int .i64 t.n, .int .i64 t.d]⟩])) (.sref (H.length + (X.length + 1 + 1 + 1)) 0 0 4 1 (some 1)) → borrowX Y6 85 [.snil, .int .i64 0, .sref (H.length + (X.length + 1 + 1 + 1)) 0 0 4 1 (some 1)] ⟨V, L⟩ = some (.sval false 1 [.int .i64 t.s, .int .i64 t.c, .int .i64 t.n, .int .i64 t.d], ⟨V, L⟩) := fun V hV => x85 (f := true) (by
  have hl2 : Zz.look V (H.length + (X.length + 1 + 1 + 1)) 0 = some [.int .i64 t.s, .int .i64 t.c, .int .i64 t.n, .int .i64 t.d] := by rw [look_of_get (hV _ _ _ _ _ _ rfl)]; exact hlE
  simp only [Zz.byVal, Zz.byC, hl2]
  rfl)
 refine WT.specS (.sref (H.length + (X.length + 1 + 1 + 1)) 0 0 4 1 (some 1)) (apart_mk (by simp only [apartL, List.nil_append, List.cons_append, List.getElem?_cons_succ, List.getElem?_cons_zero, Tch.free, and_true]; omega)) rfl rfl hsp (by simp only [pt8, pt6]; rfl) ?_
 repeat' (first | (refine WT.nil ?_) | (refine WT.free rfl (by intro; simp (disch := omega) only [go_sem, ov_one0, ov_one1, fillP, Option.bind_eq_bind]; rfl) rfl (by simp only [pt8, pt1]; rfl) ?_) | (refine WT.bigN rfl rfl (by intro; simp (disch := omega) only [go_sem, ov_all2, Option.bind_eq_bind, Nat.reduceAdd, lk2, st2, setBlk]; rfl) (by simp (disch := omega) only [go_sem, touch]; rfl) (by first | exact .inl rfl | exact .inr (apart_nil _) | exact .inr trivial | (right; apply apart_mk; simp only [apartL, List.nil_append, List.cons_append, List.getElem?_cons_succ, List.getElem?_cons_zero, Tch.free, and_true, true_and]; first | done | omega)) ?_) | (refine WC.ret ?_))
 refine ⟨[.agg [.sval false 1 [.int .i64 t.s, .int .i64 t.c, .int .i64 t.n, .int .i64 t.d], .func 84 [] []]], ?_, rfl, _, rfl⟩
 simp only [evRes, gt4, lk2 rfl, Option.bind_some, loadCs]
 rfl
end Go.Proofs.YtgchabldcnmccacGreatDoor

