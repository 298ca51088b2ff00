import Derived.Test.YtgchabldcnmccaaDoorKn
set_option linter.unusedSimpArgs false
set_option linter.unusedVariables false

namespace Go.Proofs.YtgchabldcnmccaaDoor
open Go.Zz
set_option maxRecDepth 100000
set_option maxHeartbeats 8000000
theorem slV_resA {H : Hp} {l : List AV} {n : Nat} (hf : l.all flatAV = true) : resA H (slV l n) = some (slV l n) := by
  unfold slV
  split
  · rfl
  · show resC H (.sval false n l) = _
    simp only [resC, hf, if_true]
theorem f16 {x : AV} {rs : List Rc} {s : Int} (hx : DkN x (FR rs)) (hr : ∀ r ∈ rs, R1 r) (hlen : (FR rs).length ≤ 100000) (hn : rs.length ≤ 500) (hs : 0 ≤ s ∧ s ≤ (FR rs).length) : WF E25 (.func 16 [] []) [.agg [x, .int .i64 s]] ⟨[], []⟩ fun y m' => resV m'.heap y = some (.tuple [slV (rcF rs) rs.length, .agg [dV (FR rs), .int .i64 ((FR rs).length : Nat)], .int .i64 0]) := by
  have hcx := hx.by.cells
  unfold AV.cells at hcx
  have hcy := (dV_ok (FR rs)).by.cells
  unfold AV.cells at hcy
  have hln := (RcL.ofV rs).len
  refine WF.fnE rfl (fn_of Tryd.func16 cir16) (by show 1 ≤ 25; decide) ?_
  unfold ir16; dsimp only [k0, kI, mV, oO, oG]
  simp only [padTo, List.replicate, List.nil_append, List.append_nil, List.cons_append]
  repeat' (first | (refine WO.opE (by intro; simp (disch := omega) only [go_sem, zeros, List.length_append, ov_one0, ov_one1, ov_one2, ov_one3, ov_all2, ov_all3, ov_all4, ov_all5, ov_all6, over7, cut7, cut4b, cut4c, fillP, Option.bind_eq_bind, Zz.look, Nat.reduceAdd, Nat.reduceMul, Nat.reduceSub, Nat.reduceLeDiff, Nat.reduceEqDiff, Int.reduceNeg, Int.reduceAdd, Int.reduceToNat, reduceIte, reduceCtorEq, hcx, hcy, setBlk, List.set_cons_succ, List.set_cons_zero]; rfl) (by simp only [pt8, pt0, pt1, pt2, pt3, pt4, pt5, pt6, pt7]; rfl) ?_) | (refine WO.opN (by intro; simp (disch := omega) only [go_sem, zeros, List.length_append, ov_one0, ov_one1, ov_one2, ov_one3, ov_all2, ov_all3, ov_all4, ov_all5, ov_all6, over7, cut7, cut4b, cut4c, fillP, Option.bind_eq_bind, Zz.look, Nat.reduceAdd, Nat.reduceMul, Nat.reduceSub, Nat.reduceLeDiff, Nat.reduceEqDiff, Int.reduceNeg, Int.reduceAdd, Int.reduceToNat, reduceIte, reduceCtorEq, hcx, hcy, setBlk, List.set_cons_succ, List.set_cons_zero]; rfl) ?_) | (refine WO.opE (by intro; exact ev_lenS (by simp only [go_sem]; first | rfl | assumption)) (by simp only [pt8, pt0, pt1, pt2, pt3, pt4, pt5, pt6, pt7]; rfl) ?_) | (refine WO.specE rfl rfl (s14 hx.by) (by simp only [pt8, pt0, pt1, pt2, pt3, pt4, pt5, pt6, pt7]; rfl) ?_) | (refine WO.specE rfl rfl (s27 hx hr hlen (by omega)) (by simp only [pt8, pt0, pt1, pt2, pt3, pt4, pt5, pt6, pt7]; rfl) ?_) | (refine WO.specE rfl rfl (s15 hx hlen) (by simp only [pt8, pt0, pt1, pt2, pt3, pt4, pt5, pt6, pt7]; rfl) ?_) | (refine WC.seq ?_) | (refine WC.region ?_) | (refine WO.nil ?_) | (simp only [fl1, fl2, fl3, fl4, fl5, fl6, fl7, fl8, fl9, fl10, Nat.reduceBEq]) | (refine WC.skip ?_) | (refine WC.ret ?_) | (refine WC.em2 rfl (fun hp => ?_) (fun hp => ?_) <;> try (exfalso; first | omega | contradiction)))
  all_goals first
    | (exfalso; omega)
    | skip
  refine ⟨[slV (rcF rs) rs.length, .agg [dV (FR rs), .int .i64 ((FR rs).length : Nat)], .int .i64 0], rfl, ?_⟩
  simp only [oneRes, St.mem, resV, resT, slV_resA (rcF_flat rs), disk_res]
  rfl
theorem s16 {x : AV} {rs : List Rc} {s : Int} (hx : DkN x (FR rs)) (hr : ∀ r ∈ rs, R1 r) (hlen : (FR rs).length ≤ 100000) (hn : rs.length ≤ 500) (hs : 0 ≤ s ∧ s ≤ (FR rs).length) {m : Mem} : borrowE E25 16 [.agg [x, .int .i64 s]] m = some (.tuple [slV (rcF rs) rs.length, .agg [dV (FR rs), .int .i64 ((FR rs).length : Nat)], .int .i64 0], m) :=
  borrowE_of (by rw [List.all_cons, disk_pure hx.by]; rfl) (f16 hx hr hlen hn hs)
noncomputable def E26 : Env := E25.put 16 (borrowE E25 16)
theorem E26_ok : EnvOk Tryd.prog E26 := Env.put_ok E25_ok (borrowE_ok E25_ok (callable Tryd.func16 (by kernel_rfl)))
theorem zeros_u8 (n : Nat) : zeros [.int .u8 0] n = uB (List.replicate n 0) := by
  induction n with
  | zero => rfl
  | succ k ih => simp [zeros, ih, uB, List.replicate_succ]
theorem f38 {H : Hp} {L : List (Option ALoop)} {n : Nat} (hn : 0 < n) (hb : n ≤ 1000000) : WF E26 (.func 38 [] []) [.snil, .int .i64 (n : Int)] ⟨H, L⟩ fun y m' => y = .sref H.length 0 0 1 0 none ∧ m' = ⟨H ++ [some ⟨0, uB (List.replicate n 0)⟩], L⟩ := by
  have hz : ∀ (call : AV → List AV → Mem → Option (AV × Mem)) (T : List AV) (l c : Opd), l.ev T = .snil → c.ev T = .int .i64 (n : Int) → evOp call T ⟨H, L⟩ (.appendZ 1 1 [.int .u8 0] l c) = some (.sref H.length 0 0 1 n none, ⟨H ++ [some ⟨0, uB (List.replicate n 0)⟩], L⟩) := fun call T l c h1 h2 => by
    simp only [ev_appendZ, h1, h2, appendZAV]
    rw [if_pos (by omega)]
    simp only [Int.toNat_natCast, zeros_u8, newBlk]
  have hlk : Zz.look (H ++ [some ⟨0, uB (List.replicate n 0)⟩]) H.length 0 = some (uB (List.replicate n 0)) := lk0 rfl
  have hsl : ∀ H : Hp, sliceAV H 1 .snil none (some (.int .i64 0)) none = some .snil := fun H => rfl
  have hs2 : sliceAV (H ++ [some ⟨0, uB (List.replicate n 0)⟩]) 1 (.sref H.length 0 0 1 n none) none (some (.int .i64 0)) none = some (.sref H.length 0 0 1 0 none) := by
    simp [sliceAV, bnds, bndO, bnd]
  refine WF.fnE rfl (fn_of Tryd.func38 cir38) (by show 2 ≤ 27; decide) ?_
  unfold ir38; dsimp only [k0, kI, mV, oO, oG]
  simp only [padTo, List.replicate, List.nil_append, List.append_nil, List.cons_append]
  repeat' (first | (refine WO.opE (by intro; simp (disch := omega) only [go_sem, zeros, List.length_append, ov_one0, ov_one1, ov_one2, ov_one3, ov_all2, ov_all3, ov_all4, ov_all5, ov_all6, over7, cut7, cut4b, cut4c, fillP, Option.bind_eq_bind, Nat.reduceAdd, Nat.reduceMul, Nat.reduceSub, Nat.reduceLeDiff, Nat.reduceEqDiff, Int.reduceNeg, Int.reduceAdd, Int.reduceToNat, reduceIte, reduceCtorEq]; rfl) (by simp only [pt8, pt0, pt1, pt2, pt3, pt4, pt5, pt6, pt7]; rfl) ?_) | (refine WO.opE (by intro; exact ev_lenS (by simp only [go_sem]; first | rfl | assumption)) (by simp only [pt8, pt0, pt1, pt2, pt3, pt4, pt5, pt6, pt7]; rfl) ?_) | (refine WO.opE (by intro; exact hz _ _ _ _ rfl rfl) (by simp only [pt8, pt0, pt1, pt2, pt3, pt4, pt5, pt6, pt7]; rfl) ?_) | (refine WC.seq ?_) | (refine WC.region ?_) | (refine WO.nil ?_) | (simp only [fl1, fl2, fl3, fl4, fl5, fl6, fl7, fl8, fl9, fl10, Nat.reduceBEq]) | (refine WC.no rfl ?_) | (refine WC.skip ?_) | (refine WC.ret ?_) | (refine WC.em2 rfl (fun hp => ?_) (fun hp => ?_) <;> try (exfalso; first | omega | contradiction)))
  exact ⟨_, rfl, rfl, rfl⟩
theorem app_in {H : Hp} {L : List (Option ALoop)} {id g : Nat} {ps xs rest : List Int} {x : AV} (hl : Zz.look H id g = some (uB (ps ++ rest))) (hx : Zz.scells H 1 x = some (uB xs)) (hn : slen x = some xs.length) (hb : xs.length ≤ rest.length) :
    appendAV 1 1 ⟨H, L⟩ (.sref id g 0 1 ps.length none) x = some (.sref id g 0 1 (ps ++ xs).length none, ⟨setBlk H id g (uB ((ps ++ xs) ++ rest.drop xs.length)), L⟩) := by
  have e1 : Zz.cut (uB (ps ++ rest)) 0 (ps.length * 1) = some (uB ps) := by
    unfold Zz.cut
    rw [if_pos (by simp [uB_len])]
    simp [uB]
  have e2 : Zz.over (uB (ps ++ rest)) (0 + ps.length * 1) (uB xs) = some (uB ((ps ++ xs) ++ rest.drop xs.length)) := by
    unfold Zz.over
    rw [if_pos (by simp [uB_len]; omega)]
    simp only [uB, ← List.map_take, ← List.map_drop, ← List.map_append, Nat.zero_add, Nat.mul_one, List.take_left, List.length_map, ← List.drop_drop, List.drop_left]
  simp only [appendAV, hx, hn, Option.bind_eq_bind, Option.bind_some, if_true, hl, e1, storeAt, e2, uB_len, List.length_append]
  rw [if_pos (by omega)]
theorem f28 {H : Hp} {L : List (Option ALoop)} {b : Nat} {u w : AV} {us ws : List Int} (hb : Zz.look H b 0 = some [u, w]) (hu : ByS u us) (hw : ByS w ws) (h0 : ws ≠ []) (hlen : us.length + ws.length ≤ 200000) : WF E26 (.func 28 [] []) [.sref b 0 0 1 2 (some 2)] ⟨H, L⟩ fun y m' => ∃ X, y = .sref H.length 0 0 1 (us.length + ws.length) none ∧ m' = ⟨H ++ X, L⟩ ∧ Zz.look (H ++ X) H.length 0 = some (uB (us ++ ws)) := by
  have hbl := look_lt hb
  have hw0 := List.length_pos_iff.2 h0
  have hb2 : ∀ R, Zz.look (H ++ R) b 0 = some [u, w] := fun R => by rw [look_left hbl]; exact hb
  have hsum : ((us.length : Int) + ws.length) = ((us.length + ws.length : Nat) : Int) := by omega
  refine WF.fnE rfl (fn_of Tryd.func28 cir28) (by show 1 ≤ 36; decide) ?_
  unfold ir28; dsimp only [k0, kI, mV, oO, oG]
  simp only [padTo, List.replicate, List.nil_append, List.append_nil, List.cons_append]
  repeat' (first | (refine WO.opE (by intro; simp (disch := omega) only [go_sem, zeros, List.length_append, ov_one0, ov_one1, ov_one2, ov_one3, ov_all2, ov_all3, ov_all4, ov_all5, ov_all6, over7, cut7, cut4b, cut4c, fillP, Option.bind_eq_bind, Nat.reduceAdd, Nat.reduceMul, Nat.reduceSub, Nat.reduceLeDiff, Nat.reduceEqDiff, Int.reduceNeg, Int.reduceAdd, Int.reduceToNat, reduceIte, reduceCtorEq]; rfl) (by simp only [pt8, pt0, pt1, pt2, pt3, pt4, pt5, pt6, pt7]; rfl) ?_) | (refine WO.opE (by intro; exact ev_lenS (by simp only [go_sem]; first | rfl | assumption)) (by simp only [pt8, pt0, pt1, pt2, pt3, pt4, pt5, pt6, pt7]; rfl) ?_) | (refine WC.seq ?_) | (refine WC.region ?_) | (refine WO.nil ?_) | (simp only [fl1, fl2, fl3, fl4, fl5, fl6, fl7, fl8, fl9, fl10, Nat.reduceBEq]) | (refine WC.block ?_))
  refine WC.loop ?_
  repeat' (first | (refine WO.opE (by intro; simp (disch := omega) only [go_sem, zeros, List.length_append, ov_one0, ov_one1, ov_one2, ov_one3, ov_all2, ov_all3, ov_all4, ov_all5, ov_all6, over7, cut7, cut4b, cut4c, fillP, Option.bind_eq_bind, Nat.reduceAdd, Nat.reduceMul, Nat.reduceSub, Nat.reduceLeDiff, Nat.reduceEqDiff, Int.reduceNeg, Int.reduceAdd, Int.reduceToNat, reduceIte, reduceCtorEq, hb, ia_sref, idx]; rfl) (by simp only [pt8, pt0, pt1, pt2, pt3, pt4, pt5, pt6, pt7]; rfl) ?_) | (refine WO.opE (by intro; exact ev_lenS (by simp only [go_sem]; exact hu.len)) (by simp only [pt8, pt0, pt1, pt2, pt3, pt4, pt5, pt6, pt7]; rfl) ?_) | (refine WC.seq ?_) | (refine WC.region ?_) | (refine WO.nil ?_) | (simp only [fl1, fl2, fl3, fl4, fl5, fl6, fl7, fl8, fl9, fl10, Nat.reduceBEq]) | (refine WC.yes rfl ?_) | (refine WC.no rfl ?_) | (refine WC.skip ?_) | (refine WC.block ?_))
  refine WC.loop ?_
  repeat' (first | (refine WO.opE (by intro; simp (disch := omega) only [go_sem, zeros, List.length_append, ov_one0, ov_one1, ov_one2, ov_one3, ov_all2, ov_all3, ov_all4, ov_all5, ov_all6, over7, cut7, cut4b, cut4c, fillP, Option.bind_eq_bind, Nat.reduceAdd, Nat.reduceMul, Nat.reduceSub, Nat.reduceLeDiff, Nat.reduceEqDiff, Int.reduceNeg, Int.reduceAdd, Int.reduceToNat, reduceIte, reduceCtorEq, hb, ia_sref, idx]; rfl) (by simp only [pt8, pt0, pt1, pt2, pt3, pt4, pt5, pt6, pt7]; rfl) ?_) | (refine WO.opE (by intro; exact ev_lenS (by simp only [go_sem]; exact hw.len)) (by simp only [pt8, pt0, pt1, pt2, pt3, pt4, pt5, pt6, pt7]; rfl) ?_) | (refine WC.seq ?_) | (refine WC.region ?_) | (refine WO.nil ?_) | (simp only [fl1, fl2, fl3, fl4, fl5, fl6, fl7, fl8, fl9, fl10, Nat.reduceBEq]) | (refine WC.yes rfl ?_) | (refine WC.no rfl ?_) | (refine WC.skip ?_) | (refine WC.block ?_))
  refine WC.loop ?_
  repeat' (first | (refine WO.opE (by intro; simp (disch := omega) only [go_sem, zeros, List.length_append, ov_one0, ov_one1, ov_one2, ov_one3, ov_all2, ov_all3, ov_all4, ov_all5, ov_all6, over7, cut7, cut4b, cut4c, fillP, Option.bind_eq_bind, Nat.reduceAdd, Nat.reduceMul, Nat.reduceSub, Nat.reduceLeDiff, Nat.reduceEqDiff, Int.reduceNeg, Int.reduceAdd, Int.reduceToNat, reduceIte, reduceCtorEq, hsum]; rfl) (by simp only [pt8, pt0, pt1, pt2, pt3, pt4, pt5, pt6, pt7]; rfl) ?_) | (refine WC.seq ?_) | (refine WC.region ?_) | (refine WO.nil ?_) | (simp only [fl1, fl2, fl3, fl4, fl5, fl6, fl7, fl8, fl9, fl10, Nat.reduceBEq]) | (refine WC.no rfl ?_) | (refine WC.exit ?_))
  have hs0 : (0 + (us.length : Int) + ws.length) = ((us.length + ws.length : Nat) : Int) := by omega
  rw [hs0]
  refine WO.call rfl rfl ((f38 (by omega) (by omega)).mono ?_)
  rintro y _ ⟨rfl, rfl⟩
  simp only [pt8, pt0, pt1, pt2, pt3, pt4, pt5, pt6, pt7]
  have ha1 : ∀ (call : AV → List AV → Mem → Option (AV × Mem)) (T : List AV) (l c : Opd), l.ev T = .sref H.length 0 0 1 0 none → c.ev T = u → evOp call T ⟨H ++ [some ⟨0, uB (List.replicate (us.length + ws.length) 0)⟩], L⟩ (.append 1 1 l c) = some (.sref H.length 0 0 1 us.length none, ⟨H ++ [some ⟨0, uB (us ++ List.replicate ws.length 0)⟩], L⟩) := fun call T l c h1 h2 => by
    simp only [ev_append, h1, h2]
    have := app_in (H := H ++ [some ⟨0, uB (List.replicate (us.length + ws.length) 0)⟩]) (L := L) (id := H.length) (g := 0) (ps := []) (rest := List.replicate (us.length + ws.length) 0) (lk0 rfl) (hu.scells _) hu.len (by simp)
    simp only [List.nil_append, List.length_nil, List.drop_replicate, Nat.add_sub_cancel_left, setBlk, st0] at this
    exact this
  have ha2 : ∀ (call : AV → List AV → Mem → Option (AV × Mem)) (T : List AV) (l c : Opd), l.ev T = .sref H.length 0 0 1 us.length none → c.ev T = w → evOp call T ⟨H ++ [some ⟨0, uB (us ++ List.replicate ws.length 0)⟩], L⟩ (.append 1 1 l c) = some (.sref H.length 0 0 1 (us ++ ws).length none, ⟨H ++ [some ⟨0, uB (us ++ ws)⟩], L⟩) := fun call T l c h1 h2 => by
    simp only [ev_append, h1, h2]
    have := app_in (H := H ++ [some ⟨0, uB (us ++ List.replicate ws.length 0)⟩]) (L := L) (id := H.length) (g := 0) (ps := us) (rest := List.replicate ws.length 0) (lk0 rfl) (hw.scells _) hw.len (by simp)
    simp only [List.drop_replicate, Nat.sub_self, List.replicate_zero, List.append_nil, setBlk, st0] at this
    exact this
  repeat' (first | (refine WO.opE (by intro; simp (disch := omega) only [go_sem, zeros, List.length_append, ov_one0, ov_one1, ov_one2, ov_one3, ov_all2, ov_all3, ov_all4, ov_all5, ov_all6, over7, cut7, cut4b, cut4c, fillP, Option.bind_eq_bind, Nat.reduceAdd, Nat.reduceMul, Nat.reduceSub, Nat.reduceLeDiff, Nat.reduceEqDiff, Int.reduceNeg, Int.reduceAdd, Int.reduceToNat, reduceIte, reduceCtorEq, hb2]; rfl) (by simp only [pt8, pt0, pt1, pt2, pt3, pt4, pt5, pt6, pt7]; rfl) ?_) | (refine WC.seq ?_) | (refine WC.region ?_) | (refine WO.nil ?_) | (simp only [fl1, fl2, fl3, fl4, fl5, fl6, fl7, fl8, fl9, fl10, Nat.reduceBEq]) | (refine WC.block ?_))
  refine WC.loop ?_
  repeat' (first | (refine WO.opE (by intro; simp (disch := omega) only [go_sem, zeros, List.length_append, ov_one0, ov_one1, ov_one2, ov_one3, ov_all2, ov_all3, ov_all4, ov_all5, ov_all6, over7, cut7, cut4b, cut4c, fillP, Option.bind_eq_bind, Nat.reduceAdd, Nat.reduceMul, Nat.reduceSub, Nat.reduceLeDiff, Nat.reduceEqDiff, Int.reduceNeg, Int.reduceAdd, Int.reduceToNat, reduceIte, reduceCtorEq, hb2, ia_sref, idx]; rfl) (by simp only [pt8, pt0, pt1, pt2, pt3, pt4, pt5, pt6, pt7]; rfl) ?_) | (refine WO.opE (by intro; exact ha1 _ _ _ _ rfl rfl) (by simp only [pt8, pt0, pt1, pt2, pt3, pt4, pt5, pt6, pt7]; rfl) ?_) | (refine WC.seq ?_) | (refine WC.region ?_) | (refine WO.nil ?_) | (simp only [fl1, fl2, fl3, fl4, fl5, fl6, fl7, fl8, fl9, fl10, Nat.reduceBEq]) | (refine WC.yes rfl ?_) | (refine WC.skip ?_) | (refine WC.block ?_))
  refine WC.loop ?_
  repeat' (first | (refine WO.opE (by intro; simp (disch := omega) only [go_sem, zeros, List.length_append, ov_one0, ov_one1, ov_one2, ov_one3, ov_all2, ov_all3, ov_all4, ov_all5, ov_all6, over7, cut7, cut4b, cut4c, fillP, Option.bind_eq_bind, Nat.reduceAdd, Nat.reduceMul, Nat.reduceSub, Nat.reduceLeDiff, Nat.reduceEqDiff, Int.reduceNeg, Int.reduceAdd, Int.reduceToNat, reduceIte, reduceCtorEq, hb2, ia_sref, idx]; rfl) (by simp only [pt8, pt0, pt1, pt2, pt3, pt4, pt5, pt6, pt7]; rfl) ?_) | (refine WO.opE (by intro; exact ha2 _ _ _ _ rfl rfl) (by simp only [pt8, pt0, pt1, pt2, pt3, pt4, pt5, pt6, pt7]; rfl) ?_) | (refine WC.seq ?_) | (refine WC.region ?_) | (refine WO.nil ?_) | (simp only [fl1, fl2, fl3, fl4, fl5, fl6, fl7, fl8, fl9, fl10, Nat.reduceBEq]) | (refine WC.yes rfl ?_) | (refine WC.skip ?_) | (refine WC.block ?_))
  refine WC.loop ?_
  repeat' (first | (refine WO.opE (by intro; simp (disch := omega) only [go_sem, zeros, List.length_append, ov_one0, ov_one1, ov_one2, ov_one3, ov_all2, ov_all3, ov_all4, ov_all5, ov_all6, over7, cut7, cut4b, cut4c, fillP, Option.bind_eq_bind, Nat.reduceAdd, Nat.reduceMul, Nat.reduceSub, Nat.reduceLeDiff, Nat.reduceEqDiff, Int.reduceNeg, Int.reduceAdd, Int.reduceToNat, reduceIte, reduceCtorEq]; rfl) (by simp only [pt8, pt0, pt1, pt2, pt3, pt4, pt5, pt6, pt7]; rfl) ?_) | (refine WC.seq ?_) | (refine WC.region ?_) | (refine WO.nil ?_) | (simp only [fl1, fl2, fl3, fl4, fl5, fl6, fl7, fl8, fl9, fl10, Nat.reduceBEq]) | (refine WC.no rfl ?_) | (refine WC.exit ?_) | (refine WC.ret ?_))
  exact ⟨_, rfl, _, rfl, rfl, lk0 rfl⟩
theorem frame_ne (r : Rc) : frameB r ≠ [] := fun h => by
  have := frame_len r
  rw [h] at this
  simp at this
theorem f12 {x : AV} {rs : List Rc} {s : Int} {r : Rc} (hx : DkN x (FR rs)) (hr : ∀ r ∈ rs, R1 r) (hr1 : R1 r) (hlen : (FR rs).length + (frameB r).length ≤ 100000) (hn : rs.length < 500) (hs : 0 ≤ s ∧ s ≤ (FR rs).length) : WF E26 (.func 12 [] []) [.agg [x, .int .i64 s], .agg [.int .i64 r.k, .int .i64 r.s, .int .i64 r.b, .int .i64 r.v.s, .int .i64 r.v.c, .int .i64 r.v.n, .int .i64 r.v.d]] ⟨[], []⟩ fun y m' => resV m'.heap y = some (.tuple [.agg [dV (FR (rs ++ [r])), .int .i64 s], .int .i64 0]) := by
  have hcx := hx.by.cells
  unfold AV.cells at hcx
  have hln := (RcL.ofV rs).len
  have hok := hr1.1
  obtain ⟨hs1, hs2⟩ := hs
  have hn0 : (FR rs).length ≤ 100000 := by omega
  refine WF.fnE rfl (fn_of Tryd.func12 cir12) (by show 2 ≤ 49; decide) ?_
  unfold ir12; dsimp only [k0, kI, mV, oO, oG]
  simp only [padTo, List.replicate, List.nil_append, List.append_nil, List.cons_append]
  repeat' (first | (refine WO.yes rfl ?_) | (refine WO.opE (by intro; simp (disch := omega) only [go_sem, zeros, List.length_append, ov_one0, ov_one1, ov_one2, ov_one3, ov_all2, ov_all3, ov_all4, ov_all5, ov_all6, over7, cut7, cut4b, cut4c, fillP, Option.bind_eq_bind, Zz.look, Nat.reduceAdd, Nat.reduceMul, Nat.reduceSub, Nat.reduceLeDiff, Nat.reduceEqDiff, Int.reduceNeg, Int.reduceAdd, Int.reduceToNat, reduceIte, reduceCtorEq, hcx, setBlk, List.set_cons_succ, List.set_cons_zero]; rfl) (by simp only [pt8, pt0, pt1, pt2, pt3, pt4, pt5, pt6, pt7]; rfl) ?_) | (refine WO.specE rfl rfl (s14 hx.by) (by simp only [pt8, pt0, pt1, pt2, pt3, pt4, pt5, pt6, pt7]; rfl) ?_) | (refine WO.specE rfl rfl (s26 (r := r)) (by simp only [pt8, pt0, pt1, pt2, pt3, pt4, pt5, pt6, pt7]; rfl) ?_) | (refine WO.specE rfl rfl (s27 hx hr hn0 (by omega)) (by simp only [pt8, pt0, pt1, pt2, pt3, pt4, pt5, pt6, pt7]; rfl) ?_) | (refine WT.spec rfl rfl (fun V => s18 hr1) (by simp only [pt8, pt0, pt1, pt2, pt3, pt4, pt5, pt6, pt7]; rfl) ?_) | (refine WO.opE (by intro; exact ev_lenS (by simp only [go_sem]; exact hx.by.len)) (by simp only [pt8, pt0, pt1, pt2, pt3, pt4, pt5, pt6, pt7]; rfl) ?_) | (refine WC.seq ?_) | (refine WC.region ?_) | (refine WO.nil ?_) | (simp only [fl1, fl2, fl3, fl4, fl5, fl6, fl7, fl8, fl9, fl10, Nat.reduceBEq]) | (refine WC.drawT ?_) | (refine WT.free rfl (by intro; simp (disch := omega) only [go_sem, zeros, List.length_append, ov_one0, ov_one1, ov_one2, ov_one3, ov_all2, ov_all3, ov_all4, ov_all5, ov_all6, over7, cut7, cut4b, cut4c, fillP, Option.bind_eq_bind, Zz.look, Nat.reduceAdd, Nat.reduceMul, Nat.reduceSub, Nat.reduceLeDiff, Nat.reduceEqDiff, Int.reduceNeg, Int.reduceAdd, Int.reduceToNat, reduceIte, reduceCtorEq, hcx, setBlk, List.set_cons_succ, List.set_cons_zero]; rfl) rfl (by simp only [pt8, pt0, pt1, pt2, pt3, pt4, pt5, pt6, pt7]; rfl) ?_) | (refine WT.big rfl rfl (by intro; simp (disch := omega) only [go_sem, zeros, List.length_append, ov_one0, ov_one1, ov_one2, ov_one3, ov_all2, ov_all3, ov_all4, ov_all5, ov_all6, over7, cut7, cut4b, cut4c, fillP, Option.bind_eq_bind, Zz.look, Nat.reduceAdd, Nat.reduceMul, Nat.reduceSub, Nat.reduceLeDiff, Nat.reduceEqDiff, Int.reduceNeg, Int.reduceAdd, Int.reduceToNat, reduceIte, reduceCtorEq, hcx, setBlk, List.set_cons_succ, List.set_cons_zero]; rfl) (by simp (disch := omega) only [go_sem, zeros, List.length_append, ov_one0, ov_one1, ov_one2, ov_one3, ov_all2, ov_all3, ov_all4, ov_all5, ov_all6, over7, cut7, cut4b, cut4c, fillP, Option.bind_eq_bind, Zz.look, Nat.reduceAdd, Nat.reduceMul, Nat.reduceSub, Nat.reduceLeDiff, Nat.reduceEqDiff, Int.reduceNeg, Int.reduceAdd, Int.reduceToNat, reduceIte, reduceCtorEq, hcx, setBlk, List.set_cons_succ, List.set_cons_zero, touch]; rfl) (by first | exact .inl rfl | exact .inr (apart_nil _) | exact .inr trivial | (right; apply apart_mk; simp only [apartL, List.nil_append, List.cons_append, List.getElem?_cons_succ, List.getElem?_cons_zero, Tch.free, and_true, true_and]; first | done | omega)) (by simp only [pt8, pt0, pt1, pt2, pt3, pt4, pt5, pt6, pt7]; rfl) ?_) | (refine WC.skip ?_) | (refine WO.em2 rfl (by intro hp; simp only [hp, decide_true]; rfl) (by intro hp; simp only [hp, decide_false]; rfl) (fun hp => ?_) (fun hp => ?_) <;> try (exfalso; first | omega | contradiction)) | (refine WC.em2 rfl (fun hp => ?_) (fun hp => ?_) <;> try (exfalso; first | omega | contradiction)))
  all_goals first
    | (exfalso; omega)
    | (exfalso; exact absurd hok (by assumption))
    | skip
  refine WT.callR (fun v R => v = .sref 4 0 0 1 ((FR rs).length + (frameB r).length) none ∧ Zz.look R 0 0 = some (uB (FR rs ++ frameB r))) [3] rfl rfl (fun j _ => apart_nil _) (fun V hVl hVj => (f28 (b := 3) (us := FR rs) (ws := frameB r) (u := x) (w := .sval false (frameB r).length (uB (frameB r))) (by rw [look_of_get (hVj 3 (by simp))]; rfl) hx.by (ByS.mk _ _) (frame_ne r) (by omega)).mono ?_) ?_
  · rintro y _ ⟨X, rfl, rfl, h3⟩
    have hV4 : V.length = 4 := hVl
    refine ⟨rfl, X, rfl, by rw [hV4], ?_⟩
    rw [hV4] at h3
    rw [← h3]
    unfold Zz.look
    rw [List.getElem?_append_right (by omega), hV4]
  · rintro v R ⟨rfl, hR⟩
    obtain ⟨R', rfl⟩ : ∃ R', R = some ⟨0, uB (FR rs ++ frameB r)⟩ :: R' := by
      have h := look_eq_iff.1 hR
      cases R with
      | nil => simp at h
      | cons a R' => simp at h; exact ⟨R', by rw [h]⟩
    have hd : dV (FR (rs ++ [r])) = .sval false ((FR rs).length + (frameB r).length) (uB (FR rs ++ frameB r)) := by
      have e : FR (rs ++ [r]) = FR rs ++ frameB r := by rw [FR_app]; simp [FR]
      rw [e]
      unfold dV slV
      have := frame_len r
      rw [if_neg (by rw [List.length_append]; omega), List.length_append]
    rw [hd]
    simp only [pt8, pt0, pt1, pt2, pt3, pt4, pt5, pt6, pt7, List.cons_append, List.nil_append]
    have hcut : Zz.cut (uB (FR rs ++ frameB r)) 0 (((FR rs).length + (frameB r).length) * 1) = some (uB (FR rs ++ frameB r)) := by
      rw [← List.length_append]
      exact uB_cut _
    repeat' (first | (refine WO.yes rfl ?_) | (refine WO.opE (by intro; simp (disch := omega) only [go_sem, zeros, List.length_append, ov_one0, ov_one1, ov_one2, ov_one3, ov_all2, ov_all3, ov_all4, ov_all5, ov_all6, over7, cut7, cut4b, cut4c, fillP, Option.bind_eq_bind, Zz.look, Nat.reduceAdd, Nat.reduceMul, Nat.reduceSub, Nat.reduceLeDiff, Nat.reduceEqDiff, Int.reduceNeg, Int.reduceAdd, Int.reduceToNat, reduceIte, reduceCtorEq, setBlk, List.set_cons_succ, List.set_cons_zero]; rfl) (by simp only [pt8, pt0, pt1, pt2, pt3, pt4, pt5, pt6, pt7]; rfl) ?_) | (refine WO.opN (by intro; simp (disch := omega) only [go_sem, zeros, List.length_append, ov_one0, ov_one1, ov_one2, ov_one3, ov_all2, ov_all3, ov_all4, ov_all5, ov_all6, over7, cut7, cut4b, cut4c, fillP, Option.bind_eq_bind, Zz.look, Nat.reduceAdd, Nat.reduceMul, Nat.reduceSub, Nat.reduceLeDiff, Nat.reduceEqDiff, Int.reduceNeg, Int.reduceAdd, Int.reduceToNat, reduceIte, reduceCtorEq, setBlk, List.set_cons_succ, List.set_cons_zero]; rfl) ?_) | (refine WO.opE (by intro; exact ev_lenS (by simp only [go_sem]; first | rfl | assumption)) (by simp only [pt8, pt0, pt1, pt2, pt3, pt4, pt5, pt6, pt7]; rfl) ?_) | (refine WC.seq ?_) | (refine WC.region ?_) | (refine WO.nil ?_) | (simp only [fl1, fl2, fl3, fl4, fl5, fl6, fl7, fl8, fl9, fl10, Nat.reduceBEq]) | (refine WT.nil ?_) | (refine WT.free rfl (by intro; simp (disch := omega) only [go_sem, zeros, List.length_append, ov_one0, ov_one1, ov_one2, ov_one3, ov_all2, ov_all3, ov_all4, ov_all5, ov_all6, over7, cut7, cut4b, cut4c, fillP, Option.bind_eq_bind, Zz.look, Nat.reduceAdd, Nat.reduceMul, Nat.reduceSub, Nat.reduceLeDiff, Nat.reduceEqDiff, Int.reduceNeg, Int.reduceAdd, Int.reduceToNat, reduceIte, reduceCtorEq, setBlk, List.set_cons_succ, List.set_cons_zero]; rfl) rfl (by simp only [pt8, pt0, pt1, pt2, pt3, pt4, pt5, pt6, pt7]; rfl) ?_) | (refine WC.skip ?_) | (refine WC.ret ?_) | (refine WO.em2 rfl (by intro hp; simp only [hp, decide_true]; rfl) (by intro hp; simp only [hp, decide_false]; rfl) (fun hp => ?_) (fun hp => ?_) <;> try (exfalso; first | omega | contradiction)) | (refine WC.em2 rfl (fun hp => ?_) (fun hp => ?_) <;> try (exfalso; first | omega | contradiction)))
    all_goals first
      | (exfalso; omega)
      | skip
    refine ⟨[.agg [.sref 4 0 0 1 ((FR rs).length + (frameB r).length) none, .int .i64 s], .int .i64 0], rfl, ?_⟩
    simp only [oneRes, St.mem, resV, resT, resA, resL, resC, Zz.look, List.getElem?_cons_succ, List.getElem?_cons_zero, if_true, hcut, uB_flat]
    rfl
theorem s12 {x : AV} {rs : List Rc} {s : Int} {r : Rc} (hx : DkN x (FR rs)) (hr : ∀ r ∈ rs, R1 r) (hr1 : R1 r) (hlen : (FR rs).length + (frameB r).length ≤ 100000) (hn : rs.length < 500) (hs : 0 ≤ s ∧ s ≤ (FR rs).length) {m : Mem} : borrowE E26 12 [.agg [x, .int .i64 s], .agg [.int .i64 r.k, .int .i64 r.s, .int .i64 r.b, .int .i64 r.v.s, .int .i64 r.v.c, .int .i64 r.v.n, .int .i64 r.v.d]] m = some (.tuple [.agg [dV (FR (rs ++ [r])), .int .i64 s], .int .i64 0], m) :=
  borrowE_of (by rw [List.all_cons, disk_pure hx.by]; rfl) (f12 hx hr hr1 hlen hn hs)
noncomputable def E27 : Env := E26.put 12 (borrowE E26 12)
theorem E27_ok : EnvOk Tryd.prog E27 := Env.put_ok E26_ok (borrowE_ok E26_ok (callable Tryd.func12 (by kernel_rfl)))
end Go.Proofs.YtgchabldcnmccaaDoor

