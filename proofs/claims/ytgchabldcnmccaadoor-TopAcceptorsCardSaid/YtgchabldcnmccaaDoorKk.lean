import Derived.Test.YtgchabldcnmccaaDoorKj
set_option linter.unusedSimpArgs false
set_option linter.unusedVariables false

namespace Go.Proofs.YtgchabldcnmccaaDoor
open Go.Zz
set_option maxRecDepth 100000
set_option maxHeartbeats 8000000
def sl (a : Int) (k : Nat) : Int := IntKind.i64.wrap (a * 2 ^ (min k IntKind.i64.bits))
def orI (a b : Int) : Int := IntKind.i64.wrap (BitVec.ofInt IntKind.i64.bits a ||| BitVec.ofInt IntKind.i64.bits b).toNat
def jn (p q t : Int) : Int := orI (orI (sl p 16) (sl q 8)) t
theorem orI_add {a b k : Nat} (hb : b < 2 ^ k) (hs : a * 2 ^ k < 2 ^ 40) (hk : k ≤ 30) : orI ((a * 2 ^ k : Nat) : Int) (b : Nat) = ((a * 2 ^ k + b : Nat) : Int) := by
  have hb2 : b < 2 ^ 30 := Nat.lt_of_lt_of_le hb (Nat.pow_le_pow_right (by decide) hk)
  have e1 : (BitVec.ofInt 64 ((a * 2 ^ k : Nat) : Int)).toNat = a * 2 ^ k := by
    rw [BitVec.ofInt_natCast, BitVec.toNat_ofNat]
    exact Nat.mod_eq_of_lt (by omega)
  have e2 : (BitVec.ofInt 64 ((b : Nat) : Int)).toNat = b := by
    rw [BitVec.ofInt_natCast, BitVec.toNat_ofNat]
    exact Nat.mod_eq_of_lt (by omega)
  have e3 : (BitVec.ofInt 64 ((a * 2 ^ k : Nat) : Int) ||| BitVec.ofInt 64 ((b : Nat) : Int)).toNat = a * 2 ^ k + b := by
    rw [BitVec.toNat_or, e1, e2, ← Nat.shiftLeft_eq, Nat.shiftLeft_add_eq_or_of_lt hb]
  show IntKind.i64.wrap ((BitVec.ofInt 64 ((a * 2 ^ k : Nat) : Int) ||| BitVec.ofInt 64 ((b : Nat) : Int)).toNat : Int) = _
  rw [e3]
  exact wrap_id (by omega) (by omega)
theorem jn_eq {b : Int} (h : BlOk b) : jn (u8 (b.fdiv 65536)) (u8 (b.fdiv 256)) (u8 b) = b := by
  obtain ⟨h1, h2⟩ := h
  obtain ⟨n, rfl⟩ : ∃ n : Nat, b = n := ⟨b.toNat, by omega⟩
  have hu : ∀ m : Nat, u8 (m : Int) = ((m % 256 : Nat) : Int) := fun m => by
    unfold u8 IntKind.wrap
    simp [IntKind.signed, IntKind.bits]
  have f1 : ((n : Int)).fdiv 65536 = ((n / 65536 : Nat) : Int) := by
    rw [Int.fdiv_eq_ediv_of_nonneg _ (by decide)]; rfl
  have f2 : ((n : Int)).fdiv 256 = ((n / 256 : Nat) : Int) := by
    rw [Int.fdiv_eq_ediv_of_nonneg _ (by decide)]; rfl
  rw [f1, f2, hu, hu, hu]
  have g1 : n / 65536 % 256 = n / 65536 := Nat.mod_eq_of_lt (by omega)
  rw [g1]
  have s1 : sl ((n / 65536 : Nat) : Int) 16 = ((n / 65536 * 2 ^ 16 : Nat) : Int) := by
    show IntKind.i64.wrap (((n / 65536 : Nat) : Int) * 65536) = _
    rw [wrap_id (by omega) (by omega)]
    omega
  have s2 : sl ((n / 256 % 256 : Nat) : Int) 8 = ((n / 256 % 256 * 2 ^ 8 : Nat) : Int) := by
    show IntKind.i64.wrap (((n / 256 % 256 : Nat) : Int) * 256) = _
    rw [wrap_id (by omega) (by omega)]
    omega
  unfold jn
  rw [s1, s2, orI_add (by omega) (by omega) (by omega)]
  have e : n / 65536 * 2 ^ 16 + n / 256 % 256 * 2 ^ 8 = (n / 65536 * 256 + n / 256 % 256) * 2 ^ 8 := by omega
  rw [e, orI_add (by omega) (by omega) (by omega)]
  omega
theorem u8_bd (n : Int) : 0 ≤ u8 n ∧ u8 n < 256 := by
  unfold u8 IntKind.wrap
  simp [IntKind.signed, IntKind.bits]
  omega
theorem f52 {x : AV} {r : Rc} (hr : R1 r) (hx : ByS x (bodyB r)) : WF E15 (.func 52 [] []) [x] ⟨[], []⟩ fun y m' => resV m'.heap y = some (.tuple [.agg [.int .i64 r.k, .int .i64 r.s, .int .i64 r.b, .int .i64 r.v.s, .int .i64 r.v.c, .int .i64 r.v.n, .int .i64 r.v.d], .bool true]) := by
  obtain ⟨hok, hs, hk⟩ := hr
  have hdo : decide (RcOk r) = true := decide_eq_true hok
  obtain ⟨k, s, b, v⟩ := r
  simp only at hs hk
  subst hs
  rcases hk with hk | hk
  · subst hk
    have hb : bodyB ⟨1, 1, b, v⟩ = [1, 1, u8 (b.fdiv 65536), u8 (b.fdiv 256), u8 b] := rfl
    rw [hb] at hx
    obtain ⟨hbl, hv⟩ : BlOk b ∧ v = tk0 := by
      obtain ⟨_, _, h | h | h⟩ := hok
      · exact ⟨h.2.1, h.2.2⟩
      · exact absurd h.1 (by simp)
      · exact absurd h.1 (by simp)
    have hjn := jn_eq hbl
    obtain ⟨p1, p2⟩ := u8_bd (b.fdiv 65536)
    obtain ⟨q1, q2⟩ := u8_bd (b.fdiv 256)
    obtain ⟨t1, t2⟩ := u8_bd b
    generalize u8 (b.fdiv 65536) = p at *
    generalize u8 (b.fdiv 256) = q at *
    generalize u8 b = t at *
    obtain ⟨_, h⟩ | ⟨full, rfl⟩ := hx
    · cases h
    show WF E15 (.func 52 [] []) [.sval full 5 [.int .u8 1, .int .u8 1, .int .u8 p, .int .u8 q, .int .u8 t]] ⟨[], []⟩ _
    refine WF.fnE rfl (fn_of Tryd.func52 cir52) (by show 1 ≤ 86; decide) ?_
    unfold ir52; dsimp only [k0, kI, mV, oO, oG]
    simp only [padTo, List.replicate, List.nil_append, List.append_nil, List.cons_append]
    repeat' (first | (refine WO.yes rfl ?_) | (refine WO.opE (by intro; simp (disch := omega) only [go_sem, zeros, List.length_append, ov_one0, ov_one1, ov_one2, ov_one3, ov_all2, ov_all3, ov_all4, ov_all5, ov_all6, over7, cut7, cut4b, cut4c, fillP, Option.bind_eq_bind, Zz.look, Zz.over, Zz.cut, Nat.reduceAdd, Nat.reduceMul, Nat.reduceSub, Nat.reduceLeDiff, Nat.reduceEqDiff, Int.reduceNeg, Int.reduceAdd, Int.reduceToNat, reduceIte, reduceCtorEq, setBlk, Zz.slen, Zz.scells, copyAV, Zz.storeAt, indexAddrAV, idx]; rfl) (by simp only [pt8, pt0, pt1, pt2, pt3, pt4, pt5, pt6, pt7]; rfl) ?_) | (refine WO.opN (by intro; simp (disch := omega) only [go_sem, zeros, List.length_append, ov_one0, ov_one1, ov_one2, ov_one3, ov_all2, ov_all3, ov_all4, ov_all5, ov_all6, over7, cut7, cut4b, cut4c, fillP, Option.bind_eq_bind, Zz.look, Zz.over, Zz.cut, Nat.reduceAdd, Nat.reduceMul, Nat.reduceSub, Nat.reduceLeDiff, Nat.reduceEqDiff, Int.reduceNeg, Int.reduceAdd, Int.reduceToNat, reduceIte, reduceCtorEq, setBlk, Zz.slen, Zz.scells, copyAV, Zz.storeAt, indexAddrAV, idx]; rfl) ?_) | (refine WO.opE (by intro; exact ev_lenS (by simp only [go_sem]; first | rfl | assumption)) (by simp only [pt8, pt0, pt1, pt2, pt3, pt4, pt5, pt6, pt7]; rfl) ?_) | (refine WT.spec rfl rfl (fun V => s26 (r := ⟨1, 1, jn p q t, tk0⟩)) (by simp only [pt8, pt0, pt1, pt2, pt3, pt4, pt5, pt6, pt7]; rfl) ?_) | (refine WC.seq ?_) | (refine WC.region ?_) | (refine WO.nil ?_) | (simp only [fl1, fl2, fl3, fl4, fl5, fl6, fl7, fl8, fl9, fl10, Nat.reduceBEq]) | (refine WC.drawT ?_) | (refine WT.nil ?_) | (refine WT.free rfl (by intro; simp (disch := omega) only [go_sem, zeros, List.length_append, ov_one0, ov_one1, ov_one2, ov_one3, ov_all2, ov_all3, ov_all4, ov_all5, ov_all6, over7, cut7, cut4b, cut4c, fillP, Option.bind_eq_bind, Zz.look, Zz.over, Zz.cut, Nat.reduceAdd, Nat.reduceMul, Nat.reduceSub, Nat.reduceLeDiff, Nat.reduceEqDiff, Int.reduceNeg, Int.reduceAdd, Int.reduceToNat, reduceIte, reduceCtorEq, setBlk, Zz.slen, Zz.scells, copyAV, Zz.storeAt, indexAddrAV, idx]; rfl) rfl (by simp only [pt8, pt0, pt1, pt2, pt3, pt4, pt5, pt6, pt7]; rfl) ?_) | (refine WT.big rfl rfl (by intro; simp (disch := omega) only [go_sem, zeros, List.length_append, ov_one0, ov_one1, ov_one2, ov_one3, ov_all2, ov_all3, ov_all4, ov_all5, ov_all6, over7, cut7, cut4b, cut4c, fillP, Option.bind_eq_bind, Zz.look, Zz.over, Zz.cut, Nat.reduceAdd, Nat.reduceMul, Nat.reduceSub, Nat.reduceLeDiff, Nat.reduceEqDiff, Int.reduceNeg, Int.reduceAdd, Int.reduceToNat, reduceIte, reduceCtorEq, setBlk, Zz.slen, Zz.scells, copyAV, Zz.storeAt, indexAddrAV, idx]; rfl) (by simp (disch := omega) only [go_sem, zeros, List.length_append, ov_one0, ov_one1, ov_one2, ov_one3, ov_all2, ov_all3, ov_all4, ov_all5, ov_all6, over7, cut7, cut4b, cut4c, fillP, Option.bind_eq_bind, Zz.look, Zz.over, Zz.cut, Nat.reduceAdd, Nat.reduceMul, Nat.reduceSub, Nat.reduceLeDiff, Nat.reduceEqDiff, Int.reduceNeg, Int.reduceAdd, Int.reduceToNat, reduceIte, reduceCtorEq, setBlk, Zz.slen, Zz.scells, copyAV, Zz.storeAt, indexAddrAV, idx, touch]; rfl) (by first | exact .inl rfl | exact .inr (apart_nil _) | exact .inr trivial | (right; apply apart_mk; simp only [apartL, List.nil_append, List.cons_append, List.getElem?_cons_succ, List.getElem?_cons_zero, Tch.free, and_true, true_and]; first | done | omega)) (by simp only [pt8, pt0, pt1, pt2, pt3, pt4, pt5, pt6, pt7]; rfl) ?_) | (refine WT.bigN rfl rfl (by intro; simp (disch := omega) only [go_sem, zeros, List.length_append, ov_one0, ov_one1, ov_one2, ov_one3, ov_all2, ov_all3, ov_all4, ov_all5, ov_all6, over7, cut7, cut4b, cut4c, fillP, Option.bind_eq_bind, Zz.look, Zz.over, Zz.cut, Nat.reduceAdd, Nat.reduceMul, Nat.reduceSub, Nat.reduceLeDiff, Nat.reduceEqDiff, Int.reduceNeg, Int.reduceAdd, Int.reduceToNat, reduceIte, reduceCtorEq, setBlk, Zz.slen, Zz.scells, copyAV, Zz.storeAt, indexAddrAV, idx]; rfl) (by simp (disch := omega) only [go_sem, zeros, List.length_append, ov_one0, ov_one1, ov_one2, ov_one3, ov_all2, ov_all3, ov_all4, ov_all5, ov_all6, over7, cut7, cut4b, cut4c, fillP, Option.bind_eq_bind, Zz.look, Zz.over, Zz.cut, Nat.reduceAdd, Nat.reduceMul, Nat.reduceSub, Nat.reduceLeDiff, Nat.reduceEqDiff, Int.reduceNeg, Int.reduceAdd, Int.reduceToNat, reduceIte, reduceCtorEq, setBlk, Zz.slen, Zz.scells, copyAV, Zz.storeAt, indexAddrAV, idx, touch]; rfl) (by first | exact .inl rfl | exact .inr (apart_nil _) | exact .inr trivial | (right; apply apart_mk; simp only [apartL, List.nil_append, List.cons_append, List.getElem?_cons_succ, List.getElem?_cons_zero, Tch.free, and_true, true_and]; first | done | omega)) ?_) | (refine WC.yes rfl ?_) | (refine WC.no rfl ?_) | (refine WC.skip ?_) | (refine WC.ret ?_) | (refine WC.block ?_))
    refine ⟨[.agg [.int .i64 1, .int .i64 1, .int .i64 (jn p q t), .int .i64 0, .int .i64 0, .int .i64 0, .int .i64 0], .bool (decide (RcOk ⟨1, 1, jn p q t, tk0⟩))], rfl, ?_⟩
    rw [hv] at hdo
    rw [hjn, hdo, hv]
    rfl
  · subst hk
    obtain ⟨hbl, hv, hvs⟩ : BlOk b ∧ TkOk v ∧ v.s = 1 := by
      obtain ⟨_, _, h | h | h⟩ := hok
      · exact absurd h.1 (by simp)
      · exact ⟨h.2.1, h.2.2.1, h.2.2.2⟩
      · exact absurd h.1 (by simp)
    obtain ⟨vs, vc, vn, vd⟩ := v
    simp only at hvs
    subst hvs
    obtain ⟨_, _, c1, c2, d1, d2, hn⟩ := hv
    simp only at c1 c2 d1 d2 hn
    have n1 : -1 ≤ vn ∧ vn ≤ 1 := by omega
    clear hn
    obtain ⟨n1, n2⟩ := n1
    have u8_id : ∀ m : Int, 0 ≤ m → m < 256 → u8 m = m := fun m h1 h2 => by
      unfold u8 IntKind.wrap
      simp [IntKind.signed, IntKind.bits]
      omega
    have hb : bodyB ⟨2, 1, b, ⟨1, vc, vn, vd⟩⟩ = [2, 1, u8 (b.fdiv 65536), u8 (b.fdiv 256), u8 b, vc, vn + 1, vd] := by
      have : bodyB ⟨2, 1, b, ⟨1, vc, vn, vd⟩⟩ = [2, 1, u8 (b.fdiv 65536), u8 (b.fdiv 256), u8 b, u8 vc, u8 (vn + 1), u8 vd] := rfl
      rw [this, u8_id vc c1 (by omega), u8_id (vn + 1) (by omega) (by omega), u8_id vd d1 (by omega)]
    rw [hb] at hx
    have hjn := jn_eq hbl
    obtain ⟨p1, p2⟩ := u8_bd (b.fdiv 65536)
    obtain ⟨q1, q2⟩ := u8_bd (b.fdiv 256)
    obtain ⟨t1, t2⟩ := u8_bd b
    generalize u8 (b.fdiv 65536) = p at *
    generalize u8 (b.fdiv 256) = q at *
    generalize u8 b = t at *
    obtain ⟨_, h⟩ | ⟨full, rfl⟩ := hx
    · cases h
    show WF E15 (.func 52 [] []) [.sval full 8 [.int .u8 2, .int .u8 1, .int .u8 p, .int .u8 q, .int .u8 t, .int .u8 vc, .int .u8 (vn + 1), .int .u8 vd]] ⟨[], []⟩ _
    have hsub : (vn + 1) - 1 = vn := by omega
    refine WF.fnE rfl (fn_of Tryd.func52 cir52) (by show 1 ≤ 86; decide) ?_
    unfold ir52; dsimp only [k0, kI, mV, oO, oG]
    simp only [padTo, List.replicate, List.nil_append, List.append_nil, List.cons_append]
    repeat' (first | (refine WO.yes rfl ?_) | (refine WO.noE rfl (by simp only [pt8, pt0, pt1, pt2, pt3, pt4, pt5, pt6, pt7]; rfl) ?_) | (refine WO.opE (by intro; simp (disch := omega) only [go_sem, zeros, List.length_append, ov_one0, ov_one1, ov_one2, ov_one3, ov_all2, ov_all3, ov_all4, ov_all5, ov_all6, over7, cut7, cut4b, cut4c, fillP, Option.bind_eq_bind, Zz.look, Zz.over, Zz.cut, Nat.reduceAdd, Nat.reduceMul, Nat.reduceSub, Nat.reduceLeDiff, Nat.reduceEqDiff, Int.reduceNeg, Int.reduceAdd, Int.reduceToNat, reduceIte, reduceCtorEq, setBlk, Zz.slen, Zz.scells, copyAV, Zz.storeAt, indexAddrAV, idx, hsub]; rfl) (by simp only [pt8, pt0, pt1, pt2, pt3, pt4, pt5, pt6, pt7]; rfl) ?_) | (refine WO.opN (by intro; simp (disch := omega) only [go_sem, zeros, List.length_append, ov_one0, ov_one1, ov_one2, ov_one3, ov_all2, ov_all3, ov_all4, ov_all5, ov_all6, over7, cut7, cut4b, cut4c, fillP, Option.bind_eq_bind, Zz.look, Zz.over, Zz.cut, Nat.reduceAdd, Nat.reduceMul, Nat.reduceSub, Nat.reduceLeDiff, Nat.reduceEqDiff, Int.reduceNeg, Int.reduceAdd, Int.reduceToNat, reduceIte, reduceCtorEq, setBlk, Zz.slen, Zz.scells, copyAV, Zz.storeAt, indexAddrAV, idx, hsub]; rfl) ?_) | (refine WO.opE (by intro; exact ev_lenS (by simp only [go_sem]; first | rfl | assumption)) (by simp only [pt8, pt0, pt1, pt2, pt3, pt4, pt5, pt6, pt7]; rfl) ?_) | (refine WT.spec rfl rfl (fun V => s26 (r := ⟨2, 1, jn p q t, ⟨1, vc, vn, vd⟩⟩)) (by simp only [pt8, pt0, pt1, pt2, pt3, pt4, pt5, pt6, pt7]; rfl) ?_) | (refine WC.seq ?_) | (refine WC.region ?_) | (refine WO.nil ?_) | (simp only [fl1, fl2, fl3, fl4, fl5, fl6, fl7, fl8, fl9, fl10, Nat.reduceBEq]) | (refine WC.drawT ?_) | (refine WT.nil ?_) | (refine WT.free rfl (by intro; simp (disch := omega) only [go_sem, zeros, List.length_append, ov_one0, ov_one1, ov_one2, ov_one3, ov_all2, ov_all3, ov_all4, ov_all5, ov_all6, over7, cut7, cut4b, cut4c, fillP, Option.bind_eq_bind, Zz.look, Zz.over, Zz.cut, Nat.reduceAdd, Nat.reduceMul, Nat.reduceSub, Nat.reduceLeDiff, Nat.reduceEqDiff, Int.reduceNeg, Int.reduceAdd, Int.reduceToNat, reduceIte, reduceCtorEq, setBlk, Zz.slen, Zz.scells, copyAV, Zz.storeAt, indexAddrAV, idx, hsub]; rfl) rfl (by simp only [pt8, pt0, pt1, pt2, pt3, pt4, pt5, pt6, pt7]; rfl) ?_) | (refine WT.big rfl rfl (by intro; simp (disch := omega) only [go_sem, zeros, List.length_append, ov_one0, ov_one1, ov_one2, ov_one3, ov_all2, ov_all3, ov_all4, ov_all5, ov_all6, over7, cut7, cut4b, cut4c, fillP, Option.bind_eq_bind, Zz.look, Zz.over, Zz.cut, Nat.reduceAdd, Nat.reduceMul, Nat.reduceSub, Nat.reduceLeDiff, Nat.reduceEqDiff, Int.reduceNeg, Int.reduceAdd, Int.reduceToNat, reduceIte, reduceCtorEq, setBlk, Zz.slen, Zz.scells, copyAV, Zz.storeAt, indexAddrAV, idx, hsub]; rfl) (by simp (disch := omega) only [go_sem, zeros, List.length_append, ov_one0, ov_one1, ov_one2, ov_one3, ov_all2, ov_all3, ov_all4, ov_all5, ov_all6, over7, cut7, cut4b, cut4c, fillP, Option.bind_eq_bind, Zz.look, Zz.over, Zz.cut, Nat.reduceAdd, Nat.reduceMul, Nat.reduceSub, Nat.reduceLeDiff, Nat.reduceEqDiff, Int.reduceNeg, Int.reduceAdd, Int.reduceToNat, reduceIte, reduceCtorEq, setBlk, Zz.slen, Zz.scells, copyAV, Zz.storeAt, indexAddrAV, idx, hsub, touch]; rfl) (by first | exact .inl rfl | exact .inr (apart_nil _) | exact .inr trivial | (right; apply apart_mk; simp only [apartL, List.nil_append, List.cons_append, List.getElem?_cons_succ, List.getElem?_cons_zero, Tch.free, and_true, true_and]; first | done | omega)) (by simp only [pt8, pt0, pt1, pt2, pt3, pt4, pt5, pt6, pt7]; rfl) ?_) | (refine WT.bigN rfl rfl (by intro; simp (disch := omega) only [go_sem, zeros, List.length_append, ov_one0, ov_one1, ov_one2, ov_one3, ov_all2, ov_all3, ov_all4, ov_all5, ov_all6, over7, cut7, cut4b, cut4c, fillP, Option.bind_eq_bind, Zz.look, Zz.over, Zz.cut, Nat.reduceAdd, Nat.reduceMul, Nat.reduceSub, Nat.reduceLeDiff, Nat.reduceEqDiff, Int.reduceNeg, Int.reduceAdd, Int.reduceToNat, reduceIte, reduceCtorEq, setBlk, Zz.slen, Zz.scells, copyAV, Zz.storeAt, indexAddrAV, idx, hsub]; rfl) (by simp (disch := omega) only [go_sem, zeros, List.length_append, ov_one0, ov_one1, ov_one2, ov_one3, ov_all2, ov_all3, ov_all4, ov_all5, ov_all6, over7, cut7, cut4b, cut4c, fillP, Option.bind_eq_bind, Zz.look, Zz.over, Zz.cut, Nat.reduceAdd, Nat.reduceMul, Nat.reduceSub, Nat.reduceLeDiff, Nat.reduceEqDiff, Int.reduceNeg, Int.reduceAdd, Int.reduceToNat, reduceIte, reduceCtorEq, setBlk, Zz.slen, Zz.scells, copyAV, Zz.storeAt, indexAddrAV, idx, hsub, touch]; rfl) (by first | exact .inl rfl | exact .inr (apart_nil _) | exact .inr trivial | (right; apply apart_mk; simp only [apartL, List.nil_append, List.cons_append, List.getElem?_cons_succ, List.getElem?_cons_zero, Tch.free, and_true, true_and]; first | done | omega)) ?_) | (refine WC.yes rfl ?_) | (refine WC.no rfl ?_) | (refine WC.ret ?_) | (refine WC.block ?_))
    refine ⟨[.agg [.int .i64 2, .int .i64 1, .int .i64 (jn p q t), .int .i64 1, .int .i64 vc, .int .i64 vn, .int .i64 vd], .bool (decide (RcOk ⟨2, 1, jn p q t, ⟨1, vc, vn, vd⟩⟩))], rfl, ?_⟩
    rw [hjn, hdo]
    rfl
theorem s52 {x : AV} {r : Rc} (hr : R1 r) (hx : ByS x (bodyB r)) {m : Mem} : borrowE E15 52 [x] m = some (.tuple [.agg [.int .i64 r.k, .int .i64 r.s, .int .i64 r.b, .int .i64 r.v.s, .int .i64 r.v.c, .int .i64 r.v.n, .int .i64 r.v.d], .bool true], m) :=
  borrowE_of (by simp [hx.pureA]) (f52 hr hx)
noncomputable def E16 : Env := E15.put 52 (borrowE E15 52)
theorem E16_ok : EnvOk Tryd.prog E16 := Env.put_ok E15_ok (borrowE_ok E15_ok (callable Tryd.func52 (by kernel_rfl)))
end Go.Proofs.YtgchabldcnmccaaDoor

