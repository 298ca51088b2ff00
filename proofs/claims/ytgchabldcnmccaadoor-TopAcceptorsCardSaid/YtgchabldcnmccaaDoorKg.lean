import Derived.Test.YtgchabldcnmccaaDoorKf
set_option linter.unusedSimpArgs false
set_option linter.unusedVariables false

namespace Go.Proofs.YtgchabldcnmccaaDoor
open Go.Zz
set_option maxRecDepth 100000
set_option maxHeartbeats 8000000
theorem acF_cut : ∀ {l : List Ac} {i : Nat}, i < l.length → Zz.cut (acF l) (i * 6) 6 = some ((l.getD i ac0).cells)
  | [], _, h => by simp at h
  | a :: r, 0, _ => by simp [acF, Ac.cells, Tk.cells, Zz.cut]
  | a :: r, i + 1, h => by
    have := acF_cut (l := r) (i := i) (by simpa using h)
    unfold Zz.cut at this ⊢
    split at this
    · rename_i hle
      have e : acF (a :: r) = a.cells ++ acF r := rfl
      have ea : a.cells.length = 6 := rfl
      rw [if_pos (by rw [e, List.length_append, ea]; omega), e, show (i + 1) * 6 = a.cells.length + i * 6 by rw [ea]; omega, List.drop_append, List.drop_eq_nil_of_le (by omega), List.nil_append]
      simpa using this
    · cases this
theorem acF_over : ∀ {l : List Ac} {i : Nat} (a : Ac), i < l.length → Zz.over (acF l) (i * 6) a.cells = some (acF (l.set i a))
  | [], _, _, h => by simp at h
  | x :: r, 0, a, _ => by simp [acF, Ac.cells, Tk.cells, Zz.over]
  | x :: r, i + 1, a, h => by
    have := acF_over (l := r) (i := i) a (by simpa using h)
    unfold Zz.over at this ⊢
    split at this
    · rename_i hle
      have e : acF (x :: r) = x.cells ++ acF r := rfl
      have ea : x.cells.length = 6 := rfl
      have e2 : acF ((x :: r).set (i + 1) a) = x.cells ++ acF (r.set i a) := rfl
      rw [if_pos (by rw [e, List.length_append, ea]; omega), e2, e, show (i + 1) * 6 = x.cells.length + i * 6 by rw [ea]; omega, List.take_length_add_append, show x.cells.length + i * 6 + a.cells.length = x.cells.length + (i * 6 + a.cells.length) by omega, List.drop_length_add_append]
      simp only [Option.some.injEq] at this ⊢
      rw [← this]
      simp
    · cases this
theorem inB_lt {H : Hp} {z : AV} {k len : Nat} {l : List AV} (h : SlH H z k l len) {j : Nat} (hj : inB z j) : j < H.length := by
  obtain ⟨_, ⟨rfl, _⟩ | ⟨_, id, g, rfl, h3⟩⟩ := h
  · exact hj.elim
  · have : id = j := hj
    subst this
    exact look_lt h3
theorem RunAt.more {H H' : Hp} {L : List (Option ALoop)} {rb tb mb n ab : Nat} {s : RS} {zp zs zv : AV} (h : RunAt H L rb tb mb n s ab zp zs zv) (hk : ∀ j, j < H.length → H'[j]? = H[j]?) : RunAt H' L rb tb mb n s ab zp zs zv :=
  { h with
    r := by rw [look_of_get (hk _ (look_lt h.r))]; exact h.r
    a := by rw [look_of_get (hk _ (look_lt h.a))]; exact h.a
    z := by rw [look_of_get (hk _ (look_lt h.z))]; exact h.z
    p := h.p.keep fun j hj => hk j (inB_lt h.p hj)
    t := h.t.keep fun j hj => hk j (inB_lt h.t hj)
    v := h.v.keep fun j hj => hk j (inB_lt h.v hj) }
theorem RunAt.setA {H : Hp} {L : List (Option ALoop)} {rb tb mb n ab : Nat} {s : RS} {zp zs zv : AV} (h : RunAt H L rb tb mb n s ab zp zs zv) {a : List Ac} (ha : a.length = n) : RunAt (H.set ab (some ⟨0, acF a⟩)) L rb tb mb n { s with acs := a } ab zp zs zv := by
  have hk : ∀ j, ab ≠ j → (H.set ab (some ⟨0, acF a⟩))[j]? = H[j]? := fun j hj => List.getElem?_set_ne hj
  obtain ⟨d1, d2, d3, d4⟩ := h.d
  exact { r := by rw [look_of_get (hk _ (Ne.symm d1))]; exact h.r
          a := look_set (look_lt h.a)
          n := ha
          z := by rw [look_of_get (hk _ d3)]; exact h.z
          p := h.p.keep fun j hj => hk j (Ne.symm (h.dp j hj).2.1)
          t := h.t.keep fun j hj => hk j (Ne.symm (h.dt j hj).2.1)
          v := h.v.keep fun j hj => hk j (Ne.symm (h.dv j hj).2.1)
          m := h.m, k := h.k, d := h.d, dp := h.dp, dt := h.dt, dv := h.dv }
theorem RunAt.setP {H H3 : Hp} {L : List (Option ALoop)} {rb tb mb n ab N : Nat} {s : RS} {zp zs zv z' : AV} {x : Pm} (h : RunAt H L rb tb mb n s ab zp zs zv) (hN : H.length ≤ N) (hk : ∀ j, j < H.length → ¬ inB zp j → H3[j]? = H[j]?)
    (hp : SlH H3 z' 7 (pmF s.pms ++ x.cells) (s.pms.length + 1)) (hz : ∀ j, inB z' j → inB zp j ∨ j = N) :
    RunAt (setBlk H3 rb 0 [.sref ab 0 0 6 n (some n), z', zs, zv, .int .i64 n, .mref mb]) L rb tb mb n { s with pms := s.pms ++ [x] } ab z' zs zv := by
  obtain ⟨d1, d2, d3, d4⟩ := h.d
  have l1 := look_lt h.r
  have l2 := look_lt h.a
  have l3 := look_lt h.z
  have np : ∀ j, inB zp j → j < H.length := fun j hj => inB_lt h.p hj
  have n1 : ¬ inB zp rb := fun hj => (h.dp _ hj).1 rfl
  have n2 : ¬ inB zp ab := fun hj => (h.dp _ hj).2.1 rfl
  have n3 : ¬ inB zp 0 := fun hj => (h.dp _ hj).2.2.1 rfl
  have hs : ∀ j, rb ≠ j → (setBlk H3 rb 0 [.sref ab 0 0 6 n (some n), z', zs, zv, .int .i64 n, .mref mb])[j]? = H3[j]? := fun j hj => List.getElem?_set_ne hj
  have hl : rb < H3.length := by
    have := hk rb l1 n1
    rw [List.getElem?_eq_getElem l1] at this
    exact (List.getElem?_eq_some_iff.1 this).1
  exact { r := look_set hl
          a := by rw [look_of_get ((hs _ d1).trans (hk _ l2 n2))]; exact h.a
          n := h.n
          z := by rw [look_of_get ((hs _ d2).trans (hk _ l3 n3))]; exact h.z
          p := by
            have := hp.keep fun j hj => hs j fun e => by
              rcases hz j hj with g | g
              · exact n1 (e ▸ g)
              · omega
            simpa [pmF] using this
          t := h.t.keep fun j hj => (hs j (Ne.symm (h.dt j hj).1)).trans (hk j (inB_lt h.t hj) fun g => (h.dp j g).2.2.2.1 hj)
          v := h.v.keep fun j hj => (hs j (Ne.symm (h.dv j hj).1)).trans (hk j (inB_lt h.v hj) fun g => (h.dp j g).2.2.2.2 hj)
          m := h.m, k := h.k, d := h.d
          dp := fun j hj => by
            rcases hz j hj with g | g
            · exact h.dp j g
            · refine ⟨by omega, by omega, by omega, fun q => ?_, fun q => ?_⟩
              · have := inB_lt h.t q; omega
              · have := inB_lt h.v q; omega
          dt := h.dt, dv := h.dv }
theorem SlH.cells {H : Hp} {z : AV} {k len : Nat} {l : List AV} (h : SlH H z k l len) : z.cells = some [z] := by
  obtain ⟨_, ⟨rfl, _⟩ | ⟨_, id, g, rfl, h3⟩⟩ := h <;> rfl
theorem WT.appendSl {Γ : Env} {rd : List DOper} {tch : List Tch} {T : List AV} {H : Hp} {L : List (Option ALoop)} {Q : St → Prop} {d k bytes q len : Nat} {sx x : Opd} {z : AV} {l c : List AV} {cap : Option Nat} (hs : sx.ev T = z) (hx : x.ev T = .sref q 0 0 k 1 cap)
    (h : SlH H z k l len) (hk : 0 < k) (hq : Zz.look H q 0 = some c) (hc : c.length = k) (hb : (len + 1) * bytes ≤ 140737488355328 ∧ len + 1 ≤ 140737488355328)
    (K : ∀ z' H', SlH H' z' k (l ++ c) (len + 1) → (∀ j, ¬ inB z j → j < H.length → H'[j]? = H[j]?) → (∀ j, inB z' j → inB z j ∨ j = H.length) → WT Γ rd ⟨pt T d z', H', L⟩ (tch ++ [.all]) Q) :
    WT Γ (⟨⟨none, some d, .append k bytes sx x⟩, []⟩ :: rd) ⟨T, H, L⟩ tch Q := by
  obtain ⟨z', H', e1, e2, e3, e4, e5⟩ := SlH.push (L := L) (bytes := bytes) (cap := cap) h hk hq hc hb
  refine WT.whole rfl rfl (fun call => ?_) e5 rfl (K z' H' e2 e3 e4)
  simp only [ev_append, hs, hx, e1]
theorem f21 {H : Hp} {L : List (Option ALoop)} {rb tb mb n ab : Nat} {s : RS} {zp zs zv : AV} {m : Mv} (h : RunAt H L rb tb mb n s ab zp zs zv) (hk : m.k = 1) (hm : MvOk n m) (hn : n ≤ 8) (hl : s.pms.length ≤ 1000) :
    WF E11 (.func 21 [] []) [.pref rb 0 0, .agg [.int .i64 m.k, .int .i64 m.b, .int .i64 m.t, .int .i64 m.v.s, .int .i64 m.v.c, .int .i64 m.v.n, .int .i64 m.v.d]] ⟨H, L⟩ fun y m' => ∃ ab zp zs zv, RunAt m'.heap m'.loops rb tb mb n (stepM n s m) ab zp zs zv := by
  have hr := h.r
  have hrl := look_lt hr
  have hr2 : ∀ R, Zz.look (H ++ R) rb 0 = some [.sref ab 0 0 6 n (some n), zp, zs, zv, .int .i64 n, .mref mb] := fun R => by rw [look_left hrl]; exact hr
  have ha2 : ∀ R, Zz.look (H ++ R) ab 0 = some (acF s.acs) := fun R => by rw [look_left (look_lt h.a)]; exact h.a
  have hal := look_lt h.a
  have hdd := h.d
  have hnn := h.n
  obtain ⟨hbo, hdk | hdk | hdk⟩ := hm <;> first | (exfalso; omega) | skip
  obtain ⟨_, ht1, ht2⟩ := hdk
  have hca : Zz.cut (acF s.acs) (m.t.toNat * 6) 6 = some (acAt s m.t).cells := acF_cut (by omega)
  generalize hac : acAt s m.t = ac at *
  have hca2 : Zz.cut (acF s.acs) (m.t.toNat * 6) 6 = some [.int .i64 ac.p, .int .i64 ac.w, .int .i64 ac.v.s, .int .i64 ac.v.c, .int .i64 ac.v.n, .int .i64 ac.v.d] := hca
  refine WF.fnE rfl (fn_of Tryd.func21 cir21) (by show 2 ≤ 48; decide) ?_
  unfold ir21; dsimp only [k0, kI, mV, oO, oG]
  simp only [padTo, List.replicate, List.nil_append, List.append_nil, List.cons_append]
  repeat' (first | (refine WO.opE (by intro; simp (disch := omega) only [go_sem, zeros, List.length_append, ov_one0, ov_one1, ov_one2, ov_one3, ov_all2, ov_all3, ov_all4, ov_all5, ov_all6, over7, cut7, cut4b, cut4c, fillP, Option.bind_eq_bind, Nat.reduceAdd, Nat.reduceMul, Nat.reduceSub, Nat.reduceLeDiff, Nat.reduceEqDiff, Int.reduceNeg, Int.reduceAdd, Int.reduceToNat, reduceIte, reduceCtorEq, List.append_assoc, hr2, ha2, hca2, idx_toNat, lk0, lk1, lk2, st0, st1, st2, ia_sref, setBlk]; rfl) (by simp only [pt8, pt0, pt1, pt2, pt3, pt4, pt5, pt6, pt7]; rfl) ?_) | (refine WT.spec rfl rfl (fun V => s34) (by simp only [pt8, pt0, pt1, pt2, pt3, pt4, pt5, pt6, pt7]; rfl) ?_) | (refine WC.seq ?_) | (refine WC.region ?_) | (refine WO.nil ?_) | (simp only [fl1, fl2, fl3, fl4, fl5, fl6, fl7, fl8, fl9, fl10, Nat.reduceBEq]) | (refine WC.calm rfl ?_) | (refine WC.drawT ?_) | (refine WT.nil ?_) | (refine WT.free rfl (by intro; simp (disch := omega) only [go_sem, zeros, List.length_append, ov_one0, ov_one1, ov_one2, ov_one3, ov_all2, ov_all3, ov_all4, ov_all5, ov_all6, over7, cut7, cut4b, cut4c, fillP, Option.bind_eq_bind, Nat.reduceAdd, Nat.reduceMul, Nat.reduceSub, Nat.reduceLeDiff, Nat.reduceEqDiff, Int.reduceNeg, Int.reduceAdd, Int.reduceToNat, reduceIte, reduceCtorEq, List.append_assoc, hr2, ha2, hca2, idx_toNat, lk0, lk1, lk2, st0, st1, st2, ia_sref, setBlk]; rfl) rfl (by simp only [pt8, pt0, pt1, pt2, pt3, pt4, pt5, pt6, pt7]; rfl) ?_) | (refine WT.big rfl rfl (by intro; simp (disch := omega) only [go_sem, zeros, List.length_append, ov_one0, ov_one1, ov_one2, ov_one3, ov_all2, ov_all3, ov_all4, ov_all5, ov_all6, over7, cut7, cut4b, cut4c, fillP, Option.bind_eq_bind, Nat.reduceAdd, Nat.reduceMul, Nat.reduceSub, Nat.reduceLeDiff, Nat.reduceEqDiff, Int.reduceNeg, Int.reduceAdd, Int.reduceToNat, reduceIte, reduceCtorEq, List.append_assoc, hr2, ha2, hca2, idx_toNat, lk0, lk1, lk2, st0, st1, st2, ia_sref, setBlk]; rfl) (by simp (disch := omega) only [go_sem, zeros, List.length_append, ov_one0, ov_one1, ov_one2, ov_one3, ov_all2, ov_all3, ov_all4, ov_all5, ov_all6, over7, cut7, cut4b, cut4c, fillP, Option.bind_eq_bind, Nat.reduceAdd, Nat.reduceMul, Nat.reduceSub, Nat.reduceLeDiff, Nat.reduceEqDiff, Int.reduceNeg, Int.reduceAdd, Int.reduceToNat, reduceIte, reduceCtorEq, List.append_assoc, hr2, ha2, hca2, idx_toNat, lk0, lk1, lk2, st0, st1, st2, ia_sref, setBlk, touch]; rfl) (by first | exact .inl rfl | exact .inr (apart_nil _) | exact .inr trivial | (right; apply apart_mk; simp only [apartL, List.nil_append, List.cons_append, List.getElem?_cons_succ, List.getElem?_cons_zero, Tch.free, and_true, true_and]; first | done | omega)) (by simp only [pt8, pt0, pt1, pt2, pt3, pt4, pt5, pt6, pt7]; rfl) ?_) | (refine WT.bigN rfl rfl (by intro; simp (disch := omega) only [go_sem, zeros, List.length_append, ov_one0, ov_one1, ov_one2, ov_one3, ov_all2, ov_all3, ov_all4, ov_all5, ov_all6, over7, cut7, cut4b, cut4c, fillP, Option.bind_eq_bind, Nat.reduceAdd, Nat.reduceMul, Nat.reduceSub, Nat.reduceLeDiff, Nat.reduceEqDiff, Int.reduceNeg, Int.reduceAdd, Int.reduceToNat, reduceIte, reduceCtorEq, List.append_assoc, hr2, ha2, hca2, idx_toNat, lk0, lk1, lk2, st0, st1, st2, ia_sref, setBlk]; rfl) (by simp (disch := omega) only [go_sem, zeros, List.length_append, ov_one0, ov_one1, ov_one2, ov_one3, ov_all2, ov_all3, ov_all4, ov_all5, ov_all6, over7, cut7, cut4b, cut4c, fillP, Option.bind_eq_bind, Nat.reduceAdd, Nat.reduceMul, Nat.reduceSub, Nat.reduceLeDiff, Nat.reduceEqDiff, Int.reduceNeg, Int.reduceAdd, Int.reduceToNat, reduceIte, reduceCtorEq, List.append_assoc, hr2, ha2, hca2, idx_toNat, lk0, lk1, lk2, st0, st1, st2, ia_sref, setBlk, touch]; rfl) (by first | exact .inl rfl | exact .inr (apart_nil _) | exact .inr trivial | (right; apply apart_mk; simp only [apartL, List.nil_append, List.cons_append, List.getElem?_cons_succ, List.getElem?_cons_zero, Tch.free, and_true, true_and]; first | done | omega)) ?_) | (refine WC.skip ?_) | (refine WC.em2 rfl (fun hp => ?_) (fun hp => ?_) <;> try (exfalso; first | omega | contradiction)))
  · have hov : Zz.over (acF s.acs) (m.t.toNat * 6) [.int .i64 (prep ac m.t m.b).1.p, .int .i64 (prep ac m.t m.b).1.w, .int .i64 (prep ac m.t m.b).1.v.s, .int .i64 (prep ac m.t m.b).1.v.c, .int .i64 (prep ac m.t m.b).1.v.n, .int .i64 (prep ac m.t m.b).1.v.d] = some (acF (s.acs.set m.t.toNat (prep ac m.t m.b).1)) := acF_over _ (by omega)
    refine WO.opN (by intro; simp (disch := omega) only [go_sem, ha2, hov, set_left, setBlk]; rfl) ?_
    have h2 := h.setA (a := s.acs.set m.t.toNat (prep ac m.t m.b).1) (by simpa using h.n)
    have hl2 : (H.set ab (some ⟨0, acF (s.acs.set m.t.toNat (prep ac m.t m.b).1)⟩)).length = H.length := by simp
    generalize hH2 : H.set ab (some ⟨0, acF (s.acs.set m.t.toNat (prep ac m.t m.b).1)⟩) = H2 at *
    have hr3 : ∀ R, Zz.look (H2 ++ R) rb 0 = some [.sref ab 0 0 6 n (some n), zp, zs, zv, .int .i64 n, .mref mb] := fun R => by rw [look_left (by omega)]; exact h2.r
    repeat' (first | (refine WO.nil ?_) | (refine WC.drawT ?_) | (refine WT.free rfl (by intro; simp (disch := omega) only [go_sem, zeros, List.length_append, ov_one0, ov_one1, ov_one2, ov_one3, ov_all2, ov_all3, ov_all4, ov_all5, ov_all6, over7, cut7, cut4b, cut4c, fillP, Option.bind_eq_bind, Nat.reduceAdd, Nat.reduceMul, Nat.reduceSub, Nat.reduceLeDiff, Nat.reduceEqDiff, Int.reduceNeg, Int.reduceAdd, Int.reduceToNat, reduceIte, reduceCtorEq, List.append_assoc, hr3, lk0, lk1, lk2, st0, st1, st2, setBlk]; rfl) rfl (by simp only [pt8, pt0, pt1, pt2, pt3, pt4, pt5, pt6, pt7]; rfl) ?_) | (refine WT.big rfl rfl (by intro; simp (disch := omega) only [go_sem, zeros, List.length_append, ov_one0, ov_one1, ov_one2, ov_one3, ov_all2, ov_all3, ov_all4, ov_all5, ov_all6, over7, cut7, cut4b, cut4c, fillP, Option.bind_eq_bind, Nat.reduceAdd, Nat.reduceMul, Nat.reduceSub, Nat.reduceLeDiff, Nat.reduceEqDiff, Int.reduceNeg, Int.reduceAdd, Int.reduceToNat, reduceIte, reduceCtorEq, List.append_assoc, hr3, lk0, lk1, lk2, st0, st1, st2, setBlk]; rfl) (by simp (disch := omega) only [go_sem, zeros, List.length_append, ov_one0, ov_one1, ov_one2, ov_one3, ov_all2, ov_all3, ov_all4, ov_all5, ov_all6, over7, cut7, cut4b, cut4c, fillP, Option.bind_eq_bind, Nat.reduceAdd, Nat.reduceMul, Nat.reduceSub, Nat.reduceLeDiff, Nat.reduceEqDiff, Int.reduceNeg, Int.reduceAdd, Int.reduceToNat, reduceIte, reduceCtorEq, List.append_assoc, hr3, lk0, lk1, lk2, st0, st1, st2, setBlk, touch]; rfl) (by first | exact .inl rfl | exact .inr (apart_nil _) | exact .inr trivial | (right; apply apart_mk; simp only [apartL, List.nil_append, List.cons_append, List.getElem?_cons_succ, List.getElem?_cons_zero, Tch.free, and_true, true_and]; first | done | omega)) (by simp only [pt8, pt0, pt1, pt2, pt3, pt4, pt5, pt6, pt7]; rfl) ?_))
    refine WT.appendSl (c := (prep ac m.t m.b).2.1.cells) (z := zp) rfl rfl (h2.p.keep fun j hj => List.getElem?_append_left (inB_lt h2.p hj)) (by decide) (lk3 rfl) rfl ⟨by show (s.pms.length + 1) * 56 ≤ _; omega, by show s.pms.length + 1 ≤ _; omega⟩ ?_
    intro z' H3 e2 e3 e4
    simp only [pt8, pt0, pt1, pt2, pt3, pt4, pt5, pt6, pt7]
    have hN : H2.length ≤ (H2.length + 4) := by omega
    have hk3 : ∀ j, j < H2.length → ¬ inB zp j → H3[j]? = H2[j]? := fun j hj hn => (e3 j hn (by simp; omega)).trans (List.getElem?_append_left hj)
    have hz3 : ∀ j, inB z' j → inB zp j ∨ j = H2.length + 4 := fun j hj => by simpa using e4 j hj
    have hfin := h2.setP (x := (prep ac m.t m.b).2.1) hN hk3 e2 hz3
    have hr4 : Zz.look H3 rb 0 = some [.sref ab 0 0 6 n (some n), zp, zs, zv, .int .i64 n, .mref mb] := by rw [look_of_get (hk3 _ (by omega) fun q => (h2.dp _ q).1 rfl)]; exact h2.r
    have hcz := e2.cells
    unfold AV.cells at hcz
    clear e2 e3 e4
    repeat' (first | (refine WT.nil ?_) | (refine WT.free rfl (by intro; simp (disch := omega) only [go_sem, zeros, List.length_append, ov_one0, ov_one1, ov_one2, ov_one3, ov_all2, ov_all3, ov_all4, ov_all5, ov_all6, over7, cut7, cut4b, cut4c, fillP, Option.bind_eq_bind, Nat.reduceAdd, Nat.reduceMul, Nat.reduceSub, Nat.reduceLeDiff, Nat.reduceEqDiff, Int.reduceNeg, Int.reduceAdd, Int.reduceToNat, reduceIte, reduceCtorEq, hcz, hr4, st0, ov_one1, setBlk]; rfl) rfl (by simp only [pt8, pt0, pt1, pt2, pt3, pt4, pt5, pt6, pt7]; rfl) ?_) | (refine WT.bigN rfl rfl (by intro; simp (disch := omega) only [go_sem, zeros, List.length_append, ov_one0, ov_one1, ov_one2, ov_one3, ov_all2, ov_all3, ov_all4, ov_all5, ov_all6, over7, cut7, cut4b, cut4c, fillP, Option.bind_eq_bind, Nat.reduceAdd, Nat.reduceMul, Nat.reduceSub, Nat.reduceLeDiff, Nat.reduceEqDiff, Int.reduceNeg, Int.reduceAdd, Int.reduceToNat, reduceIte, reduceCtorEq, hcz, hr4, st0, ov_one1, setBlk]; rfl) (by simp (disch := omega) only [go_sem, zeros, List.length_append, ov_one0, ov_one1, ov_one2, ov_one3, ov_all2, ov_all3, ov_all4, ov_all5, ov_all6, over7, cut7, cut4b, cut4c, fillP, Option.bind_eq_bind, Nat.reduceAdd, Nat.reduceMul, Nat.reduceSub, Nat.reduceLeDiff, Nat.reduceEqDiff, Int.reduceNeg, Int.reduceAdd, Int.reduceToNat, reduceIte, reduceCtorEq, hcz, hr4, st0, ov_one1, setBlk, touch]; rfl) (by first | exact .inl rfl | exact .inr (apart_nil _) | exact .inr trivial | (right; apply apart_mk; simp only [apartL, List.nil_append, List.cons_append, List.getElem?_cons_succ, List.getElem?_cons_zero, Tch.free, and_true, true_and]; first | done | omega)) ?_))
    refine ⟨_, rfl, ab, z', zs, zv, ?_⟩
    have hst : stepM n s m = { s with acs := s.acs.set m.t.toNat (prep ac m.t m.b).1, pms := s.pms ++ [(prep ac m.t m.b).2.1] } := by
      unfold stepM
      rw [if_pos hk]
      simp only [hac]
      rw [if_pos (by assumption)]
    rw [hst]
    exact hfin
  · refine ⟨_, rfl, ab, zp, zs, zv, ?_⟩
    have hst : stepM n s m = s := by
      unfold stepM
      rw [if_pos hk]
      simp only [hac]
      rw [if_neg (by assumption)]
    rw [hst]
    exact h.more fun j hj => List.getElem?_append_left hj
end Go.Proofs.YtgchabldcnmccaaDoor

