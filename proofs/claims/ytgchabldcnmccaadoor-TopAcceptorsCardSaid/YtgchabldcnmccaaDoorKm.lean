import Derived.Test.YtgchabldcnmccaaDoorKl
set_option linter.unusedSimpArgs false
set_option linter.unusedVariables false

namespace Go.Proofs.YtgchabldcnmccaaDoor
open Go.Zz
set_option maxRecDepth 100000
set_option maxHeartbeats 8000000
def Rc.cells (r : Rc) : List AV := [.int .i64 r.k, .int .i64 r.s, .int .i64 r.b, .int .i64 r.v.s, .int .i64 r.v.c, .int .i64 r.v.n, .int .i64 r.v.d]
def rcF (l : List Rc) : List AV := (l.map Rc.cells).flatten
theorem rcF_flat (l : List Rc) : (rcF l).all flatAV = true := by
  rw [List.all_eq_true]
  intro v hv
  obtain ⟨c, hc, hvc⟩ := List.mem_flatten.1 hv
  obtain ⟨p, _, rfl⟩ := List.mem_map.1 hc
  simp [Rc.cells] at hvc
  rcases hvc with rfl | rfl | rfl | rfl | rfl | rfl | rfl <;> rfl
def FR (rs : List Rc) : List Int := (rs.map frameB).flatten
def off (rs : List Rc) (i : Nat) : Nat := (FR (rs.take i)).length
def rnth (rs : List Rc) (i : Nat) : Rc := rs.getD i default
def nb (r : Rc) : Nat := (bodyB r).length
theorem nb_val {r : Rc} : nb r = 5 ∨ nb r = 8 := by
  unfold nb bodyB
  split
  · exact .inl rfl
  · exact .inr rfl
theorem body_ne {r : Rc} : bodyB r ≠ [] := by
  intro h
  have : nb r = 0 := by unfold nb; rw [h]; rfl
  rcases nb_val (r := r) with h | h <;> omega
theorem FR_app (a b : List Rc) : FR (a ++ b) = FR a ++ FR b := by simp [FR]
theorem FR_split {rs : List Rc} {i : Nat} (hi : i < rs.length) : FR rs = FR (rs.take i) ++ (frameB (rnth rs i) ++ FR (rs.drop (i + 1))) := by
  have e : rnth rs i = rs[i] := by simp [rnth, hi]
  have h : rs = rs.take i ++ rs[i] :: rs.drop (i + 1) := by rw [← List.drop_eq_getElem_cons hi, List.take_append_drop]
  have h2 : FR (rs[i] :: rs.drop (i + 1)) = frameB rs[i] ++ FR (rs.drop (i + 1)) := rfl
  calc FR rs = FR (rs.take i ++ rs[i] :: rs.drop (i + 1)) := by rw [← h]
    _ = _ := by rw [FR_app, h2, e]
theorem frame_len (r : Rc) : (frameB r).length = nb r + 5 := by simp [frameB, sealB, sealP, sumB, nb]
theorem off_succ {rs : List Rc} {i : Nat} (hi : i < rs.length) : off rs (i + 1) = off rs i + nb (rnth rs i) + 5 := by
  have e : rnth rs i = rs[i] := by simp [rnth, hi]
  unfold off
  rw [List.take_succ_eq_append_getElem hi, FR_app, List.length_append, ← e]
  have : FR [rnth rs i] = frameB (rnth rs i) := by simp [FR]
  rw [this, frame_len]
  omega
theorem off_le {rs : List Rc} {i : Nat} (hi : i < rs.length) : off rs (i + 1) ≤ (FR rs).length := by
  rw [off_succ hi, FR_split hi, List.length_append, List.length_append, frame_len]
  unfold off
  omega
theorem off_end (rs : List Rc) : off rs rs.length = (FR rs).length := by simp [off]
theorem FR_head {rs : List Rc} {i : Nat} (hi : i < rs.length) : bnth (FR rs) (off rs i) = nb (rnth rs i) := by
  have h : bnth (FR rs) (off rs i) = u8 (nb (rnth rs i) : Nat) := by
    unfold bnth off
    rw [FR_split hi, List.getD_eq_getElem?_getD, List.getElem?_append_right (Nat.le_refl _), Nat.sub_self]
    rfl
  rw [h]
  rcases nb_val (r := rnth rs i) with h | h <;> rw [h] <;> rfl
theorem FR_frame {rs : List Rc} {i : Nat} (hi : i < rs.length) : ((FR rs).drop (off rs i)).take (nb (rnth rs i) + 5) = frameB (rnth rs i) := by
  rw [FR_split hi]
  unfold off
  rw [List.drop_left, ← frame_len, List.take_left]
theorem FR_body {rs : List Rc} {i : Nat} (hi : i < rs.length) : ((FR rs).drop (off rs i + 1)).take (nb (rnth rs i)) = bodyB (rnth rs i) := by
  have h : ((FR rs).drop (off rs i + 1)) = ((FR rs).drop (off rs i)).drop 1 := by rw [List.drop_drop]
  have h2 : (FR rs).drop (off rs i) = frameB (rnth rs i) ++ FR (rs.drop (i + 1)) := by
    rw [FR_split hi]
    unfold off
    rw [List.drop_left]
  have h3 : frameB (rnth rs i) = u8 (nb (rnth rs i) : Nat) :: (bodyB (rnth rs i) ++ sumB (crc (sealP (bodyB (rnth rs i))))) := rfl
  rw [h, h2, h3, List.cons_append, List.drop_succ_cons, List.drop_zero, List.append_assoc]
  unfold nb
  rw [List.take_left]
theorem three {H : Hp} {a b c : Option Blk} (h0 : H[0]? = some a) (h1 : H[1]? = some b) (h2 : H[2]? = some c) : ∃ X, H = a :: b :: c :: X := by
  match H, h0, h1, h2 with
  | x :: y :: z :: X, h0, h1, h2 =>
    simp at h0 h1 h2
    exact ⟨X, by rw [h0, h1, h2]⟩
section
variable {a b c d e x y : Option Blk} {l : List AV} {g : Nat} {X Y Z : Hp}
theorem lc3X : Zz.look (a :: b :: c :: (X ++ some ⟨g, l⟩ :: Z)) (X.length + 1 + 1 + 1) g = some l := by simp [Zz.look]
theorem st3X : (a :: b :: c :: (X ++ x :: Z)).set (X.length + 1 + 1 + 1) y = a :: b :: c :: (X ++ y :: Z) := by simp
theorem lc3Y : Zz.look (a :: b :: c :: (X ++ d :: some ⟨g, l⟩ :: Z)) (X.length + 1 + 1 + 1 + 1) g = some l := by
  have : (a :: b :: c :: (X ++ d :: some ⟨g, l⟩ :: Z)) = (a :: b :: c :: (X ++ [d])) ++ some ⟨g, l⟩ :: Z := by simp
  rw [this]
  exact lk0 (by simp)
theorem lc3Z : Zz.look (a :: b :: c :: (X ++ d :: e :: some ⟨g, l⟩ :: Z)) (X.length + 1 + 1 + 1 + 1 + 1) g = some l := by
  have : (a :: b :: c :: (X ++ d :: e :: some ⟨g, l⟩ :: Z)) = (a :: b :: c :: (X ++ [d, e])) ++ some ⟨g, l⟩ :: Z := by simp
  rw [this]
  exact lk0 (by simp)
theorem st3Y : (a :: b :: c :: (X ++ d :: x :: Z)).set (X.length + 1 + 1 + 1 + 1) y = a :: b :: c :: (X ++ d :: y :: Z) := by
  have : ∀ w, (a :: b :: c :: (X ++ d :: w :: Z)) = (a :: b :: c :: (X ++ [d])) ++ w :: Z := fun w => by simp
  rw [this, this]
  exact st0 (by simp)
end
theorem f37 {H : Hp} {L : List (Option ALoop)} {x : AV} {bs : List Int} (hx : ByS x bs) : WF E22 (.func 37 [] []) [x] ⟨H, L⟩ fun y m' => y = .func 50 [] [.pref H.length 0 0] ∧ m' = ⟨H ++ [some ⟨0, [x]⟩], L⟩ := by
  have hcx := hx.cells
  unfold AV.cells at hcx
  refine WF.fnE rfl (fn_of Tryd.func37 cir37) (by show 1 ≤ 4; decide) ?_
  unfold ir37; dsimp only [k0, kI, mV, oO, oG]
  simp only [padTo, List.replicate, List.nil_append, List.append_nil, List.cons_append]
  repeat' (first | (refine WO.opE (by intro; simp (disch := omega) only [go_sem, zeros, List.length_append, ov_one0, ov_one1, ov_one2, ov_one3, ov_all2, ov_all3, ov_all4, ov_all5, ov_all6, over7, cut7, cut4b, cut4c, fillP, Option.bind_eq_bind, Nat.reduceAdd, Nat.reduceMul, Nat.reduceSub, Nat.reduceLeDiff, Nat.reduceEqDiff, Int.reduceNeg, Int.reduceAdd, Int.reduceToNat, reduceIte, reduceCtorEq, hcx]; rfl) (by simp only [pt8, pt0, pt1, pt2, pt3, pt4, pt5, pt6, pt7]; rfl) ?_) | (refine WC.seq ?_) | (refine WC.region ?_) | (refine WO.nil ?_) | (simp only [fl1, fl2, fl3, fl4, fl5, fl6, fl7, fl8, fl9, fl10, Nat.reduceBEq]) | (refine WC.ret ?_))
  exact ⟨_, rfl, rfl, rfl⟩
theorem WO.appendSl {Γ : Env} {r : List IOper} {T : List AV} {H : Hp} {L : List (Option ALoop)} {Q : St → Prop} {d k bytes q len : Nat} {sx x : Opd} {z : AV} {l c : List AV} {cap : Option Nat} (hs : sx.ev T = z) (hx : x.ev T = .sref q 0 0 k 1 cap)
    (h : SlH H z k l len) (hk : 0 < k) (hq : Zz.look H q 0 = some c) (hc : c.length = k) (hb : (len + 1) * bytes ≤ 140737488355328 ∧ len + 1 ≤ 140737488355328)
    (K : ∀ z' H', SlH H' z' k (l ++ c) (len + 1) → (∀ j, ¬ inB z j → j < H.length → H'[j]? = H[j]?) → (∀ j, inB z' j → inB z j ∨ j = H.length) → WO Γ r ⟨pt T d z', H', L⟩ Q) :
    WO Γ (⟨none, some d, .append k bytes sx x⟩ :: r) ⟨T, H, L⟩ Q := by
  obtain ⟨z', H', e1, e2, e3, e4, e5⟩ := SlH.push (L := L) (bytes := bytes) (cap := cap) h hk hq hc hb
  refine WO.opE (fun call => ?_) rfl (K z' H' e2 e3 e4)
  simp only [ev_append, hs, hx, e1]
theorem SlH.resA {H H' : Hp} {z : AV} {k len : Nat} {l : List AV} (h : SlH H z k l len) (hf : l.all flatAV = true) (hk : ∀ j, inB z j → H'[j]? = H[j]?) : Zz.resA H' z = some (slV l len) := by
  have h2 := h.res hf hk
  obtain ⟨_, ⟨rfl, _⟩ | ⟨_, id, g, rfl, _⟩⟩ := h <;> exact h2
theorem ByS.cutAt {x : AV} {bs : List Int} (h : ByS x bs) {a b : Nat} (h1 : a ≤ b) (h2 : b ≤ bs.length) : ∃ y, (∀ H, sliceAV H 1 x (some (.int .i64 (a : Int))) (some (.int .i64 (b : Int))) none = some y) ∧ ByS y ((bs.drop a).take (b - a)) := by
  obtain ⟨y, h3, h4⟩ := h.cut h1 h2 []
  refine ⟨y, fun H => ?_, h4⟩
  rcases h with ⟨rfl, rfl⟩ | ⟨full, rfl⟩ <;> exact h3
theorem f27 {x : AV} {rs : List Rc} (hx : DkN x (FR rs)) (hr : ∀ r ∈ rs, R1 r) (hlen : (FR rs).length ≤ 100000) (hn : rs.length ≤ 1000) : WF E22 (.func 27 [] []) [x] ⟨[], []⟩ fun y m' => resV m'.heap y = some (.tuple [slV (rcF rs) rs.length, .int .i64 ((FR rs).length : Nat)]) := by
  have hcx := hx.by.cells
  unfold AV.cells at hcx
  refine WF.fnE rfl (fn_of Tryd.func27 cir27) (by show 1 ≤ 19; decide) ?_
  unfold ir27; dsimp only [k0, kI, mV, oO, oG]
  simp only [padTo, List.replicate, List.nil_append, List.append_nil, List.cons_append]
  repeat' (first | (refine WO.opE (by intro; simp (disch := omega) only [go_sem, zeros, List.length_append, ov_one0, ov_one1, ov_one2, ov_one3, ov_all2, ov_all3, ov_all4, ov_all5, ov_all6, over7, cut7, cut4b, cut4c, fillP, Option.bind_eq_bind, Zz.look, Nat.reduceAdd, Nat.reduceMul, Nat.reduceSub, Nat.reduceLeDiff, Nat.reduceEqDiff, Int.reduceNeg, Int.reduceAdd, Int.reduceToNat, reduceIte, reduceCtorEq, hcx, setBlk, List.set_cons_succ, List.set_cons_zero]; rfl) (by simp only [pt8, pt0, pt1, pt2, pt3, pt4, pt5, pt6, pt7]; rfl) ?_) | (refine WO.opN (by intro; simp (disch := omega) only [go_sem, zeros, List.length_append, ov_one0, ov_one1, ov_one2, ov_one3, ov_all2, ov_all3, ov_all4, ov_all5, ov_all6, over7, cut7, cut4b, cut4c, fillP, Option.bind_eq_bind, Zz.look, Nat.reduceAdd, Nat.reduceMul, Nat.reduceSub, Nat.reduceLeDiff, Nat.reduceEqDiff, Int.reduceNeg, Int.reduceAdd, Int.reduceToNat, reduceIte, reduceCtorEq, hcx, setBlk, List.set_cons_succ, List.set_cons_zero]; rfl) ?_) | (refine WC.seq ?_) | (refine WC.region ?_) | (refine WO.nil ?_) | (simp only [fl1, fl2, fl3, fl4, fl5, fl6, fl7, fl8, fl9, fl10, Nat.reduceBEq]))
  refine WO.call rfl rfl ((f37 hx.by).mono ?_)
  rintro y _ ⟨rfl, rfl⟩
  simp only [pt8, pt0, pt1, pt2, pt3, pt4, pt5, pt6, pt7]
  repeat' (first | (refine WO.nil ?_) | (refine WC.block ?_))
  simp only [List.length_cons, List.length_nil, Nat.zero_add, Nat.reduceAdd]
  refine WC.rangeFuncN rfl ?_
  simp only [List.length_nil, List.nil_append]
  generalize hL : ([some ⟨true, none, _, _, _, _⟩] : List (Option ALoop)) = L
  have hL0 := (congrArg (fun l => l[0]?) hL).symm
  simp only [List.getElem?_cons_zero] at hL0
  refine WF.fnE rfl (fn_of Tryd.func50 cir50) (by show 2 ≤ 64; decide) ?_
  unfold ir50; dsimp only [k0, kI, mV, oO, oG]
  simp only [padTo, List.replicate, List.nil_append, List.append_nil, List.cons_append]
  repeat' (first | (refine WO.opE (by intro; simp (disch := omega) only [go_sem, zeros, List.length_append, ov_one0, ov_one1, ov_one2, ov_one3, ov_all2, ov_all3, ov_all4, ov_all5, ov_all6, over7, cut7, cut4b, cut4c, fillP, Option.bind_eq_bind, Zz.look, Nat.reduceAdd, Nat.reduceMul, Nat.reduceSub, Nat.reduceLeDiff, Nat.reduceEqDiff, Int.reduceNeg, Int.reduceAdd, Int.reduceToNat, reduceIte, reduceCtorEq]; rfl) (by simp only [pt8, pt0, pt1, pt2, pt3, pt4, pt5, pt6, pt7]; rfl) ?_) | (refine WC.seq ?_) | (refine WC.region ?_) | (refine WO.nil ?_) | (simp only [fl1, fl2, fl3, fl4, fl5, fl6, fl7, fl8, fl9, fl10, Nat.reduceBEq]) | (refine WC.block ?_))
  refine WC.loopI (fun m s => ∃ T i z X, s = ⟨T, some ⟨0, [z]⟩ :: some ⟨0, [.int .i64 (off rs i : Nat)]⟩ :: some ⟨0, [x]⟩ :: X, L⟩ ∧ T.length = 64 ∧ gt T 0 = .yield 0 ∧ gt T 1 = .pref 2 0 0 ∧ gt T 3 = .int .i64 (off rs i : Nat) ∧ SlH (some ⟨0, [z]⟩ :: some ⟨0, [.int .i64 (off rs i : Nat)]⟩ :: some ⟨0, [x]⟩ :: X) z 7 (rcF (rs.take i)) i ∧ (∀ j, inB z j → 3 ≤ j) ∧ m + i = rs.length) ?_ rs.length _ ⟨_, 0, .snil, [], rfl, rfl, rfl, rfl, rfl, ⟨rfl, .inl ⟨rfl, rfl⟩⟩, fun j hj => hj.elim, by omega⟩
  rintro m _ ⟨T, i, z, X, rfl, hT, g0, g1, g3, hsl, hz3, hml⟩
  obtain ⟨f, rfl⟩ := ex64 hT
  clear hT
  replace g0 : f 0 = .yield 0 := g0
  replace g1 : f 1 = .pref 2 0 0 := g1
  replace g3 : f 3 = .int .i64 (off rs i : Nat) := g3
  simp only [g0, g1, g3]
  by_cases hi : i < rs.length
  · have hr1 : R1 (rnth rs i) := by
      have e : rnth rs i = rs[i] := by simp [rnth, hi]
      rw [e]
      exact hr _ (List.getElem_mem hi)
    have hrt : rcF (rs.take (i + 1)) = rcF (rs.take i) ++ (rnth rs i).cells := by
      have e : rnth rs i = rs[i] := by simp [rnth, hi]
      rw [List.take_succ_eq_append_getElem hi, e]
      unfold rcF
      rw [List.map_append, List.flatten_append]
      simp
    have ho := off_succ hi
    have hle := off_le hi
    have hnb := nb_val (r := rnth rs i)
    obtain ⟨_, h⟩ | ⟨h0, full, rfl⟩ := hx
    · rw [h] at hle
      simp at hle
      omega
    have hx : ByS (.sval full (FR rs).length (uB (FR rs))) (FR rs) := ByS.mk _ _
    have hat := hx.at (i := off rs i) (by omega)
    have hhd := FR_head hi
    obtain ⟨y1, hc1, hy1⟩ := hx.cutAt (a := off rs i + 1) (b := off rs i + 1 + nb (rnth rs i)) (by omega) (by omega)
    obtain ⟨y2, hc2, hy2⟩ := hx.cutAt (a := off rs i) (b := off rs i + nb (rnth rs i) + 5) (by omega) (by omega)
    rw [show off rs i + 1 + nb (rnth rs i) - (off rs i + 1) = nb (rnth rs i) by omega, FR_body hi] at hy1
    rw [show off rs i + nb (rnth rs i) + 5 - off rs i = nb (rnth rs i) + 5 by omega, FR_frame hi] at hy2
    simp only [Int.natCast_add, Int.cast_ofNat_Int] at hc1 hc2
    have hnl : (bodyB (rnth rs i)).length = nb (rnth rs i) := rfl
    have hfl := frame_len (rnth rs i)
    have hne := body_ne (r := rnth rs i)
    have hsb : (sealB (bodyB (rnth rs i))).length = nb (rnth rs i) + 5 := frame_len _
    have hfr : frameB (rnth rs i) = sealB (bodyB (rnth rs i)) := rfl
    rw [hhd] at hat
    generalize rnth rs i = r at *
    generalize hnn : nb r = n at *
    have hon : ((off rs i : Nat) : Int) + n + 5 = (off rs (i + 1) : Nat) := by omega
    repeat' (first | (refine WO.yes rfl ?_) | (refine WO.opE (by intro; simp (disch := omega) only [go_sem, zeros, List.length_append, ov_one0, ov_one1, ov_one2, ov_one3, ov_all2, ov_all3, ov_all4, ov_all5, ov_all6, over7, cut7, cut4b, cut4c, fillP, Option.bind_eq_bind, Nat.reduceAdd, Nat.reduceMul, Nat.reduceSub, Nat.reduceLeDiff, Nat.reduceEqDiff, Int.reduceNeg, Int.reduceAdd, Int.reduceToNat, reduceIte, reduceCtorEq, hat, lc0, lc1, lc2, lc3X, st3X, setBlk, List.append_assoc]; rfl) (by simp only [pt8, pt0, pt1, pt2, pt3, pt4, pt5, pt6, pt7]; rfl) ?_) | (refine WO.opN (by intro; simp (disch := omega) only [go_sem, zeros, List.length_append, ov_one0, ov_one1, ov_one2, ov_one3, ov_all2, ov_all3, ov_all4, ov_all5, ov_all6, over7, cut7, cut4b, cut4c, fillP, Option.bind_eq_bind, Nat.reduceAdd, Nat.reduceMul, Nat.reduceSub, Nat.reduceLeDiff, Nat.reduceEqDiff, Int.reduceNeg, Int.reduceAdd, Int.reduceToNat, reduceIte, reduceCtorEq, hat, lc0, lc1, lc2, lc3X, st3X, setBlk, List.append_assoc]; rfl) ?_) | (refine WO.opE (by intro; exact ev_lenS (by simp only [go_sem]; first | rfl | assumption)) (by simp only [pt8, pt0, pt1, pt2, pt3, pt4, pt5, pt6, pt7]; rfl) ?_) | (refine WT.big rfl rfl (by intro; rw [ev_slice]; exact congrArg (Option.map _) (hc1 _)) rfl (.inr (apart_nil _)) (by simp only [pt8, pt0, pt1, pt2, pt3, pt4, pt5, pt6, pt7]; rfl) ?_) | (refine WT.big rfl rfl (by intro; rw [ev_slice]; exact congrArg (Option.map _) (hc2 _)) rfl (.inr (apart_nil _)) (by simp only [pt8, pt0, pt1, pt2, pt3, pt4, pt5, pt6, pt7]; rfl) ?_) | (refine WT.free rfl (by intro; exact ev_lenS (by simp only [go_sem]; exact hx.len)) rfl (by simp only [pt8, pt0, pt1, pt2, pt3, pt4, pt5, pt6, pt7]; rfl) ?_) | (refine WO.opE (by intro; rw [ev_slice]; exact congrArg (Option.map _) (hc1 _)) (by simp only [pt8, pt0, pt1, pt2, pt3, pt4, pt5, pt6, pt7]; rfl) ?_) | (refine WT.spec rfl rfl (fun V => s33 (hy1.byVal _) hy1 hne (by omega)) (by simp only [pt8, pt0, pt1, pt2, pt3, pt4, pt5, pt6, pt7]; rfl) ?_) | (refine WT.spec rfl rfl (fun V => s51 (ByS.mk (sealB (bodyB r)) false) (hfr ▸ hy2) (by omega)) (by simp only [pt8, pt0, pt1, pt2, pt3, pt4, pt5, pt6, pt7]; rfl) ?_) | (refine WO.specE rfl rfl (s52 hr1 hy1) (by simp only [pt8, pt0, pt1, pt2, pt3, pt4, pt5, pt6, pt7]; rfl) ?_) | (refine WC.seq ?_) | (refine WC.region ?_) | (refine WO.nil ?_) | (simp only [fl1, fl2, fl3, fl4, fl5, fl6, fl7, fl8, fl9, fl10, Nat.reduceBEq]) | (refine WC.drawT ?_) | (refine WT.nil ?_) | (refine WT.yes rfl ?_) | (refine WT.free rfl (by intro; simp (disch := omega) only [go_sem, zeros, List.length_append, ov_one0, ov_one1, ov_one2, ov_one3, ov_all2, ov_all3, ov_all4, ov_all5, ov_all6, over7, cut7, cut4b, cut4c, fillP, Option.bind_eq_bind, Nat.reduceAdd, Nat.reduceMul, Nat.reduceSub, Nat.reduceLeDiff, Nat.reduceEqDiff, Int.reduceNeg, Int.reduceAdd, Int.reduceToNat, reduceIte, reduceCtorEq, hat, lc0, lc1, lc2, lc3X, st3X, setBlk, List.append_assoc]; rfl) rfl (by simp only [pt8, pt0, pt1, pt2, pt3, pt4, pt5, pt6, pt7]; rfl) ?_) | (refine WT.big rfl rfl (by intro; simp (disch := omega) only [go_sem, zeros, List.length_append, ov_one0, ov_one1, ov_one2, ov_one3, ov_all2, ov_all3, ov_all4, ov_all5, ov_all6, over7, cut7, cut4b, cut4c, fillP, Option.bind_eq_bind, Nat.reduceAdd, Nat.reduceMul, Nat.reduceSub, Nat.reduceLeDiff, Nat.reduceEqDiff, Int.reduceNeg, Int.reduceAdd, Int.reduceToNat, reduceIte, reduceCtorEq, hat, lc0, lc1, lc2, lc3X, st3X, setBlk, List.append_assoc]; rfl) (by simp (disch := omega) only [go_sem, zeros, List.length_append, ov_one0, ov_one1, ov_one2, ov_one3, ov_all2, ov_all3, ov_all4, ov_all5, ov_all6, over7, cut7, cut4b, cut4c, fillP, Option.bind_eq_bind, Nat.reduceAdd, Nat.reduceMul, Nat.reduceSub, Nat.reduceLeDiff, Nat.reduceEqDiff, Int.reduceNeg, Int.reduceAdd, Int.reduceToNat, reduceIte, reduceCtorEq, hat, lc0, lc1, lc2, lc3X, st3X, setBlk, List.append_assoc, touch]; rfl) (by first | exact .inl rfl | exact .inr (apart_nil _) | exact .inr trivial | (right; apply apart_mk; simp only [apartL, List.nil_append, List.cons_append, List.getElem?_cons_succ, List.getElem?_cons_zero, Tch.free, and_true, true_and]; first | done | omega)) (by simp only [pt8, pt0, pt1, pt2, pt3, pt4, pt5, pt6, pt7]; rfl) ?_) | (refine WC.no rfl ?_) | (refine WC.skip ?_) | (refine WC.block ?_) | (refine WT.em2 rfl (by intro hp; simp only [hp, decide_true]; rfl) (by intro hp; simp only [hp, decide_false]; rfl) (fun hp => ?_) (fun hp => ?_) <;> try (exfalso; first | omega | contradiction)) | (refine WC.em2 rfl (fun hp => ?_) (fun hp => ?_) <;> try (exfalso; first | omega | contradiction)))
    refine WO.call rfl rfl ?_
    refine WF.yieldN hL0 rfl ?_
    simp only [List.map_cons, List.map_nil, Opd.ev, gt8, gt0, gt1, gt2, gt3, gt4, gt5, gt6, gt7, setAll, pt8, pt0, pt1, pt2, pt3, pt4, pt5, pt6, pt7]
    repeat' (first | (refine WO.opE (by intro; simp (disch := omega) only [go_sem, zeros, List.length_append, ov_one0, ov_one1, ov_one2, ov_one3, ov_all2, ov_all3, ov_all4, ov_all5, ov_all6, over7, cut7, cut4b, cut4c, fillP, Option.bind_eq_bind, Nat.reduceAdd, Nat.reduceMul, Nat.reduceSub, Nat.reduceLeDiff, Nat.reduceEqDiff, Int.reduceNeg, Int.reduceAdd, Int.reduceToNat, reduceIte, reduceCtorEq, lc0, lc1, lc2, lc3X, lc3Y, st3X, st3Y, setBlk, List.append_assoc]; rfl) (by simp only [pt8, pt0, pt1, pt2, pt3, pt4, pt5, pt6, pt7]; rfl) ?_) | (refine WO.opN (by intro; simp (disch := omega) only [go_sem, zeros, List.length_append, ov_one0, ov_one1, ov_one2, ov_one3, ov_all2, ov_all3, ov_all4, ov_all5, ov_all6, over7, cut7, cut4b, cut4c, fillP, Option.bind_eq_bind, Nat.reduceAdd, Nat.reduceMul, Nat.reduceSub, Nat.reduceLeDiff, Nat.reduceEqDiff, Int.reduceNeg, Int.reduceAdd, Int.reduceToNat, reduceIte, reduceCtorEq, lc0, lc1, lc2, lc3X, lc3Y, st3X, st3Y, setBlk, List.append_assoc]; rfl) ?_) | (refine WC.seq ?_) | (refine WC.region ?_) | (refine WO.nil ?_) | (simp only [fl1, fl2, fl3, fl4, fl5, fl6, fl7, fl8, fl9, fl10, Nat.reduceBEq]))
    refine ⟨trivial, trivial, ?_⟩
    generalize hL2 : L.set 0 _ = L2
    have hsl2 : ∀ R, SlH (some ⟨0, [z]⟩ :: some ⟨0, [.int .i64 (off rs i : Nat)]⟩ :: some ⟨0, [.sval full (FR rs).length (uB (FR rs))]⟩ :: (X ++ R)) z 7 (rcF (rs.take i)) i := fun R => by
      have := hsl.keep (H' := (some ⟨0, [z]⟩ :: some ⟨0, [.int .i64 (off rs i : Nat)]⟩ :: some ⟨0, [.sval full (FR rs).length (uB (FR rs))]⟩ :: X) ++ R) (fun j hj => List.getElem?_append_left (inB_lt hsl hj))
      simpa using this
    repeat' (first | (refine WO.opE (by intro; simp (disch := omega) only [go_sem, zeros, List.length_append, ov_one0, ov_one1, ov_one2, ov_one3, ov_all2, ov_all3, ov_all4, ov_all5, ov_all6, over7, cut7, cut4b, cut4c, fillP, Option.bind_eq_bind, Nat.reduceAdd, Nat.reduceMul, Nat.reduceSub, Nat.reduceLeDiff, Nat.reduceEqDiff, Int.reduceNeg, Int.reduceAdd, Int.reduceToNat, reduceIte, reduceCtorEq, lc0, lc1, lc2, lc3X, lc3Y, st3X, st3Y, setBlk, List.append_assoc]; rfl) (by simp only [pt8, pt0, pt1, pt2, pt3, pt4, pt5, pt6, pt7]; rfl) ?_) | (refine WC.region ?_) | (simp only [fl1, fl2, fl3, fl4, fl5, fl6, fl7, fl8, fl9, fl10, Nat.reduceBEq]) | (refine WC.block ?_))
    refine WO.appendSl (c := r.cells) (z := z) rfl rfl (hsl2 _) (by decide) lc3Z rfl ⟨by omega, by omega⟩ ?_
    intro z' H3 e2 e3 e4
    have hz0 : ∀ j, inB z' j → 3 ≤ j := fun j hj => by
      rcases e4 j hj with h | h
      · exact hz3 j h
      · simp only [List.length_cons] at h; omega
    obtain ⟨X', rfl⟩ := three (e3 0 (fun h => by have := hz3 0 h; omega) (by simp only [List.length_cons]; omega)) (e3 1 (fun h => by have := hz3 1 h; omega) (by simp only [List.length_cons]; omega)) (e3 2 (fun h => by have := hz3 2 h; omega) (by simp only [List.length_cons]; omega))
    have e5 := e2.keep (H' := some ⟨0, [z']⟩ :: some ⟨0, [.int .i64 (off rs (i + 1) : Nat)]⟩ :: some ⟨0, [.sval full (FR rs).length (uB (FR rs))]⟩ :: X') (fun j hj => by
      have := hz0 j hj
      match j, this with
      | j + 3, _ => rfl)
    have hcz := e2.cells
    unfold AV.cells at hcz
    clear e2 e3 e4
    simp only [pt8, pt0, pt1, pt2, pt3, pt4, pt5, pt6, pt7]
    repeat' (first | (refine WO.opE (by intro; simp (disch := omega) only [go_sem, zeros, List.length_append, ov_one0, ov_one1, ov_one2, ov_one3, ov_all2, ov_all3, ov_all4, ov_all5, ov_all6, over7, cut7, cut4b, cut4c, fillP, Option.bind_eq_bind, Nat.reduceAdd, Nat.reduceMul, Nat.reduceSub, Nat.reduceLeDiff, Nat.reduceEqDiff, Int.reduceNeg, Int.reduceAdd, Int.reduceToNat, reduceIte, reduceCtorEq, hcz, lc0, lc1, lc2, List.set_cons_zero, List.set_cons_succ, setBlk]; rfl) (by simp only [pt8, pt0, pt1, pt2, pt3, pt4, pt5, pt6, pt7]; rfl) ?_) | (refine WO.opN (by intro; simp (disch := omega) only [go_sem, zeros, List.length_append, ov_one0, ov_one1, ov_one2, ov_one3, ov_all2, ov_all3, ov_all4, ov_all5, ov_all6, over7, cut7, cut4b, cut4c, fillP, Option.bind_eq_bind, Nat.reduceAdd, Nat.reduceMul, Nat.reduceSub, Nat.reduceLeDiff, Nat.reduceEqDiff, Int.reduceNeg, Int.reduceAdd, Int.reduceToNat, reduceIte, reduceCtorEq, hcz, lc0, lc1, lc2, List.set_cons_zero, List.set_cons_succ, setBlk]; rfl) ?_) | (refine WO.nil ?_) | (simp only [fl1, fl2, fl3, fl4, fl5, fl6, fl7, fl8, fl9, fl10, Nat.reduceBEq]))
    refine ⟨trivial, trivial, ?_⟩
    repeat' (first | (refine WO.yes rfl ?_) | (refine WO.opE (by intro; simp (disch := omega) only [go_sem, zeros, List.length_append, ov_one0, ov_one1, ov_one2, ov_one3, ov_all2, ov_all3, ov_all4, ov_all5, ov_all6, over7, cut7, cut4b, cut4c, fillP, Option.bind_eq_bind, Nat.reduceAdd, Nat.reduceMul, Nat.reduceSub, Nat.reduceLeDiff, Nat.reduceEqDiff, Int.reduceNeg, Int.reduceAdd, Int.reduceToNat, reduceIte, reduceCtorEq]; rfl) (by simp only [pt8, pt0, pt1, pt2, pt3, pt4, pt5, pt6, pt7]; rfl) ?_) | (refine WC.region ?_) | (refine WO.nil ?_) | (simp only [fl1, fl2, fl3, fl4, fl5, fl6, fl7, fl8, fl9, fl10, Nat.reduceBEq]) | (refine WC.no rfl ?_) | (refine WC.skip ?_))
    rw [hon]
    exact ⟨m - 1, by omega, _, i + 1, z', X', rfl, rfl, rfl, rfl, rfl, hrt ▸ e5, hz0, by omega⟩
  · have hie : i = rs.length := by omega
    subst hie
    have hoe := off_end rs
    rw [List.take_length] at hsl
    rw [hoe] at hsl g3
    rw [hoe]
    have hcz := hsl.cells
    unfold AV.cells at hcz
    repeat' (first | (refine WO.opE (by intro; simp (disch := omega) only [go_sem, zeros, List.length_append, ov_one0, ov_one1, ov_one2, ov_one3, ov_all2, ov_all3, ov_all4, ov_all5, ov_all6, over7, cut7, cut4b, cut4c, fillP, Option.bind_eq_bind, Nat.reduceAdd, Nat.reduceMul, Nat.reduceSub, Nat.reduceLeDiff, Nat.reduceEqDiff, Int.reduceNeg, Int.reduceAdd, Int.reduceToNat, reduceIte, reduceCtorEq, lc0, lc1, lc2]; rfl) (by simp only [pt8, pt0, pt1, pt2, pt3, pt4, pt5, pt6, pt7]; rfl) ?_) | (refine WO.opE (by intro; exact ev_lenS (by simp only [go_sem]; exact hx.by.len)) (by simp only [pt8, pt0, pt1, pt2, pt3, pt4, pt5, pt6, pt7]; rfl) ?_) | (refine WC.seq ?_) | (refine WC.region ?_) | (refine WO.nil ?_) | (simp only [fl1, fl2, fl3, fl4, fl5, fl6, fl7, fl8, fl9, fl10, Nat.reduceBEq]) | (refine WC.exit ?_) | (refine WC.em2 rfl (fun hp => ?_) (fun hp => ?_) <;> try (exfalso; first | omega | contradiction)))
    refine ⟨_, rfl, rfl, ?_⟩
    repeat' (first | (refine WO.opE (by intro; simp (disch := omega) only [go_sem, zeros, List.length_append, ov_one0, ov_one1, ov_one2, ov_one3, ov_all2, ov_all3, ov_all4, ov_all5, ov_all6, over7, cut7, cut4b, cut4c, fillP, Option.bind_eq_bind, Nat.reduceAdd, Nat.reduceMul, Nat.reduceSub, Nat.reduceLeDiff, Nat.reduceEqDiff, Int.reduceNeg, Int.reduceAdd, Int.reduceToNat, reduceIte, reduceCtorEq, lc0, lc1, lc2, hcz]; rfl) (by simp only [pt8, pt0, pt1, pt2, pt3, pt4, pt5, pt6, pt7]; rfl) ?_) | (refine WC.seq ?_) | (refine WO.nil ?_) | (simp only [fl1, fl2, fl3, fl4, fl5, fl6, fl7, fl8, fl9, fl10, Nat.reduceBEq]) | (refine WC.calm rfl ?_) | (refine WC.ret ?_))
    refine ⟨_, rfl, ?_⟩
    have e1 := hsl.resA (rcF_flat rs) fun j _ => rfl
    simp only [oneRes, St.mem, gt8, gt0, gt1, gt2, gt3, gt4, gt5, gt6, gt7, resV, resT, e1]
    rfl
theorem s27 {x : AV} {rs : List Rc} (hx : DkN x (FR rs)) (hr : ∀ r ∈ rs, R1 r) (hlen : (FR rs).length ≤ 100000) (hn : rs.length ≤ 1000) {m : Mem} : borrowE E22 27 [x] m = some (.tuple [slV (rcF rs) rs.length, .int .i64 ((FR rs).length : Nat)], m) :=
  borrowE_of (by rw [List.all_cons, hx.by.pureA]; rfl) (f27 hx hr hlen hn)
noncomputable def E23 : Env := E22.put 27 (borrowE E22 27)
theorem E23_ok : EnvOk Tryd.prog E23 := Env.put_ok E22_ok (borrowE_ok E22_ok (callable Tryd.func27 (by kernel_rfl)))
end Go.Proofs.YtgchabldcnmccaaDoor

