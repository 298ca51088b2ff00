import Derived.Test.YtgchabldcnmccacGreatDoorWc

set_option linter.unusedSimpArgs false
set_option linter.unusedVariables false

namespace Go.Proofs.YtgchabldcnmccacGreatDoor
open Go.Zz
set_option maxRecDepth 100000
set_option maxHeartbeats 8000000
def sF (l : List (Int × Tk)) : List AV := l.flatMap fun s => [.agg (stC s), .bool true]
theorem sF_cons (s : Int × Tk) (r : List (Int × Tk)) : sF (s :: r) = .agg (stC s) :: .bool true :: sF r := rfl
theorem stC_eq (a b : Int × Tk) : keyEq (.agg (stC a)) (.agg (stC b)) = decide (a = b) := by
 obtain ⟨a0, a1, a2, a3, a4⟩ := a
 obtain ⟨b0, b1, b2, b3, b4⟩ := b
 simp [keyEq, eqInts, stC, Tk.cells, Prod.mk.injEq, Tk.mk.injEq]
 rw [Bool.eq_iff_iff]
 simp
theorem sF_keys : ∀ l : List (Int × Tk), mkeys (.agg [.i64, .i64, .i64, .i64, .i64]) (sF l) = true
 | [] => rfl
 | s :: r => by rw [sF_cons]; simp [mkeys, KK.of, okInts, stC, Tk.cells, sF_keys r]
theorem sF_find (s : Int × Tk) : ∀ l : List (Int × Tk), mfind (.agg (stC s)) (sF l) = if s ∈ l then some (.bool true) else none
 | [] => by simp [sF, mfind]
 | a :: r => by
  rw [sF_cons]
  unfold mfind
  rw [stC_eq, sF_find s r]
  by_cases h : s = a
  ·subst h
   simp
  ·simp [h]
theorem sF_put {s : Int × Tk} : ∀ {l : List (Int × Tk)}, s ∉ l → mput (.agg (stC s)) (.bool true) (sF l) = sF (l ++ [s])
 | [], _ => rfl
 | a :: r, h => by
  rw [sF_cons]
  unfold mput
  rw [stC_eq, if_neg (by simp; rintro rfl; simp at h), sF_put (l := r) (fun hm => h (List.mem_cons_of_mem _ hm)), List.cons_append, sF_cons]
theorem chF_drop {n : Int} {ws vs : List Vo} {i : Nat} (h : i < vs.length) (seen out : List (Int × Tk)) : chF n ws (vs.drop i) seen out = if (vnth vs i).key ∈ seen then chF n ws (vs.drop (i + 1)) seen out else chF n ws (vs.drop (i + 1)) (seen ++ [(vnth vs i).key]) (if Chn n ws (vnth vs i).key then out ++ [(vnth vs i).key] else out) := by
 rw [List.drop_eq_getElem_cons h, vnth_eq h]
 rfl
theorem stF_app (l : List (Int × Tk)) (s : Int × Tk) : stF (l ++ [s]) = stF l ++ stC s := by simp [stF]
theorem ov5b {y0 y1 y2 y3 y4 x1 x2 x3 x4 : AV} : Zz.over [y0, y1, y2, y3, y4] 1 [x1, x2, x3, x4] = some [y0, x1, x2, x3, x4] := rfl
theorem f31 {n : Int} {x : AV} {vs : List Vo} {V : Tk} (hx : VoL x vs) (h : VoOk n vs V) :
  WF Y4 (.func 31 [] []) [.int .i64 n, x] ⟨[], []⟩ fun y m' => ∃ l, l.length = (chL n vs).length ∧ (∀ s ∈ l, s.2 = V) ∧ newV m'.heap y = some (.tuple [slV (stF l) l.length, .int .i64 0]) := by
 have hcx := SL.cells hx
 unfold AV.cells at hcx
 have hn1 := h.n1
 have hn8 := h.n8
 have hlen := h.len
 refine WF.fnE rfl (fn_of Tryz.func31 cir31) (by show 2 ≤ 54; decide) ?_
 unfold ir31; dsimp only [k0, kI, mV, oO, oG]
 simp only [padTo, List.replicate, List.nil_append, List.append_nil]
 repeat' (first | (refine WO.yes rfl ?_) | (refine WO.opE (by intro; simp (disch := omega) only [go_sem, Zz.look, hcx]; rfl) (by simp only [pt8, pt0, pt1, pt2, pt3, pt4, pt5, pt6, pt7]; rfl) ?_) | (refine WC.seq ?_) | (refine WC.region ?_) | (refine WO.nil ?_) | (simp only [fl1]) | (refine WO.em2 rfl (by intro hp; simp only [hp, decide_true]; rfl) (by intro hp; simp only [hp, decide_false]; rfl) (fun hp => ?_) (fun hp => ?_) <;> try (exfalso; first | omega | contradiction)) | fail)
 refine WO.call rfl rfl ((f58 hx (n := n) rfl h.ok (by omega)).mono ?_)
 rintro y _ ⟨rfl, X, rfl⟩
 simp only [pt8, pt7]
 repeat' (first | (refine WO.opE (by intro; simp (disch := omega) only [go_sem, lc1]; rfl) (by simp only [pt8, pt0, pt1, pt2, pt4, pt7]; rfl) ?_) | (refine WO.opE (by intro; exact ev_lenS (by simp only [go_sem]; exact hx.len)) (by simp only [pt8, pt3]; rfl) ?_) | (refine WC.seq ?_) | (refine WC.region ?_) | (refine WO.nil ?_) | (simp only [fl1]) | (refine WC.no rfl ?_) | (refine WC.skip ?_) | (refine WC.block ?_))
 refine WC.loopI (fun m st => ∃ T H z i seen out Y, st = ⟨T, H, some (mapObj (sF seen)) :: Y⟩ ∧ T.length = 54 ∧ gt T 2 = .pref 0 0 0 ∧ gt T 3 = .pref 1 0 0 ∧ gt T 7 = z ∧ gt T 8 = .mref 0 ∧ gt T 26 = x ∧ gt T 27 = .int .i64 (vs.length : Nat) ∧ gt T 28 = .int .i64 (i : Nat) ∧ m + i = vs.length ∧ Zz.look H 0 0 = some [.int .i64 n] ∧ Zz.look H 1 0 = some [x] ∧ SlH H z 5 (stF out) out.length ∧ ¬ inB z 0 ∧ ¬ inB z 1 ∧ chF n vs (vs.drop i) seen out = chL n vs ∧ out.length ≤ i) ?_ vs.length _ ⟨_, _, .snil, 0, [], [], [], rfl, rfl, rfl, rfl, rfl, rfl, rfl, rfl, rfl, by omega, rfl, rfl, SlH.nil, fun h => h, fun h => h, rfl, Nat.le_refl _⟩
 rintro m _ ⟨T, H, z, i, seen, out, Y, rfl, hT, g2, g3, g7, g8, g26, g27, g28, hml, hH0, hH1, hz, hz0, hz1, hch, hol⟩
 obtain ⟨f, rfl⟩ := ex54 hT
 clear hT
 replace g2 : f 2 = .pref 0 0 0 := g2
 replace g3 : f 3 = .pref 1 0 0 := g3
 replace g7 : f 7 = z := g7
 replace g8 : f 8 = .mref 0 := g8
 replace g26 : f 26 = x := g26
 replace g27 : f 27 = .int .i64 (vs.length : Nat) := g27
 replace g28 : f 28 = .int .i64 (i : Nat) := g28
 simp only [g2, g3, g7, g8, g26, g27, g28]
 have hH0' : ∀ R, Zz.look (H ++ R) 0 0 = some [.int .i64 n] := fun R => look_appR hH0
 have hH1' : ∀ R, Zz.look (H ++ R) 1 0 = some [x] := fun R => look_appR hH1
 by_cases hi : i < vs.length
 ·have hat := hx.at hi
  rw [chF_drop hi] at hch
  generalize hv : vnth vs i = v at *
  have hmk := sF_keys seen
  have hmf := sF_find v.key seen
  have hst : stC v.key = [.int .i64 v.b, .int .i64 v.v.s, .int .i64 v.v.c, .int .i64 v.v.n, .int .i64 v.v.d] := rfl
  have hcv : Zz.cut [.int .i64 v.d, .int .i64 v.b, .int .i64 v.v.s, .int .i64 v.v.c, .int .i64 v.v.n, .int .i64 v.v.d] 2 4 = some [.int .i64 v.v.s, .int .i64 v.v.c, .int .i64 v.v.n, .int .i64 v.v.d] := rfl
  by_cases hs : v.key ∈ seen
  ·rw [if_pos hs] at hch hmf
   rw [hst] at hmf
   repeat' (first | (refine WO.opE (by intro; simp (disch := omega) only [go_sem, List.length_append, ov_one0, fillP, Option.bind_eq_bind, Nat.reduceAdd, hat, lk0, lk1, ov5b, hcv, List.append_assoc]; rfl) (by simp only [pt8, pt0, pt1, pt2, pt3, pt4, pt5, pt6, pt7]; rfl) ?_) | (refine WO.opN (by intro; simp (disch := omega) only [go_sem, ov_all5, ov_all6, Option.bind_eq_bind, Nat.reduceAdd, lk0, lk1, st0, st1, setBlk]; rfl) ?_) | (refine WO.opE (by intro; refine Eq.trans (ev_mapGet (n := .agg [.int .i64 v.b, .int .i64 v.v.s, .int .i64 v.v.c, .int .i64 v.v.n, .int .i64 v.v.d]) rfl rfl rfl (rfl) (hmk)) ?_; simp only [hmf, if_false, Bool.false_eq_true, Option.getD, Option.isSome]; rfl) (by simp only [pt8, pt7]; rfl) ?_) | (refine WC.seq ?_) | (refine WC.region ?_) | (refine WO.nil ?_) | (simp only [fl1, fl10]) | (refine WC.yes rfl ?_) | (refine WC.skip ?_) | (refine WC.exit ?_) | (refine WC.block ?_) | (refine WC.em2 rfl (fun hp => ?_) (fun hp => ?_) <;> try (exfalso; first | omega | contradiction)))
   exact ⟨m - 1, by omega, _, _, z, i + 1, seen, out, Y, rfl, rfl, rfl, rfl, rfl, rfl, rfl, rfl, rfl, by omega, hH0' _, hH1' _, hz.more, hz0, hz1, hch, by omega⟩
  ·rw [if_neg hs] at hch hmf
   have hmp := sF_put hs
   rw [hst] at hmf hmp
   repeat' (first | (refine WO.opE (by intro; simp (disch := omega) only [go_sem, List.length_append, ov_one0, fillP, Option.bind_eq_bind, Nat.reduceAdd, hat, lk0, lk1, ov5b, hcv, hH0', List.append_assoc, hmp, List.set_cons_zero]; rfl) (by simp only [pt8, pt0, pt1, pt2, pt3, pt4, pt5, pt6, pt7]; rfl) ?_) | (refine WO.opN (by intro; simp (disch := omega) only [go_sem, ov_all5, ov_all6, Option.bind_eq_bind, Nat.reduceAdd, lk0, lk1, st0, st1, setBlk]; rfl) ?_) | (refine WO.opE (by intro; refine Eq.trans (ev_mapGet (n := .agg [.int .i64 v.b, .int .i64 v.v.s, .int .i64 v.v.c, .int .i64 v.v.n, .int .i64 v.v.d]) rfl rfl rfl (rfl) (hmk)) ?_; simp only [hmf, if_false, Bool.false_eq_true, Option.getD, Option.isSome]; rfl) (by simp only [pt8, pt7]; rfl) ?_) | (refine WO.opN (by intro; exact ev_mapSet (n := .agg [.int .i64 v.b, .int .i64 v.v.s, .int .i64 v.v.c, .int .i64 v.v.n, .int .i64 v.v.d]) rfl rfl rfl (rfl) (hmk)) ?_) | (refine WC.seq ?_) | (refine WC.region ?_) | (refine WO.nil ?_) | (simp only [fl1]) | (refine WC.no rfl ?_) | (refine WC.skip ?_) | (refine WC.block ?_) | (refine WC.em2 rfl (fun hp => ?_) (fun hp => ?_) <;> try (exfalso; first | omega | contradiction)))
   have h59 := fun L => f59 (L := L) (H := H ++ [some ⟨0, [.int .i64 v.d, .int .i64 v.b, .int .i64 v.v.s, .int .i64 v.v.c, .int .i64 v.v.n, .int .i64 v.v.d]⟩, some ⟨0, [.int .i64 v.b, .int .i64 v.v.s, .int .i64 v.v.c, .int .i64 v.v.n, .int .i64 v.v.d]⟩]) (sb := H.length + 1) (s := v.key) hx (hH1' _) (lk1 rfl) (by omega) (fun w hw => (h.ok w hw).1)
   refine WO.call rfl rfl ((h59 _).mono ?_)
   rintro y _ ⟨rfl, X, Y2, rfl⟩
   obtain ⟨A, hA⟩ : ∃ A, A = H ++ [some ⟨0, [.int .i64 v.d, .int .i64 v.b, .int .i64 v.v.s, .int .i64 v.v.c, .int .i64 v.v.n, .int .i64 v.v.d]⟩, some ⟨0, [.int .i64 v.b, .int .i64 v.v.s, .int .i64 v.v.c, .int .i64 v.v.n, .int .i64 v.v.d]⟩] ++ X := ⟨_, rfl⟩
   have hA0 : Zz.look A 0 0 = some [.int .i64 n] := by rw [hA, List.append_assoc]; exact hH0' _
   have hA1 : Zz.look A 1 0 = some [x] := by rw [hA, List.append_assoc]; exact hH1' _
   have hA2 : Zz.look A (H.length + 1) 0 = some [.int .i64 v.b, .int .i64 v.v.s, .int .i64 v.v.c, .int .i64 v.v.n, .int .i64 v.v.d] := by rw [hA]; exact look_appR (lk1 rfl)
   have hzA : SlH A z 5 (stF out) out.length := by rw [hA]; exact hz.more.more
   have hA2' : ∀ R, Zz.look (A ++ R) (H.length + 1) 0 = some [.int .i64 v.b, .int .i64 v.v.s, .int .i64 v.v.c, .int .i64 v.v.n, .int .i64 v.v.d] := fun R => look_appR hA2
   have hl0 := look_ltR hA0
   have hl1 := look_ltR hA1
   simp only
   rw [← hA]
   clear hA hz
   by_cases hc : Chn n vs v.key
   ·rw [if_pos hc] at hch
    simp only [pt8, pt4, hc, decide_true]
    repeat' (first | (refine WO.opE (by intro; simp (disch := omega) only [go_sem, zeros, ov_all5, fillP, Option.bind_eq_bind, Nat.reduceAdd, hA2]; rfl) (by simp only [pt8, pt0, pt4, pt5, pt6, pt7]; rfl) ?_) | (refine WC.seq ?_) | (refine WC.region ?_) | (refine WO.nil ?_) | (simp only [fl1, fl4]) | (refine WC.yes rfl ?_))
    refine WO_appendSl (k := 5) (c := [.int .i64 v.b, .int .i64 v.v.s, .int .i64 v.v.c, .int .i64 v.v.n, .int .i64 v.v.d]) rfl rfl hzA.more (by decide) (lk0 rfl) rfl (by omega) fun z' H' hz' hk1 hk2 => ?_
    simp only [pt8, pt1]
    have hsa : stF out ++ [.int .i64 v.b, .int .i64 v.v.s, .int .i64 v.v.c, .int .i64 v.v.n, .int .i64 v.v.d] = stF (out ++ [v.key]) := (stF_app out v.key).symm
    rw [hsa] at hz'
    repeat' (first | (refine WO.opE (by intro; simp (disch := omega) only [go_sem]; rfl) (by simp only [pt8, pt2, pt4, pt7]; rfl) ?_) | (refine WC.region ?_) | (refine WO.nil ?_) | (simp only [fl10]))
    refine ⟨m - 1, by omega, _, H', z', i + 1, _, _, _, rfl, rfl, rfl, rfl, rfl, rfl, rfl, rfl, rfl, by omega, ?_, ?_, by rw [List.length_append]; exact hz', ?_, ?_, hch, by rw [List.length_append]; exact Nat.succ_le_succ hol⟩
    ·rw [look_of_get (hk1 0 hz0 (by simp))]
     exact look_appR hA0
    ·rw [look_of_get (hk1 1 hz1 (by simp; omega))]
     exact look_appR hA1
    ·intro hj
     rcases hk2 0 hj with hj | hj
     ·exact hz0 hj
     ·simp at hj
    ·intro hj
     rcases hk2 1 hj with hj | hj
     ·exact hz1 hj
     ·rw [List.length_append, List.length_singleton] at hj
      omega
   ·rw [if_neg hc] at hch
    simp only [pt8, pt4, hc, decide_false]
    repeat' (first | (refine WO.opE (by intro; simp (disch := omega) only [go_sem]; rfl) (by simp only [pt8, pt2, pt4, pt5]; rfl) ?_) | (refine WC.seq ?_) | (refine WC.region ?_) | (refine WO.nil ?_) | (simp only [fl1, fl10]) | (refine WC.no rfl ?_) | (refine WC.skip ?_))
    exact ⟨m - 1, by omega, _, A, z, i + 1, _, out, _, rfl, rfl, rfl, rfl, rfl, rfl, rfl, rfl, rfl, by omega, hA0, hA1, hzA, hz0, hz1, hch, by omega⟩
 ·
  repeat' (first | (refine WO.opE (by intro; simp (disch := omega) only [go_sem]; rfl) (by simp only [pt8, pt3, pt5]; rfl) ?_) | (refine WC.seq ?_) | (refine WC.region ?_) | (refine WO.nil ?_) | (simp only [fl1]) | (refine WC.exit ?_) | (refine WC.em2 rfl (fun hp => ?_) (fun hp => ?_) <;> try (exfalso; first | omega | contradiction)))
  have hie : i = vs.length := by omega
  subst hie
  rw [List.drop_length] at hch
  have hco : out = chL n vs := hch
  subst hco
  refine WO.call rfl rfl ((f61 hz rfl h.same h.few).mono ?_)
  rintro y _ ⟨l, H', g1, g2, rfl, g3⟩
  simp only [pt8, pt4]
  repeat' (first | (refine WO.opE (by intro; simp (disch := omega) only [go_sem]; rfl) (by simp only [pt8, pt4, pt5]; rfl) ?_) | (refine WC.seq ?_) | (refine WC.region ?_) | (refine WO.nil ?_) | (simp only [fl1]) | (refine WC.ret ?_))
  refine ⟨_, rfl, l, g1, g2, ?_⟩
  show newV H' (.tuple [z, .int .i64 0]) = _
  rw [← g1] at g3
  simp only [newV, newT, g3.newA (stF_flat _)]
  rfl
end Go.Proofs.YtgchabldcnmccacGreatDoor

