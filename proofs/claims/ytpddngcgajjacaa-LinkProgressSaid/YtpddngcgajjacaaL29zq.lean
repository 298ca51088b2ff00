import Derived.Test.YtpddngcgajjacaaL29zp
set_option linter.unusedSimpArgs false
set_option linter.unusedVariables false
namespace Go.Proofs.Ytpddngcgajjacaa
open Go.Zz


theorem list_gts (l : List AV) : l = (List.range l.length).map (gt l) := by
  apply List.ext_getElem (by simp)
  intro i h1 h2
  simp [gt_of_lt h1]

theorem as153 {T : List AV} {l : AV} (hl : T.length = 153) (h1 : gt T 1 = .pref 0 0 0) (h2 : gt T 2 = .bool false) (h3 : gt T 3 = .bool true) (h4 : gt T 4 = l) (h6 : gt T 6 = .pref 2 0 0) (h7 : gt T 7 = .pref 3 0 0) :
    ∃ f : Nat → AV, T = [f 0, .pref 0 0 0, .bool false, .bool true, l, f 5, .pref 2 0 0, .pref 3 0 0, f 8, f 9, f 10, f 11, f 12, f 13, f 14, f 15, f 16, f 17, f 18, f 19, f 20, f 21, f 22, f 23, f 24, f 25, f 26, f 27, f 28, f 29, f 30, f 31, f 32, f 33, f 34, f 35, f 36, f 37, f 38, f 39, f 40, f 41, f 42, f 43, f 44, f 45, f 46, f 47, f 48, f 49, f 50, f 51, f 52, f 53, f 54, f 55, f 56, f 57, f 58, f 59, f 60, f 61, f 62, f 63, f 64, f 65, f 66, f 67, f 68, f 69, f 70, f 71, f 72, f 73, f 74, f 75, f 76, f 77, f 78, f 79, f 80, f 81, f 82, f 83, f 84, f 85, f 86, f 87, f 88, f 89, f 90, f 91, f 92, f 93, f 94, f 95, f 96, f 97, f 98, f 99, f 100, f 101, f 102, f 103, f 104, f 105, f 106, f 107, f 108, f 109, f 110, f 111, f 112, f 113, f 114, f 115, f 116, f 117, f 118, f 119, f 120, f 121, f 122, f 123, f 124, f 125, f 126, f 127, f 128, f 129, f 130, f 131, f 132, f 133, f 134, f 135, f 136, f 137, f 138, f 139, f 140, f 141, f 142, f 143, f 144, f 145, f 146, f 147, f 148, f 149, f 150, f 151, f 152] := by
  refine ⟨gt T, ?_⟩
  rw [← h1, ← h2, ← h3, ← h4, ← h6, ← h7]
  have := list_gts T
  rw [hl] at this
  exact this

theorem zeros_ints : ∀ n : Nat, zeros [AV.int .i64 0] n = (List.replicate n (0 : Int)).map (.int .i64)
  | 0 => rfl
  | n + 1 => by simp [zeros, zeros_ints n, List.replicate_succ]

set_option maxRecDepth 20000 in
theorem window_run {q : AV} {s : Int} {qs : List Int} (hq : IntS q qs) (h1 : I64 s) (hmax : qs.length < 9223372036854775808) :
    WF G5 (.func 8 [] []) [.agg [.int .i64 s, q]] ⟨[], []⟩ fun y m' => y = .bool true := by
  obtain ⟨l, hl, hout⟩ := out_eq hq h1 hmax
  refine WF.fn rfl (fn_of Try.func8 cir8) (by show 1 ≤ 153; decide) ?_
  by_cases hv : vS s qs
  · have hv' := hv
    obtain ⟨v1, v2, v3⟩ := hv'
    rw [show outE s qs = 0 from if_pos hv] at hout
    rw [show outM s qs = outs s (qs.take (min 4 qs.length)) from if_pos hv] at hl
    obtain ⟨sn, rfl⟩ : ∃ sn : Nat, s = sn := ⟨s.toNat, by omega⟩
    generalize hw : min 4 qs.length = w at hl
    have hwq : w ≤ qs.length := by omega
    have hlen : slen l = some w := by rw [(hl.rd []).1, outs_len, List.length_take, Nat.min_eq_left hwq]
    have hmm : minmaxAV false [.int .i64 4, .int .i64 (qs.length : Nat)] = some (.int .i64 (w : Nat)) := by rw [minmax4, hw]
    have c1 : ¬ (sn : Int) < 0 := by omega
    have c2 : ¬ (1000 : Int) < (sn : Int) := by omega
    have hH : Hears sn qs true ((sn + w : Nat) : Int) 0 := ⟨hv, rfl, rfl, by omega, by omega, by omega⟩
    obtain ⟨hv1, hhv1, hear⟩ := hear_yes hq h1 (by unfold I64; omega) hmax hH
    have e1 : (((sn + w : Nat) : Int) - (sn : Int)).toNat = w := by omega
    rw [e1] at hhv1 hear
    obtain ⟨y, hy, hfrom⟩ := hq.from hwq
    have g5 := spec13 (s := (sn : Int) + (w : Int)) (k := (sn : Int) + (w : Int)) hhv1 hy (by rw [List.length_drop]; omega) (by rw [List.length_drop]; omega)
    rw [decide_eq_true ⟨rfl, rfl⟩] at g5
    have hwr : IntKind.wrap .i64 ((sn : Int) + (w : Int)) = (sn : Int) + (w : Int) := wrap_id (by omega) (by omega)
    have hloop := fun M hM => window_loop (sn := sn) (w := w) hq hl hwq (by omega) (by omega) (lb := match ir8.body with | .seq _ (.seq _ (.seq _ (.seq _ (.seq _ (.seq _ (.seq _ (.seq (.seq _ (.block _ (.loop b))) _))))))) => b | _ => .skip) rfl w 0 (by omega) M hM
    unfold ir8 at hloop ⊢
    simp (config := { maxSteps := 10000000 }) only at hloop
    simp only [padTo, List.replicate, List.nil_append, List.append_nil, List.cons_append]
    have hmk : (0 : Int) ≤ (sn : Int) ∧ (sn : Int) ≤ (sn : Int) ∧ (sn : Int) * ((8 : Nat) : Int) ≤ 70368744177664 ∧ (sn : Int) ≤ 70368744177664 := ⟨by omega, by omega, by omega, by omega⟩
    refine WC.seq (WC.region ?_)
    repeat (first
      | (refine WO.yes rfl ?_)
      | (refine WO.no rfl ?_; simp only [pt])
      | (refine WO.op (by intro; simp only [go_sem, Zz.look, fillP, over, cut]; rfl) ?_; simp only [pt])
      | (refine WO.opN (by intro; simp only [go_sem, Zz.look, storeAt, over, setBlk, cut]; rfl) ?_))
    refine WO.nil ?_
    simp only [Then]
    refine WC.seq (WC.region ?_)
    refine WO.call rfl rfl (WF.spec rfl (spec10 _) ?_)
    simp only [pt]
    repeat (first
      | (refine WO.yes rfl ?_)
      | (refine WO.no rfl ?_; simp only [pt])
      | (refine WO.op (by intro; simp only [go_sem, Zz.look, fillP, over, cut]; rfl) ?_; simp only [pt])
      | (refine WO.opN (by intro; simp only [go_sem, Zz.look, storeAt, over, setBlk, cut]; rfl) ?_))
    refine WO.nil ?_
    simp only [Then]
    refine WC.seq (WC.region ?_)
    repeat (first
      | (refine WO.yes rfl ?_)
      | (refine WO.no rfl ?_; simp only [pt])
      | (refine WO.op (by intro; simp only [go_sem, Zz.look, fillP, over, cut]; rfl) ?_; simp only [pt])
      | (refine WO.opN (by intro; simp only [go_sem, Zz.look, storeAt, over, setBlk, cut]; rfl) ?_))
    refine WO.call rfl rfl (WF.spec rfl (hout _) ?_)
    simp only [pt]
    repeat (first
      | (refine WO.yes rfl ?_)
      | (refine WO.no rfl ?_; simp only [pt])
      | (refine WO.op (by intro; simp only [go_sem, Zz.look, fillP, over, cut]; rfl) ?_; simp only [pt])
      | (refine WO.opN (by intro; simp only [go_sem, Zz.look, storeAt, over, setBlk, cut]; rfl) ?_))
    refine WO.nil ?_
    simp only [Then]
    refine WC.seq (WC.seq (WC.region ?_))
    repeat (first
      | (refine WO.yes rfl ?_)
      | (refine WO.no rfl ?_; simp only [pt])
      | (refine WO.op (by intro; simp only [go_sem, Zz.look, fillP, over, cut, bne_self_eq_false]; rfl) ?_; simp only [pt])
      | (refine WO.opN (by intro; simp only [go_sem, Zz.look, storeAt, over, setBlk, cut, bne_self_eq_false]; rfl) ?_))
    refine WO.nil ?_
    simp only [Then]
    refine WC.no (by simp only [go_sem]) (WC.skip ?_)
    simp only [Then]
    refine WC.seq (WC.seq (WC.region ?_))
    repeat (first
      | (refine WO.yes rfl ?_)
      | (refine WO.no rfl ?_; simp only [pt])
      | (refine WO.op (by intro; simp only [go_sem, Zz.look, fillP, over, cut]; rfl) ?_; simp only [pt])
      | (refine WO.opN (by intro; simp only [go_sem, Zz.look, storeAt, over, setBlk, cut]; rfl) ?_))
    refine WO.op (by intro; exact ev_lenS (n := w) (by simp only [go_sem]; exact hlen)) ?_
    simp only [pt]
    repeat (first
      | (refine WO.yes rfl ?_)
      | (refine WO.no rfl ?_; simp only [pt])
      | (refine WO.op (by intro; simp only [go_sem, Zz.look, fillP, over, cut]; rfl) ?_; simp only [pt])
      | (refine WO.opN (by intro; simp only [go_sem, Zz.look, storeAt, over, setBlk, cut]; rfl) ?_))
    refine WO.op (by intro; exact ev_lenS (n := qs.length) (by simp only [go_sem]; exact hq.len)) ?_
    simp only [pt]
    refine WO.op (by intro; rw [ev_minmax]; exact (congrArg (Option.map _) hmm).trans rfl) ?_
    simp only [pt]
    repeat (first
      | (refine WO.yes rfl ?_)
      | (refine WO.no rfl ?_; simp only [pt])
      | (refine WO.op (by intro; simp only [go_sem, Zz.look, fillP, over, cut, bne_self_eq_false, c1, c2, decide_false]; rfl) ?_; simp only [pt])
      | (refine WO.opN (by intro; simp only [go_sem, Zz.look, storeAt, over, setBlk, cut, bne_self_eq_false, c1, c2, decide_false]; rfl) ?_))
    refine WO.nil ?_
    simp only [Then]
    refine WC.no (by simp only [go_sem]) (WC.skip ?_)
    simp only [Then]
    refine WC.seq (WC.region ?_)
    repeat (first
      | (refine WO.yes rfl ?_)
      | (refine WO.no rfl ?_; simp only [pt])
      | (refine WO.op (by intro; simp only [go_sem, Zz.look, fillP, over, cut]; rfl) ?_; simp only [pt])
      | (refine WO.opN (by intro; simp only [go_sem, Zz.look, storeAt, over, setBlk, cut]; rfl) ?_))
    refine WO.op (by intro; rw [ev_makeSlice]; exact if_pos hmk) ?_
    simp only [pt, Int.toNat_natCast]
    repeat (first
      | (refine WO.yes rfl ?_)
      | (refine WO.no rfl ?_; simp only [pt])
      | (refine WO.op (by intro; simp only [go_sem, Zz.look, fillP, over, cut]; rfl) ?_; simp only [pt])
      | (refine WO.opN (by intro; simp only [go_sem, Zz.look, storeAt, over, setBlk, cut]; rfl) ?_))
    refine WO.nil ?_
    simp only [Then]
    refine WC.seq (WC.region ?_)
    repeat (first
      | (refine WO.yes rfl ?_)
      | (refine WO.no rfl ?_; simp only [pt])
      | (refine WO.op (by intro; simp only [go_sem, Zz.look, fillP, over, cut]; rfl) ?_; simp only [pt])
      | (refine WO.opN (by intro; simp only [go_sem, Zz.look, storeAt, over, setBlk, cut]; rfl) ?_))
    refine WO.nil ?_
    simp only [Then]
    refine WC.seq (WC.seq (WC.region ?_))
    repeat (first
      | (refine WO.yes rfl ?_)
      | (refine WO.no rfl ?_; simp only [pt])
      | (refine WO.op (by intro; simp only [go_sem, Zz.look, fillP, over, cut]; rfl) ?_; simp only [pt])
      | (refine WO.opN (by intro; simp only [go_sem, Zz.look, storeAt, over, setBlk, cut]; rfl) ?_))
    refine WO.nil ?_
    simp only [Then]
    refine WC.block ((hloop _ ?_ _ _ _ _ _ _ _ _ _ _ _ _ _ _ _ _ _ _ _ _ _ _ _ _ _ _ _ _ _ _ _ _ _ _ _ _ _ _ _ _ _ _ _ _ _ _ _ _ _ _ _ _ _ _ _ _ _ _ _ _ _ _ _ _ _ _ _ _ _ _ _ _ _ _ _ _ _ _ _ _ _ _ _ _ _ _ _ _ _ _ _ _ _ _ _ _ _ _ _ _ _ _ _ _ _ _ _ _ _ _ _ _ _ _ _ _ _ _ _ _ _ _ _ _ _ _ _ _ _ _ _ _ _ _ _ _ _ _ _ _ _ _ _ _ _ _).mono ?_)
    · have hz := zeros_ints sn
      have hg0 : gotW sn qs 0 = List.replicate sn 0 := by simp [gotW]
      refine ⟨rfl, rfl, 1, 0, 0, some sn, rfl, by show 1 < 4; omega, ?_⟩
      rw [hg0]
      refine ⟨by simp [slen], ?_, by simp, fun k g o s c cap e => by cases e; rfl⟩
      show (cut (zeros [AV.int .i64 0] sn) 0 (sn * 1)) = _
      unfold cut
      rw [hz, if_pos (by simp)]
      simp [List.take_of_length_le]
    · rintro e ⟨T', H', L'⟩ ⟨rfl, hL, hW, t0, t1, t2, t3, t4, t6, t7⟩
      simp only at hL hW t0 t1 t2 t3 t4 t6 t7
      obtain ⟨f, hT⟩ := as153 t0 t1 t2 t3 t4 t6 t7
      subst hL
      subst hT
      simp only [Out, if_true, Then]
      have hm0 := hW.m0
      have hm3 := hW.m3
      have hvc := hhv1.cells
      simp only [AV.cells] at hvc
      have a0 : Zz.look (H' ++ [some (Blk.mk 0 [.int .i64 0, .snil])]) H'.length 0 = some [.int .i64 0, .snil] := by rw [look_right0]; rfl
      have a1 : ∀ b, Zz.look (H' ++ [some (Blk.mk 0 b)]) H'.length 0 = some b := fun b => by rw [look_right0]; rfl
      have a2 : ∀ x y, (H' ++ [x]).set H'.length y = H' ++ [y] := fun x y => by rw [List.set_append_right (h := Nat.le_refl _)]; simp
      have a3 : ∀ R, Zz.look (H' ++ R) 0 0 = some [.int .i64 (sn : Int), q] := fun R => by rw [look_left (look_lt hm0)]; exact hm0
      refine WC.seq (WC.region ?_)
      repeat (first
        | (refine WO.yes rfl ?_)
        | (refine WO.no rfl ?_; simp only [pt])
        | (refine WO.op (by intro; simp only [go_sem, fillP, over, cut, nilCheckAV, hm0, hm3]; rfl) ?_; simp only [pt])
        | (refine WO.op (by intro; exact ev_lenS rfl) ?_; simp only [pt])
        | (refine WO.opN (by intro; simp only [go_sem, storeAt, Option.bind_eq_bind, over, setBlk, cut, hm0, hm3]; rfl) ?_))
      refine WO.call rfl rfl (WF.spec rfl (hear _) ?_)
      simp only [pt]
      repeat (first
        | (refine WO.yes rfl ?_)
        | (refine WO.no rfl ?_; simp only [pt])
        | (refine WO.op (by intro; simp only [go_sem, fillP, over, cut, nilCheckAV, hvc, a0, a2]; rfl) ?_; simp only [pt])
        | (refine WO.op (by intro; exact ev_lenS rfl) ?_; simp only [pt])
        | (refine WO.opN (by intro; simp only [go_sem, storeAt, Option.bind_eq_bind, over, setBlk, cut, hvc, a0, a2]; rfl) ?_))
      refine WO.nil ?_
      simp only [Then, List.take, List.drop, List.nil_append, List.append_nil, List.cons_append, List.length_cons, List.length_nil, Nat.zero_add, Nat.reduceAdd, a2]
      refine WC.seq (WC.draw (WD.calmN 17 rfl ?_))
      simp only [List.take, List.drop, List.map]
      repeat (first
        | (refine WO.yes rfl ?_)
        | (refine WO.no rfl ?_; simp only [pt])
        | (refine WO.op (by intro; simp only [go_sem, fillP, over, cut, nilCheckAV, a1, a3, beq_self_eq_true]; rfl) ?_; simp only [pt])
        | (refine WO.op (by intro; exact ev_lenS rfl) ?_; simp only [pt])
        | (refine WO.opN (by intro; simp only [go_sem, storeAt, Option.bind_eq_bind, over, setBlk, cut, a1, a3, beq_self_eq_true]; rfl) ?_))
      refine WO.op (by intro; exact ev_lenS (n := w) (by simp only [go_sem]; exact hlen)) ?_
      simp only [pt]
      repeat (first
        | (refine WO.yes rfl ?_)
        | (refine WO.no rfl ?_; simp only [pt])
        | (refine WO.op (by intro; simp only [go_sem, fillP, over, cut, nilCheckAV, a3, hwr]; rfl) ?_; simp only [pt])
        | (refine WO.op (by intro; exact ev_lenS rfl) ?_; simp only [pt])
        | (refine WO.opN (by intro; simp only [go_sem, storeAt, Option.bind_eq_bind, over, setBlk, cut, a3, hwr]; rfl) ?_))
      refine WO.op (by intro; exact ev_lenS (n := w) (by simp only [go_sem]; exact hlen)) ?_
      simp only [pt]
      refine WO.yes rfl ?_
      refine WO.op (by intro; rw [ev_slice]; exact (congrArg (Option.map _) (hfrom _)).trans rfl) ?_
      simp only [pt]
      refine WO.nil ?_
      intro seen
      refine WD.yes rfl (WD.callP (WF.spec (S := borrowE Gs 13) rfl (g5 _) ⟨dead_self _, ?_⟩))
      intro seen
      refine WD.calmN 2 rfl ?_
      simp only [List.take, List.drop, List.map, St.put, pt]
      repeat (first
        | (refine WO.yes rfl ?_)
        | (refine WO.no rfl ?_; simp only [pt])
        | (refine WO.op (by intro; simp only [go_sem, fillP, over, cut, nilCheckAV]; rfl) ?_; simp only [pt])
        | (refine WO.op (by intro; exact ev_lenS rfl) ?_; simp only [pt])
        | (refine WO.opN (by intro; simp only [go_sem, storeAt, Option.bind_eq_bind, over, setBlk, cut]; rfl) ?_))
      refine WO.nil ?_
      intro seen
      refine WD.nil ?_
      simp only [Then]
      exact WC.ret ⟨_, rfl, by simp [oneRes, gt]⟩
  · rw [show outE s qs = 1 from if_neg hv] at hout
    have h10 : ((1 : Int) != 0) = true := by decide
    unfold ir8
    simp only [padTo, List.replicate, List.nil_append, List.append_nil, List.cons_append]
    refine WC.seq (WC.region ?_)
    repeat (first
      | (refine WO.yes rfl ?_)
      | (refine WO.no rfl ?_; simp only [pt])
      | (refine WO.op (by intro; simp only [go_sem, Zz.look, fillP, over, cut]; rfl) ?_; simp only [pt])
      | (refine WO.opN (by intro; simp only [go_sem, Zz.look, storeAt, over, setBlk, cut]; rfl) ?_))
    refine WO.nil ?_
    simp only [Then]
    refine WC.seq (WC.region ?_)
    refine WO.call rfl rfl (WF.spec rfl (spec10 _) ?_)
    simp only [pt]
    repeat (first
      | (refine WO.yes rfl ?_)
      | (refine WO.no rfl ?_; simp only [pt])
      | (refine WO.op (by intro; simp only [go_sem, Zz.look, fillP, over, cut]; rfl) ?_; simp only [pt])
      | (refine WO.opN (by intro; simp only [go_sem, Zz.look, storeAt, over, setBlk, cut]; rfl) ?_))
    refine WO.nil ?_
    simp only [Then]
    refine WC.seq (WC.region ?_)
    repeat (first
      | (refine WO.yes rfl ?_)
      | (refine WO.no rfl ?_; simp only [pt])
      | (refine WO.op (by intro; simp only [go_sem, Zz.look, fillP, over, cut]; rfl) ?_; simp only [pt])
      | (refine WO.opN (by intro; simp only [go_sem, Zz.look, storeAt, over, setBlk, cut]; rfl) ?_))
    refine WO.call rfl rfl (WF.spec rfl (hout _) ?_)
    simp only [pt]
    repeat (first
      | (refine WO.yes rfl ?_)
      | (refine WO.no rfl ?_; simp only [pt])
      | (refine WO.op (by intro; simp only [go_sem, Zz.look, fillP, over, cut]; rfl) ?_; simp only [pt])
      | (refine WO.opN (by intro; simp only [go_sem, Zz.look, storeAt, over, setBlk, cut]; rfl) ?_))
    refine WO.nil ?_
    simp only [Then]
    refine WC.seq (WC.seq (WC.region ?_))
    repeat (first
      | (refine WO.yes rfl ?_)
      | (refine WO.no rfl ?_; simp only [pt])
      | (refine WO.op (by intro; simp only [go_sem, Zz.look, fillP, over, cut, h10]; rfl) ?_; simp only [pt])
      | (refine WO.opN (by intro; simp only [go_sem, Zz.look, storeAt, over, setBlk, cut, h10]; rfl) ?_))
    refine WO.nil ?_
    simp only [Then]
    refine WC.yes (by simp only [go_sem]) (WC.seq (WC.region ?_))
    repeat (first
      | (refine WO.yes rfl ?_)
      | (refine WO.no rfl ?_; simp only [pt])
      | (refine WO.op (by intro; simp only [go_sem, Zz.look, fillP, over, cut, beq_self_eq_true]; rfl) ?_; simp only [pt])
      | (refine WO.opN (by intro; simp only [go_sem, Zz.look, storeAt, over, setBlk, cut, beq_self_eq_true]; rfl) ?_))
    refine WO.nil ?_
    simp only [Then]
    exact WC.ret ⟨_, rfl, by simp [oneRes, gt]⟩
end Go.Proofs.Ytpddngcgajjacaa

