import Derived.Test.YtgchabldcnmccacGreatDoorHB

set_option linter.unusedSimpArgs false
set_option linter.unusedVariables false

namespace Go.Proofs.YtgchabldcnmccacGreatDoor
open Go.Zz
set_option maxRecDepth 100000
set_option maxHeartbeats 8000000
theorem WT_callMove {Γ : Env} {tch : List Tch} {T : List AV} {H : Hp} {L : List (Option ALoop)} {Q : St → Prop} {d d' : Nat} {f : Opd} {args : List Opd}
  (h : WF Γ (f.ev T) (args.map (·.ev T)) ⟨H, L⟩ fun v m' => stillDead H m'.heap = true ∧ Q ⟨pt (pt T d v) d' (gt (pt T d v) d), m'.heap, m'.loops⟩) :
  WT Γ [⟨⟨none, some d, .call f args⟩, []⟩, ⟨⟨none, some d', .move (.tmp d)⟩, []⟩] ⟨T, H, L⟩ tch Q :=
 ⟨fun seen hs => WD.callP (h.mono fun v m' hv => ⟨hv.1, fun _ => WD.free rfl (fun _ => rfl) (WD.nil hv.2)⟩)⟩
def mbody (q : Mg) : List Int := [4, 8 * q.f + q.t, q.s] ++ dig q.b.toNat ++ [3 * q.v.c + q.v.n + 1, q.v.d]
def mhead (q : Mg) : List Int := ((mbody q).length : Int) :: mbody q
def enc (q : Mg) : List Int := mhead q ++ sumB (crc (mhead q))
theorem u8w {x : Int} (h : 0 ≤ x ∧ x < 256) : IntKind.u8.wrap x = x := by
 obtain ⟨n, rfl⟩ := Int.eq_ofNat_of_zero_le h.1
 exact wrap_u8 (by omega)
theorem or38 : ∀ f < 8, ∀ t < 8, IntKind.i64.wrap (BitVec.ofInt 64 ((8 * f : Nat) : Int) ||| BitVec.ofInt 64 ((t : Nat) : Int)).toNat = ((8 * f + t : Nat) : Int) := by decide +kernel
theorem shl3 : ∀ f < 8, IntKind.i64.wrap (((f : Nat) : Int) * 2 ^ min (3 : Int).toNat 64) = ((8 * f : Nat) : Int) := by decide +kernel
theorem ev_or38 {call} {T : List AV} {m : Mem} {x y : Opd} {f t : Nat} (hx : x.ev T = .int .i64 ((8 * f : Nat) : Int)) (hy : y.ev T = .int .i64 (t : Int)) (hf : f < 8) (ht : t < 8) : evOp call T m (.bin .or x y) = some (.int .i64 ((8 * f + t : Nat) : Int), m) := by
 rw [ev_bin, hx, hy]
 show (some (AV.int .i64 (IntKind.i64.wrap (BitVec.ofInt 64 ((8 * f : Nat) : Int) ||| BitVec.ofInt 64 (t : Int)).toNat))).map _ = _
 rw [or38 f hf t ht]
 rfl
theorem ev_shl3 {call} {T : List AV} {m : Mem} {x y : Opd} {f : Nat} (hx : x.ev T = .int .i64 (f : Int)) (hy : y.ev T = .int .u64 3) (hf : f < 8) : evOp call T m (.bin .shl x y) = some (.int .i64 ((8 * f : Nat) : Int), m) := by
 rw [ev_bin, hx, hy]
 have e := shl3 f hf
 show ((if (3 : Int) < 0 then none else some (AV.int .i64 (IntKind.i64.wrap ((f : Int) * 2 ^ min (3 : Int).toNat 64)))).map _) = _
 rw [if_neg (by omega), e]
 rfl
theorem two_cells {X : Hp} {x y : Int} : Zz.scells (X ++ [some ⟨0, [.int .u8 x, .int .u8 y]⟩]) 1 (.sref X.length 0 0 1 2 (some 2)) = some (uB [x, y]) := by
 have : Zz.look (X ++ [some ⟨0, [.int .u8 x, .int .u8 y]⟩]) X.length 0 = some [.int .u8 x, .int .u8 y] := by simp [Zz.look]
 simp only [Zz.scells, if_true, this, Option.bind_some]
 rfl
theorem four_cells {X : Hp} {x y z w : Int} : Zz.scells (X ++ [some ⟨0, [.int .u8 x, .int .u8 y, .int .u8 z, .int .u8 w]⟩]) 1 (.sref X.length 0 0 1 4 (some 4)) = some (uB [x, y, z, w]) := by
 have : Zz.look (X ++ [some ⟨0, [.int .u8 x, .int .u8 y, .int .u8 z, .int .u8 w]⟩]) X.length 0 = some [.int .u8 x, .int .u8 y, .int .u8 z, .int .u8 w] := by simp [Zz.look]
 simp only [Zz.scells, if_true, this, Option.bind_some]
 rfl
theorem buf_head {n x : Int} {bs : List Int} : Zz.over (buf (x :: bs)) 0 [.int .u8 n] = some (buf (n :: bs)) := by
 simp [Zz.over, buf, uB]
theorem buf_cut {bs : List Int} (h : bs.length ≤ 16) : Zz.cut (buf bs) 0 (bs.length * 1) = some (uB bs) := by
 have := buf_len h
 unfold Zz.cut
 rw [if_pos (by omega)]
 simp only [buf, uB, List.map_append, List.drop_zero, Nat.mul_one, Option.some.injEq]
 exact List.take_left' (by simp)
theorem buf_byVal {X : Hp} {id : Nat} {bs : List Int} (hl : Zz.look X id 0 = some (buf bs)) (h : bs.length ≤ 16) : Zz.byVal X (.sref id 0 0 1 bs.length (some 16)) = some (.sval (some 16 == some bs.length) bs.length (uB bs)) := by
 simp only [Zz.byVal, Zz.byC, hl, buf_cut h, uB_flat, if_true]
theorem buf_newA {X : Hp} {id : Nat} {bs : List Int} (hl : Zz.look X id 0 = some (buf bs)) (h : bs.length < 16) : Zz.newA X (.sref id 0 0 1 bs.length (some 16)) = some (.sval false bs.length (uB bs)) := by
 have e : (some 16 == some bs.length) = false := by
  have : ¬ (16 = bs.length) := by omega
  simp [this]
 simp only [Zz.newA, Zz.newC, hl, buf_cut (Nat.le_of_lt h), uB_flat, if_true, e]
theorem newV_two {H : Hp} {v x : AV} {c : Int} (h : Zz.newA H v = some x) : newV H (.tuple [v, .int .i64 c]) = some (.tuple [x, .int .i64 c]) := by
 simp only [Zz.newV, Zz.newT, h]
 rfl
theorem g7 {q : Mg} (h : MgOk q) : WF X2 (.func 7 [] []) [.agg q.cells] ⟨[], []⟩ fun y m' => newV m'.heap y = some (.tuple [.sval false (enc q).length (uB (enc q)), .int .i64 0]) := by
 have hs16 := fun m => s16 (m := m) h
 obtain ⟨k, f, t, s, b, w, v⟩ := q
 obtain ⟨rfl, ⟨h1, h2⟩, ⟨h3, h4⟩, h5, ⟨h6, h7⟩, ⟨h8, h9⟩, rfl, h10, h11⟩ := h
 simp only at h1 h2 h3 h4 h5 h6 h7 h8 h9 h11
 obtain ⟨vs, vc, vn, vd⟩ := v
 simp only at h11
 subst h11
 obtain ⟨f, rfl⟩ := Int.eq_ofNat_of_zero_le h1
 obtain ⟨t, rfl⟩ := Int.eq_ofNat_of_zero_le h3
 obtain ⟨b, rfl⟩ := Int.eq_ofNat_of_zero_le (show 0 ≤ b by omega)
 have hf8 : f < 8 := by omega
 have ht8 : t < 8 := by omega
 have w1 := u8w (x := ((8 * f + t : Nat) : Int)) (by omega)
 have w2 := u8w (x := vs) (by omega)
 have w3 : IntKind.u8.wrap 4 = 4 := by decide
 simp only [Mg.cells, Tk.cells] at hs16 ⊢
 have hz16 : Zz.zeros [(.int .u8 0 : AV)] 16 = buf [] := rfl
 refine WF.fnE rfl (fn_of Tryz.func7 cir7) (by show 1 ≤ 78; decide) ?_
 unfold ir7; dsimp only [k0, kI, mV, oO, oG]
 simp only [padTo, List.replicate, List.nil_append, List.append_nil]
 repeat' (first | (refine WT.free rfl (by intro; exact ev_shl3 rfl rfl hf8) rfl (by simp only [pt8, pt1]; rfl) ?_) | (refine WT.free rfl (by intro; exact ev_or38 rfl rfl hf8 ht8) rfl (by simp only [pt8, pt4]; rfl) ?_) | (refine WO.opE (by intro; simp (disch := omega) only [go_sem, Zz.look, Zz.cut, Nat.reduceAdd, Nat.reduceLeDiff, Int.reduceToNat, hz16]; rfl) (by simp only [pt8, pt1, pt2, pt3, pt4, pt7]; rfl) ?_) | (refine WO.specE rfl rfl (hs16 _) (by simp only [pt8, pt0]; rfl) ?_) | (refine WC.seq ?_) | (refine WC.region ?_) | (refine WO.nil ?_) | (simp only [fl1]) | (refine WC.drawT ?_) | (refine WT.free rfl (by intro; simp (disch := omega) only [go_sem, Zz.look, Zz.cut, fillP, Option.bind_eq_bind, Nat.reduceAdd, w1, w2, w3]; rfl) rfl (by simp only [pt8, pt0, pt2, pt3, pt4, pt5, pt6, pt7]; rfl) ?_) | (refine WT.big rfl rfl (by intro; simp (disch := omega) only [go_sem, Zz.look, Zz.cut, fillP, Option.bind_eq_bind, Nat.reduceAdd]; rfl) (by simp (disch := omega) only [go_sem, Nat.reduceAdd, touch]; rfl) (by first | exact .inl rfl | exact .inr (apart_nil _) | exact .inr trivial | (right; apply apart_mk; simp only [apartL, List.nil_append, List.cons_append, List.getElem?_cons_succ, List.getElem?_cons_zero, Tch.free, and_true]; first | done | omega)) (by simp only [pt8, pt0, pt1, pt2, pt3, pt4, pt5, pt7]; rfl) ?_) | (refine WC.no rfl ?_) | (refine WC.skip ?_))
 refine WT.append rfl rfl (app_buf (bs := []) (xs := [0, 4, ((8 * f + t : Nat) : Int), vs]) rfl rfl rfl (by simp)) (apart_mk (by simp only [apartL, List.nil_append, List.cons_append, List.getElem?_cons_succ, List.getElem?_cons_zero, Tch.free, and_true]; first | done | decide)) (apart_mk (by simp only [apartL, List.nil_append, List.cons_append, List.getElem?_cons_succ, List.getElem?_cons_zero, Tch.free, and_true]; first | done | decide)) (by simp only [pt8, pt2]; rfl) ?_
 have hbn : b < 2097152 := by omega
 refine WT_callMove ((f17 (bs := [] ++ [0, 4, ((8 * f + t : Nat) : Int), vs]) (n := b) rfl (by simp) hbn).mono ?_)
 rintro y m' ⟨rfl, R, rfl⟩
 refine ⟨dead_setS (b0 := ⟨0, buf ([] ++ [0, 4, ((8 * f + t : Nat) : Int), vs])⟩) rfl _, ?_⟩
 simp only [pt8, pt4, pt5, gt8, gt5, List.nil_append, List.set_cons_zero, List.set_cons_succ, List.cons_append]
 have hdl := dig_len hbn
 have hdB := dig_byte hbn
 obtain ⟨hn1, hn2, hn3, hn4, hn5, hn6, hn7⟩ := h10
 simp only at hn1 hn2 hn3 hn4 hn5 hn6 hn7
 have he : enc ⟨4, (f : Int), (t : Int), vs, (b : Int), 0, ⟨vs, vc, vn, vd⟩⟩ = (((dig b).length + 5 : Nat) : Int) :: 4 :: ((8 * f + t : Nat) : Int) :: vs :: (dig b ++ [3 * vc + vn + 1, vd] ++ sumB (crc ((((dig b).length + 5 : Nat) : Int) :: 4 :: ((8 * f + t : Nat) : Int) :: vs :: (dig b ++ [3 * vc + vn + 1, vd])))) := by
  have e5 : (((dig b).length : Nat) : Int) + 2 + 1 + 1 + 1 = (((dig b).length : Nat) : Int) + 5 := by omega
  simp [enc, mhead, mbody, e5]
 rw [he]
 clear he
 generalize hD : dig b = D at *
 have w4 := u8w (x := 3 * vc + vn + 1) (by omega)
 have w5 := u8w (x := vd) (by omega)
 have w6 : IntKind.u8.wrap ((D.length + 5 : Nat) : Int) = ((D.length + 5 : Nat) : Int) := u8w (by omega)
 generalize hY : (some ⟨0, [AV.int .i64 4, .int .i64 f, .int .i64 t, .int .i64 vs, .int .i64 b, .int .i64 0, .int .i64 vs, .int .i64 vc, .int .i64 vn, .int .i64 vd]⟩ :: some ⟨0, buf (0 :: 4 :: ((8 * f + t : Nat) : Int) :: vs :: D)⟩ :: some ⟨0, _⟩ :: R : Hp) = Y
 have hY0 : Zz.look Y 0 0 = some [AV.int .i64 4, .int .i64 f, .int .i64 t, .int .i64 vs, .int .i64 b, .int .i64 0, .int .i64 vs, .int .i64 vc, .int .i64 vn, .int .i64 vd] := by rw [← hY]; rfl
 have hY1 : Zz.look Y 1 0 = some (buf (0 :: 4 :: ((8 * f + t : Nat) : Int) :: vs :: D)) := by rw [← hY]; rfl
 clear hY
 have hY0a : ∀ Z, Zz.look (Y ++ Z) 0 0 = some [AV.int .i64 4, .int .i64 f, .int .i64 t, .int .i64 vs, .int .i64 b, .int .i64 0, .int .i64 vs, .int .i64 vc, .int .i64 vn, .int .i64 vd] := fun Z => look_appR hY0
 have hce : cellsEq [true, true, true, true] [.int .i64 vs, .int .i64 vc, .int .i64 vn, .int .i64 vd] [.int .i64 0, .int .i64 0, .int .i64 0, .int .i64 0] = some false := by
  have : ¬ vs = 0 := by omega
  simp [cellsEq, cellEq, this]
 have ho4 : ∀ {y0 y1 y2 y3 x0 x1 x2 x3 : AV}, Zz.over [y0, y1, y2, y3] 0 [x0, x1, x2, x3] = some [x0, x1, x2, x3] := fun {_ _ _ _ _ _ _ _} => by simp [Zz.over]
 have happ2 := app_buf (L := []) (bs := 0 :: 4 :: ((8 * f + t : Nat) : Int) :: vs :: D) (xs := [3 * vc + vn + 1, vd]) (look_appR (Y := [some ⟨0, [.int .u8 (3 * vc + vn + 1), .int .u8 vd]⟩]) (look_appR (Y := [some ⟨0, [.int .i64 vs, .int .i64 vc, .int .i64 vn, .int .i64 vd]⟩]) hY1)) two_cells rfl (by simp; omega)
 have hl1 : ∀ a : Option Blk, (Y ++ [a]).length = Y.length + 1 := fun a => by simp
 rw [hl1] at happ2
 repeat' (first | (refine WO.opE (by intro; simp (disch := omega) only [go_sem, Zz.cut, List.length_append, fillP, Option.bind_eq_bind, Nat.reduceAdd, Nat.reduceLeDiff, hY0, lk0, hce, w4, w5]; rfl) (by simp only [pt8, pt0, pt1, pt2, pt3, pt4, pt5, pt6, pt7]; rfl) ?_) | (refine WO.opN (by intro; simp (disch := omega) only [go_sem, Option.bind_eq_bind, Nat.reduceAdd, lk0, st0, ho4, setBlk]; rfl) ?_) | (refine WC.seq ?_) | (refine WC.region ?_) | (refine WO.nil ?_) | (simp only [fl1]) | (refine WC.yes rfl ?_) | (refine WC.no rfl ?_) | (refine WC.skip ?_))
 refine WO.opE (by intro; rw [ev_append]; exact happ2) (by simp only [pt8, pt7]; rfl) ?_
 have hcons : (0 :: 4 :: ((8 * f + t : Nat) : Int) :: vs :: D) ++ [3 * vc + vn + 1, vd] = 0 :: (4 :: ((8 * f + t : Nat) : Int) :: vs :: (D ++ [3 * vc + vn + 1, vd])) := by simp
 have hl7 : (0 :: (4 :: ((8 * f + t : Nat) : Int) :: vs :: (D ++ [3 * vc + vn + 1, vd]))).length = D.length + 6 := by simp
 rw [hcons]
 clear happ2 hcons
 generalize hW : (4 :: ((8 * f + t : Nat) : Int) :: vs :: (D ++ [3 * vc + vn + 1, vd])) = W at *
 have hZ1 : Zz.look (List.set (Y ++ [some ⟨0, [.int .i64 vs, .int .i64 vc, .int .i64 vn, .int .i64 vd]⟩] ++ [some ⟨0, [.int .u8 (3 * vc + vn + 1), .int .u8 vd]⟩]) 1 (some ⟨0, buf (0 :: W)⟩)) 1 0 = some (buf (0 :: W)) := look_set (by have := look_ltR hY1; simp)
 generalize List.set (Y ++ [some ⟨0, [.int .i64 vs, .int .i64 vc, .int .i64 vn, .int .i64 vd]⟩] ++ [some ⟨0, [.int .u8 (3 * vc + vn + 1), .int .u8 vd]⟩]) 1 (some ⟨0, buf (0 :: W)⟩) = Z at *
 have hZs : ∀ l, Zz.look (Z.set 1 (some ⟨0, l⟩)) 1 0 = some l := fun l => look_set (look_ltR hZ1)
 obtain ⟨ln, hln⟩ : ∃ ln, ln = (0 :: W).length := ⟨_, rfl⟩
 have hW16 : (((D.length + 5 : Nat) : Int) :: W).length ≤ 16 := by simp at hl7 ⊢; omega
 have hs18 := s45 (m := ⟨Z.set 1 (some ⟨0, buf (((D.length + 5 : Nat) : Int) :: W)⟩), []⟩) (buf_byVal (hZs _) hW16) (ByS.mk _ _) (by simp at hl7 ⊢; omega)
 have hlw : (((D.length + 5 : Nat) : Int) :: W).length = ln := by rw [hln]; rfl
 have hhd := buf_head (n := ((D.length + 5 : Nat) : Int)) (x := 0) (bs := W)
 have hlm : ((ln : Nat) : Int) - 1 = ((D.length + 5 : Nat) : Int) := by rw [hln, hl7]; omega
 rw [hlw] at hs18
 rw [← hln]
 have hln0 : 0 < ln := by omega
 have hi0 : indexAddrAV 1 (.sref 1 0 0 1 ln (some 16)) (.int .i64 0) = some (.pref 1 0 0) := by
  simp [indexAddrAV, idx, hln0]
 generalize hc : crc (((D.length + 5 : Nat) : Int) :: W) = c at *
 have hE : (4 :: ((8 * f + t : Nat) : Int) :: vs :: (D ++ [3 * vc + vn + 1, vd] ++ sumB c)) = W ++ sumB c := by rw [← hW]; simp
 rw [hE]
 repeat' (first | (refine WO.opE (by intro; simp (disch := omega) only [go_sem, fillP, Option.bind_eq_bind, Nat.reduceAdd, Int.reduceToNat, reduceCtorEq, hlm, hi0, w6]; rfl) (by simp only [pt8, pt0, pt1, pt2, pt3, pt4, pt5, pt6, pt7]; rfl) ?_) | (refine WO.opN (by intro; simp (disch := omega) only [go_sem, Option.bind_eq_bind, Nat.reduceAdd, hZ1, hhd, setBlk]; rfl) ?_) | (refine WO.specE rfl rfl (hs18) (by simp only [pt8, pt7]; rfl) ?_) | (refine WC.seq ?_) | (refine WC.region ?_) | (refine WO.nil ?_) | (simp only [fl1]))
 have happ4 := app_buf (L := []) (bs := ((D.length + 5 : Nat) : Int) :: W) (xs := sumB c) (look_appR (Y := [some ⟨0, uB (sumB c)⟩]) (hZs (buf (((D.length + 5 : Nat) : Int) :: W)))) (four_cells (x := u8 (c.fdiv 16777216)) (y := u8 (c.fdiv 65536)) (z := u8 (c.fdiv 256)) (w := u8 c)) rfl (by simp [sumB] at hl7 ⊢; omega)
 rw [hlw] at happ4
 have hlen4 : ((((D.length + 5 : Nat) : Int) :: W) ++ sumB c).length < 16 := by simp [sumB] at hl7 ⊢; omega
 have hres : Zz.look (List.set (Z.set 1 (some ⟨0, buf (((D.length + 5 : Nat) : Int) :: W)⟩) ++ [some ⟨0, uB (sumB c)⟩]) 1 (some ⟨0, buf ((((D.length + 5 : Nat) : Int) :: W) ++ sumB c)⟩)) 1 0 = some (buf ((((D.length + 5 : Nat) : Int) :: W) ++ sumB c)) := look_set (by have := look_ltR hZ1; simp; omega)
 have hfin := newV_two (c := 0) (buf_newA hres hlen4)
 refine WO.opE (by intro; rw [ev_append]; exact happ4) (by simp only [pt8, pt5]; rfl) ?_
 repeat' (first | (refine WO.opE (by intro; simp (disch := omega) only [go_sem, List.length_append, Nat.reduceAdd]; rfl) (by simp only [pt2, pt3]; rfl) ?_) | (refine WO.nil ?_) | (refine WC.ret ?_))
 have hlf : ((((D.length + 5 : Nat) : Int) :: W) ++ sumB c).length = W.length + (sumB c).length + 1 := by simp only [List.cons_append, List.length_cons, List.length_append]
 refine ⟨_, rfl, ?_⟩
 show newV _ (.tuple [.sref 1 0 0 1 (W.length + (sumB c).length + 1) (some 16), .int .i64 0]) = _
 rw [← hlf]
 exact hfin
theorem x7 {q : Mg} (h : MgOk q) {m : Mem} : borrowX X2 7 [.agg q.cells] m = some (.tuple [.sval false (enc q).length (uB (enc q)), .int .i64 0], m) :=
 borrowX_of (byVals_cons rfl rfl) (g7 h)
noncomputable def X3 : Env := X2.put 7 (borrowX X2 7)
theorem X3_ok : EnvOk Tryz.prog X3 := Env.put_ok X2_ok (borrowX_ok X2_ok (callable Tryz.func7 (by kernel_rfl)))
set_option maxRecDepth 100000
set_option maxHeartbeats 8000000
def ByOk (bs : List Int) : Prop := ∀ x ∈ bs, 0 ≤ x ∧ x < 256
theorem u8i {x : Int} (h : 0 ≤ x ∧ x < 256) : IntKind.i64.wrap x = x := wrap_id (by omega) (by omega)
theorem bnth_drop {bs r : List Int} {i : Nat} {x : Int} (h : bs.drop i = x :: r) : bnth bs i = x ∧ i < bs.length ∧ bs.drop (i + 1) = r := by
 have hi : i < bs.length := by
  apply Nat.lt_of_not_le
  intro hn
  rw [List.drop_eq_nil_of_le hn] at h
  cases h
 rw [drop_cons hi] at h
 cases h
 exact ⟨by simp [bnth, hi], hi, rfl⟩
theorem f74 {H : Hp} {L : List (Option ALoop)} {id at_ : Nat} {x : AV} {bs : List Int} (hl : Zz.look H id 0 = some [x, .int .i64 (at_ : Nat)]) (hx : ByS x bs) (ha : at_ < bs.length) (hlen : bs.length ≤ 1000000) (hb : 0 ≤ bnth bs at_ ∧ bnth bs at_ < 256) :
  WF X3 (.func 74 [] []) [.pref id 0 0] ⟨H, L⟩ fun y m' => y = .tuple [.int .i64 (bnth bs at_), .inil] ∧ m' = ⟨H.set id (some ⟨0, [x, .int .i64 (at_ + 1 : Nat)]⟩), L⟩ := by
 have hid := look_ltR hl
 have hat := hx.at ha
 have hw := u8i hb
 have hst : ∀ l, Zz.look (H.set id (some ⟨0, l⟩)) id 0 = some l := fun l => look_set hid
 have hov : Zz.over [x, AV.int .i64 (at_ : Nat)] (0 + 1) [.int .i64 (at_ + 1 : Nat)] = some [x, .int .i64 (at_ + 1 : Nat)] := by simp [Zz.over]
 have hw2 : IntKind.i64.wrap ((at_ : Int) + 1) = ((at_ + 1 : Nat) : Int) := by rw [wrap_id (by omega) (by omega)]; omega
 have hw3 : IntKind.i64.wrap (((at_ + 1 : Nat) : Int) - 1) = ((at_ : Nat) : Int) := by rw [wrap_id (by omega) (by omega)]; omega
 generalize bnth bs at_ = b at *
 refine WF.fnE rfl (fn_of Tryz.func74 cir74) (by show 1 ≤ 39; decide) ?_
 unfold ir74; dsimp only [k0, kI, mV, oO, oG]
 simp only [padTo, List.replicate, List.nil_append, List.append_nil]
 repeat' (first | (refine WO.opE (by intro; simp (disch := omega) only [go_sem, hl, hst, hat, hw, hw2, hw3]; rfl) (by simp only [pt8, pt0, pt1, pt2, pt3, pt4, pt5, pt6, pt7]; rfl) ?_) | (refine WO.opN (by intro; simp (disch := omega) only [go_sem, Option.bind_eq_bind, hl, hov, setBlk]; rfl) ?_) | (refine WO.opE (by intro; exact ev_lenS (by simp only [go_sem]; exact hx.len)) (by simp only [pt8, pt4]; rfl) ?_) | (refine WC.seq ?_) | (refine WC.region ?_) | (refine WO.nil ?_) | (simp only [fl1]) | (refine WC.calm rfl ?_) | (refine WC.skip ?_) | (refine WC.ret ?_) | (refine WC.em2 rfl (fun hp => ?_) (fun hp => ?_) <;> try (exfalso; first | omega | contradiction)))
 exact ⟨_, rfl, rfl, rfl⟩
theorem shlD0 : ∀ d < 128, IntKind.i64.wrap (((d : Nat) : Int) * 2 ^ min ((0 : Nat) : Int).toNat 64) = ((1 * d : Nat) : Int) := by decide +kernel
theorem shlD7 : ∀ d < 128, IntKind.i64.wrap (((d : Nat) : Int) * 2 ^ min ((7 : Nat) : Int).toNat 64) = ((128 * d : Nat) : Int) := by decide +kernel
theorem shlD14 : ∀ d < 128, IntKind.i64.wrap (((d : Nat) : Int) * 2 ^ min ((14 : Nat) : Int).toNat 64) = ((16384 * d : Nat) : Int) := by decide +kernel
def Kp (k p : Nat) : Prop := (k = 0 ∧ p = 1) ∨ (k = 7 ∧ p = 128) ∨ (k = 14 ∧ p = 16384)
theorem ev_shlD {call} {T : List AV} {m : Mem} {x y : Opd} {d k p : Nat} (hx : x.ev T = .int .i64 (d : Int)) (hy : y.ev T = .int .i64 (k : Int)) (hd : d < 128) (hk : Kp k p) : evOp call T m (.bin .shl x y) = some (.int .i64 ((p * d : Nat) : Int), m) := by
 rw [ev_bin, hx, hy]
 have e : IntKind.i64.wrap ((d : Int) * 2 ^ min (k : Int).toNat 64) = ((p * d : Nat) : Int) := by
  rcases hk with ⟨rfl, rfl⟩ | ⟨rfl, rfl⟩ | ⟨rfl, rfl⟩
  ·exact shlD0 d hd
  ·exact shlD7 d hd
  ·exact shlD14 d hd
 show ((if (k : Int) < 0 then none else some (AV.int .i64 (IntKind.i64.wrap ((d : Int) * 2 ^ min (k : Int).toNat 64)))).map _) = _
 rw [if_neg (by omega), e]
 rfl
theorem ev_orD {call} {T : List AV} {m : Mem} {x y : Opd} {a d k p : Nat} (hx : x.ev T = .int .i64 (a : Int)) (hy : y.ev T = .int .i64 ((p * d : Nat) : Int)) (hd : d < 128) (hk : Kp k p) (ha : a < p) : evOp call T m (.bin .or x y) = some (.int .i64 ((a + p * d : Nat) : Int), m) := by
 rw [ev_bin, hx, hy]
 show (some (AV.int .i64 (IntKind.i64.wrap (BitVec.ofInt 64 (a : Int) ||| BitVec.ofInt 64 ((p * d : Nat) : Int)).toNat))).map _ = _
 have e1 : BitVec.ofInt 64 (a : Int) = BitVec.ofNat 64 a := by simp
 have e2 : BitVec.ofInt 64 ((p * d : Nat) : Int) = BitVec.ofNat 64 (p * d) := BitVec.ofInt_natCast 64 (p * d)
 have hpd : p * d ≤ 16384 * 127 ∧ a < 16384 := by
  rcases hk with ⟨rfl, rfl⟩ | ⟨rfl, rfl⟩ | ⟨rfl, rfl⟩ <;> omega
 have e3 : a ||| p * d = a + p * d := by
  rw [Nat.or_comm]
  rcases hk with ⟨rfl, rfl⟩ | ⟨rfl, rfl⟩ | ⟨rfl, rfl⟩
  ·exact (Nat.two_pow_add_eq_or_of_lt (i := 0) ha d).symm.trans (Nat.add_comm _ _)
  ·exact (Nat.two_pow_add_eq_or_of_lt (i := 7) ha d).symm.trans (Nat.add_comm _ _)
  ·exact (Nat.two_pow_add_eq_or_of_lt (i := 14) ha d).symm.trans (Nat.add_comm _ _)
 rw [e1, e2, BitVec.toNat_or, BitVec.toNat_ofNat, BitVec.toNat_ofNat, Nat.mod_eq_of_lt (by omega), Nat.mod_eq_of_lt (by omega), e3, wrap_id (by omega) (by omega)]
 rfl
theorem ev_and7 {call} {T : List AV} {m : Mem} {x y : Opd} {b : Int} {n : Nat} (hx : x.ev T = .int .i64 b) (hy : y.ev T = .int .i64 127) (hb : b = (n : Int)) (hn : n < 256) : evOp call T m (.bin .and x y) = some (.int .i64 ((n % 128 : Nat) : Int), m) := by
 subst hb
 exact ev_and127 hx hy (by omega)
theorem f73 {H : Hp} {L : List (Option ALoop)} {id at_ n : Nat} {x : AV} {bs rest : List Int} (hl : Zz.look H id 0 = some [x, .int .i64 (at_ : Nat)]) (hx : ByS x bs) (hd : bs.drop at_ = dig n ++ rest) (hlen : bs.length ≤ 1000000) (hn : n < 2097152) :
  WF X3 (.func 73 [] []) [.pref id 0 0] ⟨H, L⟩ fun y m' => y = .tuple [.int .i64 (n : Nat), .inil] ∧ m' = ⟨H.set id (some ⟨0, [x, .int .i64 (at_ + (dig n).length : Nat)]⟩), L⟩ := by
 have hid := look_ltR hl
 refine WF.fnE rfl (fn_of Tryz.func73 cir73) (by show 1 ≤ 41; decide) ?_
 unfold ir73; dsimp only [k0, kI, mV, oO, oG]
 simp only [padTo, List.replicate, List.nil_append, List.append_nil]
 repeat' (first | (refine WO.opE (by intro; simp (disch := omega) only [go_sem]; rfl) (by simp only [pt2, pt3, pt4, pt5]; rfl) ?_) | (refine WC.seq ?_) | (refine WC.region ?_) | (refine WO.nil ?_) | (simp only [fl1]) | (refine WC.block ?_))
 refine WC.loopI (fun m st => ∃ T q a k p c, st = ⟨T, H.set id (some ⟨0, [x, .int .i64 (c : Nat)]⟩), L⟩ ∧ T.length = 41 ∧ gt T 0 = .pref id 0 0 ∧ gt T 4 = .int .i64 (a : Nat) ∧ gt T 5 = .int .i64 (k : Nat) ∧ m = q ∧ bs.drop c = dig q ++ rest ∧ c + (dig q).length = at_ + (dig n).length ∧ a < p ∧ n = a + p * q ∧ Kp k p ∧ (k = 0 ∨ 0 < q)) ?_ n _ ⟨_, n, 0, 0, 1, at_, by rw [set_sameR hl], rfl, rfl, rfl, rfl, rfl, hd, rfl, by omega, by omega, .inl ⟨rfl, rfl⟩, .inl rfl⟩
 rintro m _ ⟨T, q, a, k, p, c, rfl, hT, g0, g4, g5, hm, hdc, hcl, hap, hnp, hkp, hkq⟩
 obtain ⟨f, rfl⟩ := ex41 hT
 clear hT
 replace g0 : f 0 = .pref id 0 0 := g0
 replace g4 : f 4 = .int .i64 (a : Nat) := g4
 replace g5 : f 5 = .int .i64 (k : Nat) := g5
 simp only [g0, g4, g5]
 have hkb : k < 21 := by rcases hkp with ⟨h, _⟩ | ⟨h, _⟩ | ⟨h, _⟩ <;> omega
 have hq21 : q < 2097152 := by rcases hkp with ⟨_, h⟩ | ⟨_, h⟩ | ⟨_, h⟩ <;> subst h <;> omega
 have hX : Zz.look (H.set id (some ⟨0, [x, .int .i64 (c : Nat)]⟩)) id 0 = some [x, .int .i64 (c : Nat)] := look_set hid
 by_cases hg : 127 < q
 ·rw [dig_big hg, List.cons_append] at hdc
  obtain ⟨hb1, hb2, hb3⟩ := bnth_drop hdc
  have h74 := f74 (L := L) hX hx hb2 hlen (by rw [hb1]; omega)
  rw [hb1, List.set_set] at h74
  have hk14 : k < 14 := by rcases hkp with ⟨_, h⟩ | ⟨_, h⟩ | ⟨h, h'⟩ <;> first | omega | (subst h'; omega)
  have hk' : Kp (k + 7) (p * 128) := by rcases hkp with ⟨h, h'⟩ | ⟨h, h'⟩ | ⟨h, h'⟩ <;> subst h h' <;> first | (exact .inr (.inl ⟨rfl, rfl⟩)) | (exact .inr (.inr ⟨rfl, rfl⟩)) | omega
  have hsm : (q % 128 + 128) % 128 < 128 := Nat.mod_lt _ (by decide)
  have hw1 : IntKind.i64.wrap ((k : Int) + 7) = ((k + 7 : Nat) : Int) := by rw [wrap_id (by omega) (by omega)]; omega
  rw [dig_big hg, List.length_cons] at hcl
  have hnn : n = (a + p * ((q % 128 + 128) % 128)) + p * 128 * (q / 128) := by
   have e : (q % 128 + 128) % 128 = q % 128 := by omega
   rw [e, hnp, Nat.mul_assoc, Nat.add_assoc, ← Nat.mul_add]
   congr 2
   omega
  have hal : a + p * ((q % 128 + 128) % 128) < p * 128 := by
   have e : p * ((q % 128 + 128) % 128) ≤ p * 127 := Nat.mul_le_mul_left _ (by omega)
   omega
  repeat' (first | (refine WO.opE (by intro; exact ev_and7 rfl rfl rfl (by omega)) (by simp only [pt8, pt6]; rfl) ?_) | (refine WO.opE (by intro; exact ev_shlD rfl rfl hsm hkp) (by simp only [pt8, pt0]; rfl) ?_) | (refine WO.opE (by intro; exact ev_orD rfl rfl hsm hkp hap) (by simp only [pt8, pt1]; rfl) ?_) | (refine WO.opE (by intro; simp (disch := omega) only [go_sem, hw1]; rfl) (by simp only [pt8, pt0, pt1, pt2, pt3, pt4, pt5, pt6, pt7]; rfl) ?_) | (refine WO.callE rfl rfl h74 (by simp only [pt8, pt6]; rfl) ?_) | (refine WC.seq ?_) | (refine WC.region ?_) | (refine WO.nil ?_) | (simp only [fl1, fl10]) | (refine WC.no rfl ?_) | (refine WC.skip ?_) | (refine WC.block ?_) | (refine WC.em2 rfl (fun hp => ?_) (fun hp => ?_) <;> try (exfalso; first | omega | contradiction)))
  all_goals first | (exfalso; omega) | exact ⟨q / 128, by omega, _, q / 128, a + p * ((q % 128 + 128) % 128), k + 7, p * 128, c + 1, rfl, rfl, rfl, rfl, rfl, rfl, hb3, by omega, hal, hnn, hk', by omega⟩
 ·rw [dig_small hg, List.cons_append] at hdc
  obtain ⟨hb1, hb2, hb3⟩ := bnth_drop hdc
  have h74 := f74 (L := L) hX hx hb2 hlen (by rw [hb1]; omega)
  rw [hb1, List.set_set] at h74
  have hsm : q % 128 < 128 := Nat.mod_lt _ (by decide)
  rw [dig_small hg] at hcl
  have hnn : n = a + p * (q % 128) := by rw [hnp, Nat.mod_eq_of_lt (by omega)]
  have hc1 : c + 1 = at_ + (dig n).length := hcl
  repeat' (first | (refine WO.opE (by intro; exact ev_and7 rfl rfl rfl (by omega)) (by simp only [pt8, pt6]; rfl) ?_) | (refine WO.opE (by intro; exact ev_shlD rfl rfl hsm hkp) (by simp only [pt8, pt0]; rfl) ?_) | (refine WO.opE (by intro; exact ev_orD rfl rfl hsm hkp hap) (by simp only [pt8, pt1]; rfl) ?_) | (refine WO.yes rfl ?_) | (refine WO.noE rfl (by simp only [pt8, pt0, pt7]; rfl) ?_) | (refine WO.opE (by intro; simp (disch := omega) only [go_sem]; rfl) (by simp only [pt8, pt0, pt1, pt2, pt3, pt4, pt5, pt6, pt7]; rfl) ?_) | (refine WO.callE rfl rfl h74 (by simp only [pt8, pt6]; rfl) ?_) | (refine WC.seq ?_) | (refine WC.region ?_) | (refine WO.nil ?_) | (simp only [fl1, fl2, fl5, fl8]) | (refine WC.no rfl ?_) | (refine WC.skip ?_) | (refine WC.ret ?_) | (refine WC.block ?_) | (refine WO.em2 rfl (by intro hp; simp only [hp, decide_true]; rfl) (by intro hp; simp only [hp, decide_false]; rfl) (fun hp => ?_) (fun hp => ?_) <;> try (exfalso; first | omega | contradiction)) | (refine WC.em2 rfl (fun hp => ?_) (fun hp => ?_) <;> try (exfalso; first | omega | contradiction)))
  all_goals first | (exfalso; omega) | exact ⟨_, rfl, by rw [hnn]; rfl, by rw [hc1]; rfl⟩
set_option maxRecDepth 100000
set_option maxHeartbeats 8000000
theorem shr3u : ∀ f < 8, ∀ t < 8, IntKind.i64.wrap (((8 * f + t : Nat) : Int).fdiv (2 ^ min (3 : Int).toNat 8)) = ((f : Nat) : Int) := by decide +kernel
theorem and7u : ∀ f < 8, ∀ t < 8, IntKind.u8.wrap (BitVec.ofInt 8 ((8 * f + t : Nat) : Int) &&& BitVec.ofInt 8 7).toNat = ((t : Nat) : Int) := by decide +kernel
theorem ev_rd {call} {T : List AV} {m : Mem} {y : Opd} {x : AV} (hx : y.ev T = x) (hc : x.cells = some [x]) : evOp call T m (.build [.snil, .int .i64 0] [(0, 1, y), (1, 1, .con (.int .i64 3))]) = some (.agg [x, .int .i64 3], m) := by
 have hc3 : (Opd.ev T (.con (.int .i64 3))).cells = some [.int .i64 3] := rfl
 rw [ev_build]
 simp only [fillP, hx, hc, hc3]
 rfl
theorem mbody_len {q : Mg} (h : MgOk q) : 6 ≤ (mbody q).length ∧ (mbody q).length ≤ 8 := by
 have := dig_len (n := q.b.toNat) (by have := h.2.2.2.2.2.1; omega)
 simp [mbody]
 omega
theorem f53 {q : Mg} (h : MgOk q) {x : AV} (hx : ByS x (mbody q)) {b0 : Option Blk} : WF X3 (.func 53 [] []) [x] ⟨[b0], []⟩ fun y m' => y = .tuple [.agg q.cells, .inil] ∧ ∃ c1 c2, m' = ⟨[b0, c1, c2], []⟩ := by
 have hs16 := fun m => s16 (m := m) h
 have hml := mbody_len h
 obtain ⟨k, f, t, s, b, w, v⟩ := q
 obtain ⟨rfl, ⟨h1, h2⟩, ⟨h3, h4⟩, h5, ⟨h6, h7⟩, ⟨h8, h9⟩, rfl, h10, h11⟩ := h
 simp only at h1 h2 h3 h4 h5 h6 h7 h8 h9 h11
 obtain ⟨vs, vc, vn, vd⟩ := v
 simp only at h11
 subst h11
 obtain ⟨f, rfl⟩ := Int.eq_ofNat_of_zero_le h1
 obtain ⟨t, rfl⟩ := Int.eq_ofNat_of_zero_le h3
 obtain ⟨b, rfl⟩ := Int.eq_ofNat_of_zero_le (show 0 ≤ b by omega)
 have hf8 : f < 8 := by omega
 have ht8 : t < 8 := by omega
 have hbn : b < 2097152 := by omega
 obtain ⟨hn1, hn2, hn3, hn4, hn5, hn6, hn7⟩ := h10
 simp only at hn1 hn2 hn3 hn4 hn5 hn6 hn7
 simp only [Mg.cells, Tk.cells] at hs16 ⊢
 obtain ⟨D, hD⟩ : ∃ D, D = dig b := ⟨_, rfl⟩
 obtain ⟨w, hw⟩ : ∃ w, w = 3 * vc + vn + 1 := ⟨_, rfl⟩
 have hq3 : w.tdiv 3 = vc := by rw [Int.tdiv_eq_ediv_of_nonneg (by omega)]; omega
 have hr3 : w.tmod 3 = vn + 1 := by rw [Int.tmod_eq_emod_of_nonneg (by omega)]; omega
 obtain ⟨bs, hbs⟩ : ∃ bs, bs = mbody ⟨4, (f : Int), (t : Int), vs, (b : Int), 0, ⟨vs, vc, vn, vd⟩⟩ := ⟨_, rfl⟩
 have hbs' : bs = 4 :: ((8 * f + t : Nat) : Int) :: vs :: (D ++ [w, vd]) := by rw [hbs, hD, hw]; simp [mbody]
 rw [← hbs] at hx hml
 have hN : bs.length = D.length + 5 := by rw [hbs']; simp
 have hdr : bs.drop 3 = dig b ++ [w, vd] := by rw [hbs', hD]; rfl
 have hde : bs.drop (3 + D.length) = [w, vd] := by rw [← List.drop_drop, hdr, ← hD]; simp
 obtain ⟨he1, he2, he3⟩ := bnth_drop hde
 obtain ⟨hf1, hf2, hf3⟩ := bnth_drop he3
 have hlen : bs.length ≤ 1000000 := by omega
 have hi0 : indexAddrAV 1 x (.int .i64 0) = some (.pval (.int .u8 4 :: uB (bs.drop 1))) := by
  have := hx.at (i := 0) (by omega)
  rw [show bnth bs 0 = 4 by rw [hbs']; rfl] at this
  exact this
 have hi1 : indexAddrAV 1 x (.int .i64 1) = some (.pval (.int .u8 ((8 * f + t : Nat) : Int) :: uB (bs.drop 2))) := by
  have := hx.at (i := 1) (by omega)
  rw [show bnth bs 1 = ((8 * f + t : Nat) : Int) by rw [hbs']; rfl] at this
  exact this
 have hi2 : indexAddrAV 1 x (.int .i64 2) = some (.pval (.int .u8 vs :: uB (bs.drop 3))) := by
  have := hx.at (i := 2) (by omega)
  rw [show bnth bs 2 = vs by rw [hbs']; rfl] at this
  exact this
 have hxl := hx.len
 rw [hN] at hxl
 have hsh : IntKind.i64.wrap (((8 * f + t : Nat) : Int).fdiv (2 ^ min 3 8)) = (f : Int) := shr3u f hf8 t ht8
 have hsa : IntKind.u8.wrap ((BitVec.ofInt IntKind.u8.bits ((8 * f + t : Nat) : Int) &&& BitVec.ofInt IntKind.u8.bits 7).toNat : Int) = (t : Int) := and7u f hf8 t ht8
 simp only [IntKind.bits] at hsa
 have hw4 : IntKind.i64.wrap 4 = 4 := by decide
 have hwt : IntKind.i64.wrap (t : Int) = (t : Int) := wrap_id (by omega) (by omega)
 have hws : IntKind.i64.wrap vs = vs := wrap_id (by omega) (by omega)
 have hwc : IntKind.i64.wrap vc = vc := wrap_id (by omega) (by omega)
 have hwn : IntKind.i64.wrap (vn + 1 - 1) = vn := by rw [wrap_id (by omega) (by omega)]; omega
 have hdl : (dig b).length = D.length := by rw [hD]
 have hxc := hx.cells
 clear hbs hbs'
 refine WF.fnE rfl (fn_of Tryz.func53 cir53) (by show 1 ≤ 105; decide) ?_
 unfold ir53; dsimp only [k0, kI, mV, oO, oG]
 simp only [padTo, List.replicate, List.nil_append, List.append_nil]
 repeat' (first | (refine WO.opE (by intro; exact ev_rd rfl hxc) (by simp only [pt8, pt5]; rfl) ?_) | (refine WO.callE rfl rfl (f73 (at_ := 3) rfl hx hdr hlen hbn) (by simp only [pt8, pt1]; rfl) ?_; simp only [List.set_cons_zero, List.set_cons_succ]) | (refine WO.callE rfl rfl (f74 (at_ := 3 + D.length) rfl hx he2 hlen (by rw [he1]; omega)) (by simp only [pt8, pt4, pt7]; rfl) ?_; simp only [List.set_cons_zero, List.set_cons_succ, he1]) | (refine WO.callE rfl rfl (f74 (at_ := 3 + D.length + 1) rfl hx hf2 hlen (by rw [hf1]; omega)) (by simp only [pt8, pt4]; rfl) ?_; simp only [List.set_cons_zero, List.set_cons_succ, hf1]) | (refine WO.yes rfl ?_) | (refine WO.opE (by intro; simp (disch := omega) only [go_sem, Zz.look, Zz.over, Zz.cut, List.append_assoc, fillP, Option.bind_eq_bind, Nat.reduceAdd, Nat.reduceLeDiff, Int.reduceToNat, reduceCtorEq, hi0, hi1, hi2, hsh, hsa, hw4, hwt, hws, hwc, hwn, hq3, hr3, hdl]; rfl) (by simp only [pt8, pt0, pt1, pt2, pt3, pt4, pt5, pt6, pt7]; rfl) ?_) | (refine WO.opN (by intro; simp (disch := omega) only [go_sem, Zz.look, Zz.over, List.append_assoc, Option.bind_eq_bind, Nat.reduceAdd, Nat.reduceLeDiff]; rfl) ?_) | (refine WO.opE (by intro; exact ev_lenS (by simp only [go_sem]; first | rfl | assumption)) (by simp only [pt8, pt2, pt3]; rfl) ?_) | (refine WO.specE rfl rfl (hs16 _) (by simp only [pt8, pt6]; rfl) ?_) | (refine WC.seq ?_) | (refine WC.region ?_) | (refine WO.nil ?_) | (simp only [fl1]) | (refine WC.calm rfl ?_) | (refine WC.no rfl ?_) | (refine WC.skip ?_) | (refine WC.ret ?_) | (refine WO.em2 rfl (by intro hp; simp only [hp, decide_true]; rfl) (by intro hp; simp only [hp, decide_false]; rfl) (fun hp => ?_) (fun hp => ?_) <;> try (exfalso; first | omega | contradiction)) | (refine WC.em2 rfl (fun hp => ?_) (fun hp => ?_) <;> try (exfalso; first | omega | contradiction)))
 all_goals first | (exfalso; omega) | exact ⟨_, rfl, rfl, _, _, rfl⟩
end Go.Proofs.YtgchabldcnmccacGreatDoor

