import Derived.Test.YtgchabldcnmccaaDoorKi
set_option linter.unusedSimpArgs false
set_option linter.unusedVariables false

namespace Go.Proofs.YtgchabldcnmccaaDoor
open Go.Zz
set_option maxRecDepth 100000
set_option maxHeartbeats 8000000
def uB (bs : List Int) : List AV := bs.map (.int .u8)
def ByS (x : AV) (bs : List Int) : Prop := (x = .snil ∧ bs = []) ∨ ∃ full, x = .sval full bs.length (uB bs)
theorem ByS.len {x : AV} {bs : List Int} (h : ByS x bs) : slen x = some bs.length := by
  rcases h with ⟨rfl, rfl⟩ | ⟨full, rfl⟩ <;> rfl
theorem ByS.cells {x : AV} {bs : List Int} (h : ByS x bs) : x.cells = some [x] := by
  rcases h with ⟨rfl, rfl⟩ | ⟨full, rfl⟩ <;> rfl
def bnth (bs : List Int) (i : Nat) : Int := bs.getD i 0
theorem ByS.at {x : AV} {bs : List Int} (h : ByS x bs) {i : Nat} (hi : i < bs.length) : indexAddrAV 1 x (.int .i64 (i : Int)) = some (.pval (.int .u8 (bnth bs i) :: uB (bs.drop (i + 1)))) := by
  rcases h with ⟨rfl, rfl⟩ | ⟨full, rfl⟩
  · simp at hi
  · have e : bnth bs i = bs[i] := by simp [bnth, hi]
    simp only [indexAddrAV, idx_nat hi, Option.map_some, Nat.mul_one, uB, ← List.map_drop, drop_cons hi, List.map_cons, e]
theorem uB_flat (bs : List Int) : (uB bs).all flatAV = true := by simp [uB, flatAV]
theorem uB_len (bs : List Int) : (uB bs).length = bs.length := by simp [uB]
theorem uB_app (a b : List Int) : uB a ++ uB b = uB (a ++ b) := by simp [uB]
theorem ByS.scells {x : AV} {bs : List Int} (h : ByS x bs) (H : Hp) : scells H 1 x = some (uB bs) := by
  rcases h with ⟨rfl, rfl⟩ | ⟨full, rfl⟩
  · rfl
  · simp [Zz.scells, uB_len]
theorem ByS.pureC {x : AV} {bs : List Int} (h : ByS x bs) : Zz.pureC x = true := by
  rcases h with ⟨rfl, rfl⟩ | ⟨full, rfl⟩
  · rfl
  · exact uB_flat _
theorem ByS.pureA {x : AV} {bs : List Int} (h : ByS x bs) : Zz.pureA x = true := by
  rcases h with ⟨rfl, rfl⟩ | ⟨full, rfl⟩
  · rfl
  · exact uB_flat _
theorem ByS.byC {x : AV} {bs : List Int} (h : ByS x bs) (H : Hp) : Zz.byC H x = some x := by
  rcases h with ⟨rfl, rfl⟩ | ⟨full, rfl⟩
  · rfl
  · simp only [Zz.byC, uB_flat, if_true]
theorem ByS.byVal {x : AV} {bs : List Int} (h : ByS x bs) (H : Hp) : Zz.byVal H x = some x := by
  rcases h with ⟨rfl, rfl⟩ | ⟨full, rfl⟩
  · rfl
  · simp only [Zz.byVal, Zz.byC, uB_flat, if_true]
theorem ByS.mk (bs : List Int) (f : Bool) : ByS (.sval f bs.length (uB bs)) bs := .inr ⟨f, rfl⟩
theorem ByS.cut {x : AV} {bs : List Int} (h : ByS x bs) {a b : Nat} (h1 : a ≤ b) (h2 : b ≤ bs.length) (H : Hp) : ∃ y, sliceAV H 1 x (some (.int .i64 (a : Int))) (some (.int .i64 (b : Int))) none = some y ∧ ByS y ((bs.drop a).take (b - a)) := by
  rcases h with ⟨rfl, rfl⟩ | ⟨full, rfl⟩
  · simp only [List.length_nil] at h2
    obtain rfl : b = 0 := by omega
    obtain rfl : a = 0 := by omega
    exact ⟨.snil, by rfl, .inl ⟨rfl, rfl⟩⟩
  · have hb : ∃ m, bnds bs.length (if full then some bs.length else none) (some (.int .i64 (a : Int))) (some (.int .i64 (b : Int))) none = some (a, b, m) := by
      have e1 : (0 : Int) ≤ a ∧ (a : Int) ≤ (b : Nat) := by omega
      have e2 : (0 : Int) ≤ b ∧ (b : Int) ≤ (bs.length : Nat) := by omega
      have e3 : (0 : Int) ≤ bs.length ∧ (bs.length : Int) ≤ (bs.length : Nat) := by omega
      cases full <;> simp [bnds, bndO, bnd, e1, e2, e3]
    obtain ⟨m, hm⟩ := hb
    have hl : ((bs.drop a).take (b - a)).length = b - a := by simp; omega
    refine ⟨.sval (match m with | some c => c == b | none => false) (b - a) (((uB bs).drop (a * 1)).take ((b - a) * 1)), ?_, .inr ⟨(match m with | some c => c == b | none => false), ?_⟩⟩
    · simp only [sliceAV, uB_len, Nat.mul_one, if_true, hm, Option.map_some]
      cases m <;> rfl
    · rw [hl]
      simp [uB, List.map_take, List.map_drop]
def nib : List Int := [0, 498536548, 997073096, 651767980, 1994146192, 1802195444, 1303535960, 1342533948, 3988292384, 4027552580, 3604390888, 3412177804, 2607071920, 2262029012, 2685067896, 3183342108]
def xr (a b : Int) : Int := IntKind.u32.wrap (BitVec.ofInt IntKind.u32.bits a ^^^ BitVec.ofInt IntKind.u32.bits b).toNat
def lo4 (a : Int) : Int := IntKind.u32.wrap (BitVec.ofInt IntKind.u32.bits a &&& BitVec.ofInt IntKind.u32.bits 15).toNat
def nibS (c : Int) : Int := xr (c.fdiv 16) (nib.getD (lo4 c).toNat 0)
def crcS (c b : Int) : Int := nibS (nibS (xr c (IntKind.u32.wrap b)))
def crcF (bs : List Int) : Int := bs.foldl crcS 4294967295
def crc (bs : List Int) : Int := xr 4294967295 (crcF bs)
theorem lo4_bd (a : Int) : 0 ≤ lo4 a ∧ lo4 a < 16 := by
  have h : (BitVec.ofInt 32 a &&& 15#32).toNat ≤ 15 := by
    rw [BitVec.toNat_and]
    exact Nat.and_le_right
  have e : lo4 a = IntKind.u32.wrap ((BitVec.ofInt 32 a &&& 15#32).toNat : Int) := rfl
  rw [e]
  generalize (BitVec.ofInt 32 a &&& 15#32).toNat = k at h
  unfold IntKind.wrap
  simp only [IntKind.signed, IntKind.bits]
  simp
  omega
theorem crcF_step {bs : List Int} {i : Nat} (hi : i < bs.length) : crcF (bs.take (i + 1)) = crcS (crcF (bs.take i)) (bnth bs i) := by
  have e : bnth bs i = bs[i] := by simp [bnth, hi]
  rw [List.take_succ_eq_append_getElem hi, e]
  unfold crcF
  rw [List.foldl_append]
  rfl
theorem nib_ev {call : AV → List AV → Mem → Option (AV × Mem)} {T : List AV} {m : Mem} {x : Opd} {v : Int} (hx : x.ev T = .int .u32 v) (h : 0 ≤ v ∧ v < 16) : evOp call T m (.indexAddrArr 16 1 (.con (.pval (nib.map (.int .u32)))) x) = some (.pval ((nib.map (.int .u32)).drop v.toNat), m) := by
  rw [ev_indexAddrArr, hx]
  unfold idx
  simp only
  rw [if_pos (by omega)]
  simp only [Option.bind_some, Nat.mul_one]
  rfl
theorem nib_ld {H : Hp} {v : Int} (h : 0 ≤ v ∧ v < 16) : loadAV H false 1 (.pval ((nib.map (.int .u32)).drop v.toNat)) = some (.int .u32 (nib.getD v.toNat 0)) := by
  have hl : v.toNat < nib.length := by show v.toNat < 16; omega
  simp only [loadAV, loadCs, List.getElem?_drop, Nat.add_zero, Bool.false_eq_true, if_false]
  rw [List.getElem?_map, List.getElem?_eq_getElem hl, List.getD_eq_getElem?_getD, List.getElem?_eq_getElem hl]
  rfl
theorem f45 {x : AV} {bs : List Int} (hx : ByS x bs) (hlen : (bs.length : Int) ≤ 1000000) : WF E12 (.func 45 [] []) [x] ⟨[], []⟩ fun y m' => y = .int .u32 (crc bs) := by
  refine WF.fnE rfl (fn_of Tryd.func45 cir45) (by show 1 ≤ 33; decide) ?_
  unfold ir45; dsimp only [k0, kI, mV, oO, oG]
  simp only [padTo, List.replicate, List.nil_append, List.append_nil, List.cons_append]
  repeat' (first | (refine WO.opE (by intro; simp (disch := omega) only [go_sem, zeros, List.length_append, ov_one0, ov_one1, ov_one2, ov_one3, ov_all2, ov_all3, ov_all4, ov_all5, ov_all6, over7, cut7, cut4b, cut4c, fillP, Option.bind_eq_bind, Nat.reduceAdd, Nat.reduceMul, Nat.reduceSub, Nat.reduceLeDiff, Nat.reduceEqDiff, Int.reduceNeg, Int.reduceAdd, Int.reduceToNat, reduceIte, reduceCtorEq]; rfl) (by simp only [pt8, pt0, pt1, pt2, pt3, pt4, pt5, pt6, pt7]; rfl) ?_) | (refine WO.opE (by intro; exact ev_lenS (by simp only [go_sem]; exact hx.len)) (by simp only [pt8, pt0, pt1, pt2, pt3, pt4, pt5, pt6, pt7]; rfl) ?_) | (refine WC.seq ?_) | (refine WC.region ?_) | (refine WO.nil ?_) | (simp only [fl1, fl2, fl3, fl4, fl5, fl6, fl7, fl8, fl9, fl10, Nat.reduceBEq]) | (refine WC.block ?_))
  refine WC.loopI (fun m s => ∃ T i, s = ⟨T, [], []⟩ ∧ T.length = 33 ∧ gt T 3 = .int .u32 (crcF (bs.take i)) ∧ gt T 6 = x ∧ gt T 7 = .int .i64 (bs.length : Nat) ∧ gt T 8 = .int .i64 (i : Nat) ∧ m + i = bs.length) ?_ bs.length _ ⟨_, 0, rfl, rfl, rfl, rfl, rfl, rfl, by omega⟩
  rintro m _ ⟨T, i, rfl, hT, g3, g6, g7, g8, hml⟩
  obtain ⟨f, rfl⟩ := ex33 hT
  clear hT
  replace g3 : f 3 = .int .u32 (crcF (bs.take i)) := g3
  replace g6 : f 6 = x := g6
  replace g7 : f 7 = .int .i64 (bs.length : Nat) := g7
  replace g8 : f 8 = .int .i64 (i : Nat) := g8
  simp only [g3, g6, g7, g8]
  by_cases hi : i < bs.length
  · have hat := hx.at hi
    have hst := crcF_step hi
    generalize crcF (bs.take i) = c at *
    generalize bnth bs i = b at *
    repeat' (first | (refine WO.opE (by intro; simp (disch := omega) only [go_sem, zeros, List.length_append, ov_one0, ov_one1, ov_one2, ov_one3, ov_all2, ov_all3, ov_all4, ov_all5, ov_all6, over7, cut7, cut4b, cut4c, fillP, Option.bind_eq_bind, Nat.reduceAdd, Nat.reduceMul, Nat.reduceSub, Nat.reduceLeDiff, Nat.reduceEqDiff, Int.reduceNeg, Int.reduceAdd, Int.reduceToNat, reduceIte, reduceCtorEq, hat]; rfl) (by simp only [pt8, pt0, pt1, pt2, pt3, pt4, pt5, pt6, pt7]; rfl) ?_) | (refine WO.opE (by intro; exact nib_ev rfl (lo4_bd _)) (by simp only [pt8, pt0, pt1, pt2, pt3, pt4, pt5, pt6, pt7]; rfl) ?_) | (refine WO.opE (by intro; rw [ev_load]; exact congrArg (Option.map _) (nib_ld (lo4_bd _))) (by simp only [pt8, pt0, pt1, pt2, pt3, pt4, pt5, pt6, pt7]; rfl) ?_) | (refine WC.seq ?_) | (refine WC.region ?_) | (refine WO.nil ?_) | (simp only [fl1, fl2, fl3, fl4, fl5, fl6, fl7, fl8, fl9, fl10, Nat.reduceBEq]) | (refine WC.skip ?_) | (refine WC.block ?_) | (refine WC.em2 rfl (fun hp => ?_) (fun hp => ?_) <;> try (exfalso; first | omega | contradiction)))
    refine ⟨m - 1, by omega, _, i + 1, rfl, rfl, ?_, rfl, rfl, rfl, by omega⟩
    rw [hst]
    rfl
  · have hie : i = bs.length := by omega
    subst hie
    rw [List.take_length]
    repeat' (first | (refine WO.opE (by intro; simp (disch := omega) only [go_sem, zeros, List.length_append, ov_one0, ov_one1, ov_one2, ov_one3, ov_all2, ov_all3, ov_all4, ov_all5, ov_all6, over7, cut7, cut4b, cut4c, fillP, Option.bind_eq_bind, Nat.reduceAdd, Nat.reduceMul, Nat.reduceSub, Nat.reduceLeDiff, Nat.reduceEqDiff, Int.reduceNeg, Int.reduceAdd, Int.reduceToNat, reduceIte, reduceCtorEq]; rfl) (by simp only [pt8, pt0, pt1, pt2, pt3, pt4, pt5, pt6, pt7]; rfl) ?_) | (refine WC.seq ?_) | (refine WC.region ?_) | (refine WO.nil ?_) | (simp only [fl1, fl2, fl3, fl4, fl5, fl6, fl7, fl8, fl9, fl10, Nat.reduceBEq]) | (refine WC.exit ?_) | (refine WC.ret ?_) | (refine WC.em2 rfl (fun hp => ?_) (fun hp => ?_) <;> try (exfalso; first | omega | contradiction)))
    exact ⟨_, rfl, rfl⟩
theorem s45 {x z : AV} {bs : List Int} {m : Mem} (hz : Zz.byVal m.heap z = some x) (hx : ByS x bs) (hlen : (bs.length : Int) ≤ 1000000) : borrowX E12 45 [z] m = some (.int .u32 (crc bs), m) :=
  borrowX_of (byVals_cons hz (byVals_nil _)) ((f45 hx hlen).mono fun y m' h => by rw [h]; rfl)
noncomputable def E13 : Env := E12.put 45 (borrowX E12 45)
theorem E13_ok : EnvOk Tryd.prog E13 := Env.put_ok E12_ok (borrowX_ok E12_ok (callable Tryd.func45 (by kernel_rfl)))
def u8 (n : Int) : Int := IntKind.u8.wrap n
def sealP (bs : List Int) : List Int := u8 (bs.length : Nat) :: bs
def sumB (c : Int) : List Int := [u8 (c.fdiv 16777216), u8 (c.fdiv 65536), u8 (c.fdiv 256), u8 c]
def sealB (bs : List Int) : List Int := sealP bs ++ sumB (crc (sealP bs))
theorem uB_cut (bs : List Int) : Zz.cut (uB bs) 0 (bs.length * 1) = some (uB bs) := by
  unfold Zz.cut
  rw [if_pos (by simp [uB_len])]
  simp [← uB_len]
theorem app_new {H : Hp} {L : List (Option ALoop)} {id g : Nat} {cs bs : List Int} {x : AV} (hl : Zz.look H id g = some (uB cs)) (hx : Zz.scells H 1 x = some (uB bs)) (hn : slen x = some bs.length) (h0 : bs ≠ []) (hb : cs.length + bs.length ≤ 100000000) :
    appendAV 1 1 ⟨H, L⟩ (.sref id g 0 1 cs.length (some cs.length)) x = some (.sref H.length 0 0 1 (cs ++ bs).length none, ⟨H ++ [some ⟨0, uB (cs ++ bs)⟩], L⟩) := by
  have : 0 < bs.length := List.length_pos_iff.2 h0
  simp only [appendAV, hx, hn, Option.bind_eq_bind, Option.bind_some, if_true, hl, uB_cut, newBlk, uB_app, List.length_append]
  rw [if_neg (by omega), if_pos (by omega)]
theorem app_set {H : Hp} {L : List (Option ALoop)} {id g : Nat} {cs bs : List Int} {x : AV} (hl : Zz.look H id g = some (uB cs)) (hx : Zz.scells H 1 x = some (uB bs)) (hn : slen x = some bs.length) (h0 : bs ≠ []) (hb : cs.length + bs.length ≤ 100000000) :
    appendAV 1 1 ⟨H, L⟩ (.sref id g 0 1 cs.length none) x = some (.sref id (g + 1) 0 1 (cs ++ bs).length none, ⟨setBlk H id (g + 1) (uB (cs ++ bs)), L⟩) := by
  have : 0 < bs.length := List.length_pos_iff.2 h0
  simp only [appendAV, hx, hn, Option.bind_eq_bind, Option.bind_some, if_true, hl, uB_cut, uB_app, List.length_append, uB_len]
  rw [if_neg (by omega), if_pos (by omega)]
theorem newV_by {H : Hp} {id g : Nat} {cap : Option Nat} {bs : List Int} (h : Zz.look H id g = some (uB bs)) : newV H (.sref id g 0 1 bs.length cap) = some (.sval (cap == some bs.length) bs.length (uB bs)) := by
  simp only [newV, newA, newC, h, uB_cut, uB_flat, if_true]
theorem s45m {H : Hp} {L : List (Option ALoop)} {id g : Nat} {cap : Option Nat} {bs : List Int} (h : Zz.look H id g = some (uB bs)) (hlen : (bs.length : Int) ≤ 1000000) : borrowX E12 45 [.sref id g 0 1 bs.length cap] ⟨H, L⟩ = some (.int .u32 (crc bs), ⟨H, L⟩) :=
  s45 (by simp only [Zz.byVal, Zz.byC, h, uB_cut, uB_flat, if_true]) (ByS.mk bs (cap == some bs.length)) hlen
theorem f33 {x : AV} {bs : List Int} (hx : ByS x bs) (h0 : bs ≠ []) (hlen : bs.length ≤ 1000) : WF E13 (.func 33 [] []) [x] ⟨[], []⟩ fun y m' => newV m'.heap y = some (.sval false (sealB bs).length (uB (sealB bs))) := by
  have ha1 : ∀ (call : AV → List AV → Mem → Option (AV × Mem)) (T : List AV) (l c : Opd), l.ev T = .sref 0 0 0 1 1 (some 1) → c.ev T = x → evOp call T ⟨[some ⟨0, [.int .u8 (u8 (bs.length : Nat))]⟩], []⟩ (.append 1 1 l c) = some (.sref 1 0 0 1 (sealP bs).length none, ⟨[some ⟨0, [.int .u8 (u8 (bs.length : Nat))]⟩, some ⟨0, uB (sealP bs)⟩], []⟩) := fun call T l c h1 h2 => by
    simp only [ev_append, h1, h2]
    exact app_new (cs := [u8 (bs.length : Nat)]) rfl (hx.scells _) hx.len h0 (by simp only [List.length_singleton]; omega)
  have hpl : (sealP bs).length = bs.length + 1 := rfl
  refine WF.fnE rfl (fn_of Tryd.func33 cir33) (by show 1 ≤ 27; decide) ?_
  unfold ir33; dsimp only [k0, kI, mV, oO, oG]
  simp only [padTo, List.replicate, List.nil_append, List.append_nil, List.cons_append]
  repeat' (first | (refine WO.opE (by intro; simp (disch := omega) only [go_sem, zeros, List.length_append, ov_one0, ov_one1, ov_one2, ov_one3, ov_all2, ov_all3, ov_all4, ov_all5, ov_all6, over7, cut7, cut4b, cut4c, fillP, Option.bind_eq_bind, Zz.look, Nat.reduceAdd, Nat.reduceMul, Nat.reduceSub, Nat.reduceLeDiff, Nat.reduceEqDiff, Int.reduceNeg, Int.reduceAdd, Int.reduceToNat, reduceIte, reduceCtorEq, hx.scells, Zz.slen]; rfl) (by simp only [pt8, pt0, pt1, pt2, pt3, pt4, pt5, pt6, pt7]; rfl) ?_) | (refine WO.opE (by intro; exact ev_lenS (by simp only [go_sem]; exact hx.len)) (by simp only [pt8, pt0, pt1, pt2, pt3, pt4, pt5, pt6, pt7]; rfl) ?_) | (refine WO.opE (by intro; exact ha1 _ _ _ _ rfl rfl) (by simp only [pt8, pt0, pt1, pt2, pt3, pt4, pt5, pt6, pt7]; rfl) ?_) | (refine WO.specE rfl rfl (s45m (bs := sealP bs) rfl (by omega)) (by simp only [pt8, pt0, pt1, pt2, pt3, pt4, pt5, pt6, pt7]; rfl) ?_) | (refine WO.opE (by intro; rw [ev_append]; exact app_set (cs := sealP bs) (bs := sumB (crc (sealP bs))) rfl rfl rfl (by simp [sumB]) (by simp [sumB]; omega)) (by simp only [pt8, pt0, pt1, pt2, pt3, pt4, pt5, pt6, pt7]; rfl) ?_) | (refine WC.seq ?_) | (refine WC.region ?_) | (refine WO.nil ?_) | (simp only [fl1, fl2, fl3, fl4, fl5, fl6, fl7, fl8, fl9, fl10, Nat.reduceBEq]) | (refine WC.ret ?_))
  refine ⟨_, rfl, ?_⟩
  have e : (sealP bs).length + (sumB (crc (sealP bs))).length = (sealB bs).length := by simp [sealB]
  simp only [oneRes, St.mem, gt8, gt0, gt1, gt2, gt3, gt4, gt5, gt6, gt7, e]
  exact newV_by (bs := sealB bs) rfl
theorem s33 {x z : AV} {bs : List Int} {m : Mem} (hz : Zz.byVal m.heap z = some x) (hx : ByS x bs) (h0 : bs ≠ []) (hlen : bs.length ≤ 1000) : borrowX E13 33 [z] m = some (.sval false (sealB bs).length (uB (sealB bs)), m) :=
  borrowX_of (byVals_cons hz (byVals_nil _)) (f33 hx h0 hlen)
theorem s33m {H : Hp} {L : List (Option ALoop)} {id g : Nat} {cap : Option Nat} {bs : List Int} (h : Zz.look H id g = some (uB bs)) (h0 : bs ≠ []) (hlen : bs.length ≤ 1000) : borrowX E13 33 [.sref id g 0 1 bs.length cap] ⟨H, L⟩ = some (.sval false (sealB bs).length (uB (sealB bs)), ⟨H, L⟩) :=
  s33 (by simp only [Zz.byVal, Zz.byC, h, uB_cut, uB_flat, if_true]) (ByS.mk bs (cap == some bs.length)) h0 hlen
noncomputable def E14 : Env := E13.put 33 (borrowX E13 33)
theorem E14_ok : EnvOk Tryd.prog E14 := Env.put_ok E13_ok (borrowX_ok E13_ok (callable Tryd.func33 (by kernel_rfl)))
def body1 (r : Rc) : List Int := [u8 r.k, u8 r.s]
def body2 (r : Rc) : List Int := [u8 (r.b.fdiv 65536), u8 (r.b.fdiv 256), u8 r.b]
def body3 (r : Rc) : List Int := [u8 r.v.c, u8 (r.v.n + 1), u8 r.v.d]
def bodyB (r : Rc) : List Int := if r.k = 1 then body1 r ++ body2 r else (body1 r ++ body2 r) ++ body3 r
def frameB (r : Rc) : List Int := sealB (bodyB r)
theorem f18 {r : Rc} (hr : R1 r) : WF E14 (.func 18 [] []) [.agg [.int .i64 r.k, .int .i64 r.s, .int .i64 r.b, .int .i64 r.v.s, .int .i64 r.v.c, .int .i64 r.v.n, .int .i64 r.v.d]] ⟨[], []⟩ fun y m' => resV m'.heap y = some (.sval false (frameB r).length (uB (frameB r))) := by
  obtain ⟨hok, hs, hk⟩ := hr
  rcases hk with hk | hk
  · have hb : bodyB r = body1 r ++ body2 r := if_pos hk
    refine WF.fnE rfl (fn_of Tryd.func18 cir18) (by show 1 ≤ 49; decide) ?_
    unfold ir18; dsimp only [k0, kI, mV, oO, oG]
    simp only [padTo, List.replicate, List.nil_append, List.append_nil, List.cons_append]
    repeat' (first | (refine WO.opE (by intro; simp (disch := omega) only [go_sem, zeros, List.length_append, ov_one0, ov_one1, ov_one2, ov_one3, ov_all2, ov_all3, ov_all4, ov_all5, ov_all6, over7, cut7, cut4b, cut4c, fillP, Option.bind_eq_bind, Zz.look, Nat.reduceAdd, Nat.reduceMul, Nat.reduceSub, Nat.reduceLeDiff, Nat.reduceEqDiff, Int.reduceNeg, Int.reduceAdd, Int.reduceToNat, reduceIte, reduceCtorEq, setBlk]; rfl) (by simp only [pt8, pt0, pt1, pt2, pt3, pt4, pt5, pt6, pt7]; rfl) ?_) | (refine WO.specE rfl rfl (s33m (bs := body1 r ++ body2 r) rfl (by simp [body1]) (by simp [body1, body2])) (by simp only [pt8, pt0, pt1, pt2, pt3, pt4, pt5, pt6, pt7]; rfl) ?_) | (refine WC.seq ?_) | (refine WC.region ?_) | (refine WO.nil ?_) | (simp only [fl1, fl2, fl3, fl4, fl5, fl6, fl7, fl8, fl9, fl10, Nat.reduceBEq]) | (refine WC.skip ?_) | (refine WC.ret ?_) | (refine WC.em2 rfl (fun hp => ?_) (fun hp => ?_) <;> try (exfalso; first | omega | contradiction)))
    refine ⟨_, rfl, ?_⟩
    show resV _ (.sval false (sealB (body1 r ++ body2 r)).length (uB (sealB (body1 r ++ body2 r)))) = _
    unfold frameB
    rw [hb]
    simp only [resV, resA, resC, uB_flat, if_true]
  · have hb : bodyB r = (body1 r ++ body2 r) ++ body3 r := if_neg (by omega)
    have hn : -1 ≤ r.v.n ∧ r.v.n ≤ 1 := by
      obtain ⟨_, _, h | h | h⟩ := hok
      · omega
      · obtain ⟨_, _, ⟨_, _, _, _, _, _, h7⟩, _⟩ := h
        omega
      · omega
    clear hok
    obtain ⟨hn1, hn2⟩ := hn
    refine WF.fnE rfl (fn_of Tryd.func18 cir18) (by show 1 ≤ 49; decide) ?_
    unfold ir18; dsimp only [k0, kI, mV, oO, oG]
    simp only [padTo, List.replicate, List.nil_append, List.append_nil, List.cons_append]
    repeat' (first | (refine WO.opE (by intro; simp (disch := omega) only [go_sem, zeros, List.length_append, ov_one0, ov_one1, ov_one2, ov_one3, ov_all2, ov_all3, ov_all4, ov_all5, ov_all6, over7, cut7, cut4b, cut4c, fillP, Option.bind_eq_bind, Zz.look, Nat.reduceAdd, Nat.reduceMul, Nat.reduceSub, Nat.reduceLeDiff, Nat.reduceEqDiff, Int.reduceNeg, Int.reduceAdd, Int.reduceToNat, reduceIte, reduceCtorEq, setBlk]; rfl) (by simp only [pt8, pt0, pt1, pt2, pt3, pt4, pt5, pt6, pt7]; rfl) ?_) | (refine WO.specE rfl rfl (s33m (bs := (body1 r ++ body2 r) ++ body3 r) rfl (by simp [body1]) (by simp [body1, body2, body3])) (by simp only [pt8, pt0, pt1, pt2, pt3, pt4, pt5, pt6, pt7]; rfl) ?_) | (refine WC.seq ?_) | (refine WC.region ?_) | (refine WO.nil ?_) | (simp only [fl1, fl2, fl3, fl4, fl5, fl6, fl7, fl8, fl9, fl10, Nat.reduceBEq]) | (refine WC.ret ?_) | (refine WC.em2 rfl (fun hp => ?_) (fun hp => ?_) <;> try (exfalso; first | omega | contradiction)))
    refine ⟨_, rfl, ?_⟩
    show resV _ (.sval false (sealB ((body1 r ++ body2 r) ++ body3 r)).length (uB (sealB ((body1 r ++ body2 r) ++ body3 r)))) = _
    unfold frameB
    rw [hb]
    simp only [resV, resA, resC, uB_flat, if_true]
theorem s18 {r : Rc} (hr : R1 r) {m : Mem} : borrowE E14 18 [.agg [.int .i64 r.k, .int .i64 r.s, .int .i64 r.b, .int .i64 r.v.s, .int .i64 r.v.c, .int .i64 r.v.n, .int .i64 r.v.d]] m = some (.sval false (frameB r).length (uB (frameB r)), m) :=
  borrowE_of rfl (f18 hr)
noncomputable def E15 : Env := E14.put 18 (borrowE E14 18)
theorem E15_ok : EnvOk Tryd.prog E15 := Env.put_ok E14_ok (borrowE_ok E14_ok (callable Tryd.func18 (by kernel_rfl)))
end Go.Proofs.YtgchabldcnmccaaDoor

