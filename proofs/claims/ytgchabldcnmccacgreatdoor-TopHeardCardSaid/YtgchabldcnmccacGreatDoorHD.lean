import Derived.Test.YtgchabldcnmccacGreatDoorHC

set_option linter.unusedSimpArgs false
set_option linter.unusedVariables false

namespace Go.Proofs.YtgchabldcnmccacGreatDoor
open Go.Zz
set_option maxRecDepth 100000
set_option maxHeartbeats 8000000
theorem ByS.sl {x : AV} {bs : List Int} (h : ByS x bs) {lo hi : Option AV} {a b : Nat} (h1 : a ≤ b) (h2 : b ≤ bs.length) (hlo : lo = some (.int .i64 (a : Int)) ∨ lo = none ∧ a = 0) (hhi : hi = some (.int .i64 (b : Int)) ∨ hi = none ∧ b = bs.length) : ∃ y, (∀ H, sliceAV H 1 x lo hi none = some y) ∧ ByS y ((bs.drop a).take (b - a)) := by
 obtain ⟨y, hy1, hy2⟩ := h.cut h1 h2 []
 refine ⟨y, fun H => ?_, hy2⟩
 rw [← hy1]
 rcases h with ⟨rfl, rfl⟩ | ⟨full, rfl⟩
 ·simp only [List.length_nil, Nat.le_zero] at h2
  subst h2
  obtain rfl : a = 0 := by omega
  rcases hlo with rfl | ⟨rfl, _⟩ <;> rcases hhi with rfl | ⟨rfl, _⟩ <;> rfl
 ·have e1 : (0 : Int) ≤ a ∧ (a : Int) ≤ (b : Nat) := by omega
  have e2 : (0 : Int) ≤ b ∧ (b : Int) ≤ (bs.length : Nat) := by omega
  have e3 : (0 : Int) ≤ bs.length ∧ (bs.length : Int) ≤ (bs.length : Nat) := by omega
  rcases hlo with rfl | ⟨rfl, rfl⟩ <;> rcases hhi with rfl | ⟨rfl, rfl⟩ <;> cases full <;> simp [sliceAV, bnds, bndO, bnd, e1, e2, uB_len]
def flt (at_ k : Int) : AV := .ifc 162 (.agg [.int .i64 at_, .int .i64 k])
theorem f52a {H : Hp} {L : List (Option ALoop)} {x : AV} (hx : ByS x []) : WF X3 (.func 52 [] []) [x] ⟨H, L⟩ fun y m' => y = .tuple [.snil, flt 0 12] ∧ m' = ⟨H, L⟩ := by
 have hxl := hx.len
 refine WF.fnE rfl (fn_of Tryz.func52 cir52) (by show 1 ≤ 68; decide) ?_
 unfold ir52; dsimp only [k0, kI, mV, oO, oG]
 simp only [padTo, List.replicate, List.nil_append, List.append_nil]
 repeat' (first | (refine WO.opE (by intro; simp (disch := omega) only [go_sem, Zz.over, List.append_assoc, fillP, Option.bind_eq_bind, Nat.reduceAdd, Nat.reduceLeDiff]; rfl) (by simp only [pt8, pt0, pt2, pt3, pt4]; rfl) ?_) | (refine WO.opE (by intro; exact ev_lenS (by simp only [go_sem]; first | rfl | assumption)) (by simp only [pt8, pt1]; rfl) ?_) | (refine WC.seq ?_) | (refine WC.region ?_) | (refine WO.nil ?_) | (simp only [fl1, fl2]) | (refine WC.yes rfl ?_) | (refine WC.ret ?_))
 all_goals exact ⟨_, rfl, rfl, rfl⟩
theorem f52b {H : Hp} {L : List (Option ALoop)} {x : AV} {n : Int} {bs : List Int} (hx : ByS x (n :: bs)) (h4 : 4 ≤ n) (h11 : n ≤ 11) (hl : (bs.length : Int) < n + 4) : WF X3 (.func 52 [] []) [x] ⟨H, L⟩ fun y m' => y = .tuple [.snil, flt ((n :: bs).length : Nat) 12] ∧ m' = ⟨H, L⟩ := by
 have hxl := hx.len
 have hi0 : indexAddrAV 1 x (.int .i64 0) = some (.pval (.int .u8 n :: uB bs)) := by
  have := hx.at (i := 0) (by simp)
  exact this
 have hll : ((n :: bs).length : Int) = bs.length + 1 := by simp
 obtain ⟨ln, hln⟩ : ∃ ln, ln = (n :: bs).length := ⟨_, rfl⟩
 rw [← hln] at hxl hll ⊢
 have hw : IntKind.i64.wrap n = n := wrap_id (by omega) (by omega)
 have hw2 : IntKind.i64.wrap (1 + n) = 1 + n := wrap_id (by omega) (by omega)
 have hw3 : IntKind.i64.wrap (1 + n + 4) = 1 + n + 4 := wrap_id (by omega) (by omega)
 refine WF.fnE rfl (fn_of Tryz.func52 cir52) (by show 1 ≤ 68; decide) ?_
 unfold ir52; dsimp only [k0, kI, mV, oO, oG]
 simp only [padTo, List.replicate, List.nil_append, List.append_nil]
 repeat' (first | (refine WO.yes rfl ?_) | (refine WO.opE (by intro; simp (disch := omega) only [go_sem, Zz.over, Zz.cut, List.append_assoc, fillP, Option.bind_eq_bind, Nat.reduceAdd, Nat.reduceLeDiff, hi0, hw, hw2, hw3]; rfl) (by simp only [pt8, pt0, pt1, pt2, pt3, pt4, pt5, pt6, pt7]; rfl) ?_) | (refine WO.opE (by intro; exact ev_lenS (by simp only [go_sem]; first | rfl | assumption)) (by simp only [pt8, pt0, pt1, pt2]; rfl) ?_) | (refine WC.seq ?_) | (refine WC.region ?_) | (refine WO.nil ?_) | (simp only [fl1, fl2]) | (refine WC.skip ?_) | (refine WC.ret ?_) | (refine WO.em2 rfl (by intro hp; simp only [hp, decide_true]; rfl) (by intro hp; simp only [hp, decide_false]; rfl) (fun hp => ?_) (fun hp => ?_) <;> try (exfalso; first | omega | contradiction)) | (refine WC.em2 rfl (fun hp => ?_) (fun hp => ?_) <;> try (exfalso; first | omega | contradiction)))
 all_goals first | (exfalso; omega) | exact ⟨_, rfl, rfl, rfl⟩
theorem shl8 {m : Nat} (h : m < 16777216) : IntKind.u32.wrap ((m : Int) * 2 ^ min (8 : Int).toNat 32) = ((m * 256 : Nat) : Int) := by
 rw [show (2 : Int) ^ min (8 : Int).toNat 32 = 256 from rfl]
 unfold IntKind.wrap
 simp [IntKind.signed, IntKind.bits]
 omega
theorem ev_shl8 {call} {T : List AV} {m : Mem} {x y : Opd} {c : Nat} (hx : x.ev T = .int .u32 (c : Int)) (hy : y.ev T = .int .u64 8) (hc : c < 16777216) : evOp call T m (.bin .shl x y) = some (.int .u32 ((c * 256 : Nat) : Int), m) := by
 rw [ev_bin, hx, hy]
 have e := shl8 hc
 show ((if (8 : Int) < 0 then none else some (AV.int .u32 (IntKind.u32.wrap ((c : Int) * 2 ^ min (8 : Int).toNat 32)))).map _) = _
 rw [if_neg (by omega), e]
 rfl
theorem ev_or8 {call} {T : List AV} {m : Mem} {x y : Opd} {c b : Nat} (hx : x.ev T = .int .u32 ((c * 256 : Nat) : Int)) (hy : y.ev T = .int .u32 (b : Int)) (hc : c < 16777216) (hb : b < 256) : evOp call T m (.bin .or x y) = some (.int .u32 ((c * 256 + b : Nat) : Int), m) := by
 rw [ev_bin, hx, hy]
 show (some (AV.int .u32 (IntKind.u32.wrap (BitVec.ofInt 32 ((c * 256 : Nat) : Int) ||| BitVec.ofInt 32 (b : Int)).toNat))).map _ = _
 have e1 : BitVec.ofInt 32 ((c * 256 : Nat) : Int) = BitVec.ofNat 32 (c * 256) := BitVec.ofInt_natCast 32 (c * 256)
 have e2 : BitVec.ofInt 32 (b : Int) = BitVec.ofNat 32 b := BitVec.ofInt_natCast 32 b
 have e3 : c * 256 ||| b = c * 256 + b := by
  rw [Nat.mul_comm]
  exact (Nat.two_pow_add_eq_or_of_lt (i := 8) hb c).symm
 have e4 : IntKind.u32.wrap ((c * 256 + b : Nat) : Int) = ((c * 256 + b : Nat) : Int) := by
  unfold IntKind.wrap
  simp [IntKind.signed, IntKind.bits]
  omega
 rw [e1, e2, BitVec.toNat_or, BitVec.toNat_ofNat, BitVec.toNat_ofNat, Nat.mod_eq_of_lt (by omega), Nat.mod_eq_of_lt (by omega), e3, e4]
 rfl
theorem u8_div {c k : Nat} : u8 ((c : Int).fdiv (k : Int)) = ((c / k % 256 : Nat) : Int) := by
 rw [Int.fdiv_eq_ediv_of_nonneg _ (by omega), ← Int.natCast_ediv]
 unfold u8 IntKind.wrap
 simp [IntKind.signed, IntKind.bits]
theorem crc_nat (bs : List Int) : ∃ c : Nat, crc bs = (c : Int) ∧ c < 4294967296 := by
 unfold crc xr
 generalize (BitVec.ofInt IntKind.u32.bits 4294967295 ^^^ BitVec.ofInt IntKind.u32.bits (crcF bs)).toNat = k
 refine ⟨k % 4294967296, ?_, Nat.mod_lt _ (by decide)⟩
 unfold IntKind.wrap
 simp [IntKind.signed, IntKind.bits]
theorem sumB_nat {c : Nat} (h : c < 4294967296) : sumB (c : Int) = [((c / 16777216 : Nat) : Int), ((c / 65536 % 256 : Nat) : Int), ((c / 256 % 256 : Nat) : Int), ((c % 256 : Nat) : Int)] := by
 have e1 : c / 16777216 % 256 = c / 16777216 := Nat.mod_eq_of_lt (by omega)
 have e4 : u8 (c : Int) = ((c % 256 : Nat) : Int) := by
  unfold u8 IntKind.wrap
  simp [IntKind.signed, IntKind.bits]
 have a1 := u8_div (c := c) (k := 16777216)
 have a2 := u8_div (c := c) (k := 65536)
 have a3 := u8_div (c := c) (k := 256)
 rw [e1] at a1
 unfold sumB
 rw [e4, ← a1, ← a2, ← a3]
 rfl
set_option maxRecDepth 100000
set_option maxHeartbeats 8000000
theorem f52c {q : Mg} (h : MgOk q) {x : AV} {post : List Int} (hx : ByS x (enc q ++ post)) (hlen : (enc q ++ post).length ≤ 1000000) : ∃ z, ByS z (mbody q) ∧ ∀ H L, WF X3 (.func 52 [] []) [x] ⟨H, L⟩ fun y m' => y = .tuple [z, .inil] ∧ m' = ⟨H, L⟩ := by
 have hml := mbody_len h
 obtain ⟨c, hc, hcb⟩ := crc_nat (mhead q)
 have hsb := sumB_nat hcb
 rw [← hc] at hsb
 obtain ⟨n, hn⟩ : ∃ n, n = (mbody q).length := ⟨_, rfl⟩
 have hmh : mhead q = (n : Int) :: mbody q := by rw [hn]; rfl
 have hmhl : (mhead q).length = 1 + n := by rw [hmh, hn]; simp; omega
 have hS4 : (sumB (crc (mhead q))).length = 4 := by rw [hsb]; rfl
 have hen : enc q ++ post = mhead q ++ (sumB (crc (mhead q)) ++ post) := by simp [enc]
 rw [hen] at hx hlen
 have hbl : (mhead q ++ (sumB (crc (mhead q)) ++ post)).length = 1 + n + 4 + post.length := by rw [List.length_append, List.length_append, hmhl, hS4]; omega
 obtain ⟨y1, hy1, hb1⟩ := hx.sl (lo := some (.int .i64 ((1 + n : Nat) : Int))) (hi := some (.int .i64 ((1 + n + 4 : Nat) : Int))) (a := 1 + n) (b := 1 + n + 4) (by omega) (by omega) (.inl rfl) (.inl rfl)
 obtain ⟨y2, hy2, hb2⟩ := hx.sl (lo := none) (hi := some (.int .i64 ((1 + n : Nat) : Int))) (a := 0) (b := 1 + n) (by omega) (by omega) (.inr ⟨rfl, rfl⟩) (.inl rfl)
 obtain ⟨z, hy3, hb3⟩ := hx.sl (lo := some (.int .i64 1)) (hi := some (.int .i64 ((1 + n : Nat) : Int))) (a := 1) (b := 1 + n) (by omega) (by omega) (.inl rfl) (.inl rfl)
 have e1 : ((mhead q ++ (sumB (crc (mhead q)) ++ post)).drop (1 + n)).take (1 + n + 4 - (1 + n)) = sumB (crc (mhead q)) := by
  rw [← hmhl, List.drop_left, hmhl, show 1 + n + 4 - (1 + n) = (sumB (crc (mhead q))).length by omega, List.take_left]
 have e2 : ((mhead q ++ (sumB (crc (mhead q)) ++ post)).drop 0).take (1 + n - 0) = mhead q := by
  rw [List.drop_zero, Nat.sub_zero, ← hmhl, List.take_left]
 have e3 : ((mhead q ++ (sumB (crc (mhead q)) ++ post)).drop 1).take (1 + n - 1) = mbody q := by
  rw [hmh, List.cons_append, List.drop_succ_cons, List.drop_zero, show 1 + n - 1 = (mbody q).length by omega, List.take_left]
 rw [e1] at hb1
 rw [e2] at hb2
 rw [e3] at hb3
 refine ⟨z, hb3, fun H L => ?_⟩
 have hs18 := fun m : Mem => s45 (m := m) (hb2.byVal m.heap) hb2 (by omega)
 have hxl := hx.len
 rw [hbl] at hxl
 have hyl := hb1.len
 rw [hS4] at hyl
 have hi0 : indexAddrAV 1 x (.int .i64 0) = some (.pval (.int .u8 (n : Int) :: uB (mbody q ++ (sumB (crc (mhead q)) ++ post)))) := by
  have := hx.at (i := 0) (by omega)
  rw [hmh] at this ⊢
  exact this
 rw [hsb] at hb1
 have hj0 := hb1.at (i := 0) (by simp)
 have hj1 := hb1.at (i := 1) (by simp)
 have hj2 := hb1.at (i := 2) (by simp)
 have hj3 := hb1.at (i := 3) (by simp)
 rw [hc] at hs18
 have hw : IntKind.i64.wrap (n : Int) = (n : Int) := wrap_id (by omega) (by omega)
 have hw2 : IntKind.i64.wrap (1 + (n : Int)) = ((1 + n : Nat) : Int) := by rw [wrap_id (by omega) (by omega)]; omega
 have hw3 : IntKind.i64.wrap (((1 + n : Nat) : Int) + 4) = ((1 + n + 4 : Nat) : Int) := by rw [wrap_id (by omega) (by omega)]; omega
 have w32 : ∀ k : Nat, k < 256 → IntKind.u32.wrap (k : Int) = (k : Int) := fun k hk => by
  unfold IntKind.wrap
  simp [IntKind.signed, IntKind.bits]
  omega
 have v0 := w32 (c / 16777216) (by omega)
 have v1 := w32 (c / 65536 % 256) (by omega)
 have v2 := w32 (c / 256 % 256) (by omega)
 have v3 := w32 (c % 256) (by omega)
 simp only [bnth, List.getD_cons_zero, List.getD_cons_succ, List.drop_succ_cons, List.drop_zero, Int.cast_ofNat_Int, Nat.reduceAdd] at hj0 hj1 hj2 hj3
 clear hsb hmh hen e1 e2 e3
 refine WF.fnE rfl (fn_of Tryz.func52 cir52) (by show 1 ≤ 68; decide) ?_
 unfold ir52; dsimp only [k0, kI, mV, oO, oG]
 simp only [padTo, List.replicate, List.nil_append, List.append_nil]
 repeat' (first | (refine WO.opE (by intro; exact ev_shl8 (c := 0) rfl rfl (by omega)) (by simp only [pt8, pt0]; rfl) ?_) | (refine WO.opE (by intro; exact ev_shl8 rfl rfl (by omega)) (by simp only [pt8, pt0]; rfl) ?_) | (refine WO.opE (by intro; exact ev_or8 rfl rfl (by omega) (by omega)) (by simp only [pt8, pt3]; rfl) ?_) | (refine WC.loop ?_) | (refine WO.opE (by intro; exact (by rw [ev_slice]; exact congrArg (Option.map _) (hy1 _))) (by simp only [pt8, pt1]; rfl) ?_) | (refine WO.opE (by intro; exact (by rw [ev_slice]; exact congrArg (Option.map _) (hy2 _))) (by simp only [pt8, pt1]; rfl) ?_) | (refine WO.opE (by intro; exact (by rw [ev_slice]; exact congrArg (Option.map _) (hy3 _))) (by simp only [pt8, pt3]; rfl) ?_) | (refine WO.yes rfl ?_) | (refine WO.opE (by intro; simp (disch := omega) only [go_sem, Zz.cut, Nat.reduceMul, Nat.reduceLeDiff, Int.reduceAdd, hi0, hj0, hj1, hj2, hj3, v0, v1, v2, v3, hw, hw2, hw3]; rfl) (by simp only [pt8, pt0, pt1, pt2, pt3, pt4, pt5, pt6, pt7]; rfl) ?_) | (refine WO.opE (by intro; exact ev_lenS (by simp only [go_sem]; first | rfl | assumption)) (by simp only [pt8, pt1, pt2]; rfl) ?_) | (refine WO.specE rfl rfl (hs18 _) (by simp only [pt8, pt2]; rfl) ?_) | (refine WC.seq ?_) | (refine WC.region ?_) | (refine WO.nil ?_) | (simp only [fl1]) | (refine WC.yes rfl ?_) | (refine WC.no rfl ?_) | (refine WC.skip ?_) | (refine WC.exit ?_) | (refine WC.ret ?_) | (refine WC.block ?_) | (refine WO.em2 rfl (by intro hp; simp only [hp, decide_true]; rfl) (by intro hp; simp only [hp, decide_false]; rfl) (fun hp => ?_) (fun hp => ?_) <;> try (exfalso; first | omega | contradiction)) | (refine WC.em2 rfl (fun hp => ?_) (fun hp => ?_) <;> try (exfalso; first | omega | contradiction)))
 all_goals first | (exfalso; omega) | exact ⟨_, rfl, rfl, rfl⟩
set_option maxRecDepth 100000
set_option maxHeartbeats 8000000
def Sh (bs : List Int) : Prop := bs = [] ∨ ∃ n r, bs = n :: r ∧ 4 ≤ n ∧ n ≤ 11 ∧ (r.length : Int) < n + 4
theorem f52s {H : Hp} {L : List (Option ALoop)} {x : AV} {bs : List Int} (hx : ByS x bs) (h : Sh bs) : WF X3 (.func 52 [] []) [x] ⟨H, L⟩ fun y m' => y = .tuple [.snil, flt (bs.length : Nat) 12] ∧ m' = ⟨H, L⟩ := by
 rcases h with rfl | ⟨n, r, rfl, h4, h11, hl⟩
 ·exact f52a hx
 ·exact f52b hx h4 h11 hl
theorem newV_flt {H : Hp} {l : List Int} {k a b : Int} : newV H (.tuple [.agg (l.map (.int .i64)), .int .i64 k, flt a b]) = some (.tuple [.agg (l.map (.int .i64)), .int .i64 k, flt a b]) := by
 have e : newL H (l.map (.int .i64)) = some (l.map (.int .i64)) := by
  induction l with
  | nil => rfl
  | cons x l ih => simp only [List.map_cons, newL, newC, ih]
 simp only [newV, newT, newA, newC, e, flt, newL]
theorem newV_inil {H : Hp} {l : List Int} {k : Int} : newV H (.tuple [.agg (l.map (.int .i64)), .int .i64 k, .inil]) = some (.tuple [.agg (l.map (.int .i64)), .int .i64 k, .inil]) := by
 have e : newL H (l.map (.int .i64)) = some (l.map (.int .i64)) := by
  induction l with
  | nil => rfl
  | cons x l ih => simp only [List.map_cons, newL, newC, ih]
 simp only [newV, newT, newA, newC, e]
def Mg.ints (m : Mg) : List Int := [m.k, m.f, m.t, m.s, m.b, m.w, m.v.s, m.v.c, m.v.n, m.v.d]
theorem Mg.cells_eq (m : Mg) : m.cells = m.ints.map (.int .i64) := rfl
theorem g28a {x : AV} {bs : List Int} (hx : ByS x bs) (h : Sh bs) : WF X3 (.func 28 [] []) [x] ⟨[], []⟩ fun y m' => newV m'.heap y = some (.tuple [.agg ([0, 0, 0, 0, 0, 0, 0, 0, 0, 0].map (.int .i64)), .int .i64 0, flt (bs.length : Nat) 12]) := by
 have hf := fun H L => f52s (H := H) (L := L) hx h
 have hni : ∀ a b, isNilAV (flt a b) = some false := fun _ _ => rfl
 refine WF.fnE rfl (fn_of Tryz.func28 cir28) (by show 1 ≤ 31; decide) ?_
 unfold ir28; dsimp only [k0, kI, mV, oO, oG]
 simp only [padTo, List.replicate, List.nil_append, List.append_nil]
 repeat' (first | (refine WO.opE (by intro; simp (disch := omega) only [go_sem, fillP, hni]; rfl) (by simp only [pt8, pt0, pt1, pt2, pt3, pt4, pt5, pt6, pt7]; rfl) ?_) | (refine WO.opN (by intro; simp (disch := omega) only [go_sem, Zz.look, Zz.over, Option.bind_eq_bind, Nat.reduceAdd, Nat.reduceLeDiff]; rfl) ?_) | (refine WO.callE rfl rfl (hf _ _) (by simp only [pt8, pt2]; rfl) ?_) | (refine WC.seq ?_) | (refine WC.region ?_) | (refine WO.nil ?_) | (simp only [fl1, fl2]) | (refine WC.yes rfl ?_) | (refine WC.ret ?_))
 all_goals exact ⟨_, rfl, newV_flt (l := [0, 0, 0, 0, 0, 0, 0, 0, 0, 0])⟩
theorem g28b {q : Mg} (h : MgOk q) {x : AV} {post : List Int} (hx : ByS x (enc q ++ post)) (hlen : (enc q ++ post).length ≤ 1000000) : WF X3 (.func 28 [] []) [x] ⟨[], []⟩ fun y m' => newV m'.heap y = some (.tuple [.agg q.cells, .int .i64 ((enc q).length : Nat), .inil]) := by
 obtain ⟨z, hz, hf⟩ := f52c h hx hlen
 have hm := fun b0 => f53 h hz (b0 := b0)
 have hml := mbody_len h
 have hzl := hz.len
 have hel : (enc q).length = 1 + (mbody q).length + 4 := by simp [enc, mhead, sumB]; omega
 have hxc := hz.cells
 rw [hel]
 generalize (mbody q).length = n at *
 rw [Mg.cells_eq] at *
 obtain ⟨k, f, t, s, b, w, v⟩ := q
 obtain ⟨vs, vc, vn, vd⟩ := v
 simp only [Mg.ints, List.map_cons, List.map_nil] at *
 have hw1 : IntKind.i64.wrap (1 + (n : Int)) = ((1 + n : Nat) : Int) := by rw [wrap_id (by omega) (by omega)]; omega
 have hw2 : IntKind.i64.wrap (((1 + n : Nat) : Int) + 4) = ((1 + n + 4 : Nat) : Int) := by rw [wrap_id (by omega) (by omega)]; omega
 refine WF.fnE rfl (fn_of Tryz.func28 cir28) (by show 1 ≤ 31; decide) ?_
 unfold ir28; dsimp only [k0, kI, mV, oO, oG]
 simp only [padTo, List.replicate, List.nil_append, List.append_nil]
 repeat' (first | (refine WO.opE (by intro; simp (disch := omega) only [go_sem]; rfl) (by simp only [pt8, pt0, pt1, pt2, pt3, pt4, pt5, pt6]; rfl) ?_) | (refine WO.callE rfl rfl (hf _ _) (by simp only [pt8, pt2]; rfl) ?_) | (refine WC.seq ?_) | (refine WC.region ?_) | (refine WO.nil ?_) | (simp only [fl1]) | (refine WC.no rfl ?_) | (refine WC.skip ?_))
 refine WO.call rfl rfl ((hm _).mono ?_)
 rintro y m' ⟨rfl, c1, c2, rfl⟩
 simp only [pt8, pt3]
 repeat' (first | (refine WO.opE (by intro; simp (disch := omega) only [go_sem, Zz.look, Zz.cut, Nat.reduceAdd, Nat.reduceLeDiff, hw1, hw2]; rfl) (by simp only [pt8, pt1, pt2, pt3, pt4, pt5, pt6, pt7]; rfl) ?_) | (refine WO.opN (by intro; simp (disch := omega) only [go_sem, Zz.look, Zz.over, Option.bind_eq_bind, Nat.reduceAdd, Nat.reduceLeDiff]; rfl) ?_) | (refine WO.opE (by intro; exact ev_lenS (by simp only [go_sem]; first | rfl | assumption)) (by simp only [pt8, pt4]; rfl) ?_) | (refine WC.seq ?_) | (refine WC.region ?_) | (refine WO.nil ?_) | (simp only [fl1]) | (refine WC.no rfl ?_) | (refine WC.skip ?_) | (refine WC.ret ?_))
 all_goals exact ⟨_, rfl, newV_inil (l := [k, f, t, s, b, w, vs, vc, vn, vd])⟩
theorem x28a {x z : AV} {bs : List Int} {m : Mem} (hz : Zz.byVal m.heap z = some x) (hx : ByS x bs) (h : Sh bs) : borrowX X3 28 [z] m = some (.tuple [.agg ([0, 0, 0, 0, 0, 0, 0, 0, 0, 0].map (.int .i64)), .int .i64 0, flt (bs.length : Nat) 12], m) :=
 borrowX_of (byVals_cons hz (byVals_nil _)) (g28a hx h)
theorem x28b {q : Mg} (h : MgOk q) {x z : AV} {post : List Int} {m : Mem} (hz : Zz.byVal m.heap z = some x) (hx : ByS x (enc q ++ post)) (hlen : (enc q ++ post).length ≤ 1000000) : borrowX X3 28 [z] m = some (.tuple [.agg q.cells, .int .i64 ((enc q).length : Nat), .inil], m) :=
 borrowX_of (byVals_cons hz (byVals_nil _)) (g28b h hx hlen)
noncomputable def X4a : Env := X3.put 28 (borrowX X3 28)
theorem X4a_ok : EnvOk Tryz.prog X4a := Env.put_ok X3_ok (borrowX_ok X3_ok (callable Tryz.func28 (by kernel_rfl)))
noncomputable def X4 : Env := X4a.put 29 isS
theorem X4_ok : EnvOk Tryz.prog X4 := Env.put_ok X4a_ok isS_ok
set_option maxRecDepth 100000
set_option maxHeartbeats 8000000
theorem WO_appendSl {Γ : Env} {r : List IOper} {T : List AV} {H : Hp} {L : List (Option ALoop)} {Q : St → Prop} {d k bytes q len : Nat} {sx x : Opd} {z : AV} {l c : List AV} {cap : Option Nat} (hs : sx.ev T = z) (hx : x.ev T = .sref q 0 0 k 1 cap)
  (h : SlH H z k l len) (hk : 0 < k) (hq : Zz.look H q 0 = some c) (hc : c.length = k) (hb : (len + 1) * bytes ≤ 140737488355328 ∧ len + 1 ≤ 140737488355328)
  (K : ∀ z' H', SlH H' z' k (l ++ c) (len + 1) → (∀ j, ¬ inB z j → j < H.length → H'[j]? = H[j]?) → (∀ j, inB z' j → inB z j ∨ j = H.length) → WO Γ r ⟨pt T d z', H', L⟩ Q) :
  WO Γ (⟨none, some d, .append k bytes sx x⟩ :: r) ⟨T, H, L⟩ Q := by
 obtain ⟨z', H', e1, e2, e3, e4, e5⟩ := SlH.push (L := L) (bytes := bytes) (cap := cap) h hk hq hc hb
 exact WO.opE (fun call => by simp only [ev_append, hs, hx, e1]) rfl (K z' H' e2 e3 e4)
theorem SlH.nil {H : Hp} {k : Nat} : SlH H .snil k [] 0 := ⟨by simp, .inl ⟨rfl, rfl⟩⟩
theorem SlH.more {H Y : Hp} {z : AV} {k len : Nat} {l : List AV} (h : SlH H z k l len) : SlH (H ++ Y) z k l len := h.keep fun j hj => List.getElem?_append_left (inB_lt h hj)
theorem SlH.newA {H : Hp} {z : AV} {k len : Nat} {l : List AV} (h : SlH H z k l len) (hf : l.all flatAV = true) : Zz.newA H z = some (slV l len) := by
 have h2 := h.resN hf (fun _ _ => rfl)
 obtain ⟨h1, ⟨rfl, rfl⟩ | ⟨_, id, g, rfl, _⟩⟩ := h
 ·rfl
 ·exact h2
def msF (qs : List Mg) : List AV := qs.flatMap Mg.cells
def encs (qs : List Mg) : List Int := qs.flatMap enc
theorem msF_flat (qs : List Mg) : (msF qs).all flatAV = true := by
 rw [List.all_eq_true]
 intro c hc
 obtain ⟨q, _, hc⟩ := List.mem_flatMap.1 hc
 rw [Mg.cells_eq] at hc
 obtain ⟨n, _, rfl⟩ := List.mem_map.1 hc
 rfl
theorem encs_len (ds : List Mg) : ds.length ≤ (encs ds).length := by
 induction ds with
 | nil => exact Nat.le_refl _
 | cons d ds ih =>
  have : (encs (d :: ds)).length = (enc d).length + (encs ds).length := by simp [encs]
  have h2 : 1 ≤ (enc d).length := by simp [enc, mhead]
  simp only [List.length_cons]
  omega
theorem isS_nil {m : Mem} {v : AV} : isS [.inil, .ifc 31 v] m = some (.bool false, m) := rfl
theorem isS_flt {m : Mem} {a : Int} : isS [flt a 12, .ifc 31 (.int .i64 12)] m = some (.bool true, newBlk m [.int .i64 a, .int .i64 12]) := by simp [isS, flt]
theorem g9 {x : AV} {qs : List Mg} {tail : List Int} (hq : ∀ q ∈ qs, MgOk q) (ht : Sh tail) (hx : ByS x (encs qs ++ tail)) (hlen : (encs qs ++ tail).length ≤ 1000000) :
  WF X4 (.func 9 [] []) [x] ⟨[], []⟩ fun y m' => newV m'.heap y = some (.tuple [slV (msF qs) qs.length, .int .i64 ((encs qs).length : Nat), .int .i64 0]) := by
 refine WF.fnE rfl (fn_of Tryz.func9 cir9) (by show 1 ≤ 34; decide) ?_
 unfold ir9; dsimp only [k0, kI, mV, oO, oG]
 simp only [padTo, List.replicate, List.nil_append, List.append_nil]
 repeat' (first | (refine WO.opE (by intro; simp (disch := omega) only [go_sem]; rfl) (by simp only [pt2, pt3, pt4, pt5, pt6]; rfl) ?_) | (refine WC.seq ?_) | (refine WC.region ?_) | (refine WO.nil ?_) | (simp only [fl1]) | (refine WC.block ?_))
 refine WC.loopI (fun m st => ∃ T H z c ds es, st = ⟨T, H, []⟩ ∧ T.length = 34 ∧ gt T 0 = x ∧ gt T 5 = z ∧ gt T 6 = .int .i64 (c : Nat) ∧ m = es.length ∧ qs = ds ++ es ∧ c = (encs ds).length ∧ SlH H z 10 (msF ds) ds.length) ?_ qs.length _ ⟨_, _, .snil, 0, [], qs, rfl, rfl, rfl, rfl, rfl, rfl, rfl, rfl, SlH.nil⟩
 rintro m _ ⟨T, H, z, c, ds, es, rfl, hT, g0, g5, g6, hm, hds, hc, hz⟩
 obtain ⟨f, rfl⟩ := ex34 hT
 clear hT
 replace g0 : f 0 = x := g0
 replace g5 : f 5 = z := g5
 replace g6 : f 6 = .int .i64 (c : Nat) := g6
 simp only [g0, g5, g6]
 have hel : (encs qs ++ tail).length = c + (encs es ++ tail).length := by rw [hds, hc]; simp [encs]
 have hed : (encs qs ++ tail).drop c = encs es ++ tail := by
  rw [hds, hc]
  unfold encs
  rw [List.flatMap_append, List.append_assoc, List.drop_left]
 obtain ⟨y, hy, hyb⟩ := hx.sl (lo := some (.int .i64 (c : Int))) (hi := none) (a := c) (b := (encs qs ++ tail).length) (by omega) (Nat.le_refl _) (.inl rfl) (.inr ⟨rfl, rfl⟩)
 rw [hed, List.take_of_length_le (by omega)] at hyb
 cases es with
 | nil =>
  simp only [encs, List.flatMap_nil, List.nil_append] at hyb
  have hs28 := fun m => x28a (m := m) (hyb.byVal m.heap) hyb ht
  generalize hN : tail.length = N at *
  simp only [List.map_cons, List.map_nil] at hs28
  repeat' (first | (refine WO.opE (by intro; exact (by rw [ev_slice]; exact congrArg (Option.map _) (hy _))) (by simp only [pt8, pt5]; rfl) ?_) | (refine WO.opE (by intro; simp (disch := omega) only [go_sem]; rfl) (by simp only [pt8, pt0, pt1, pt2, pt3, pt4, pt5, pt6, pt7]; rfl) ?_) | (refine WO.opN (by intro; simp (disch := omega) only [go_sem, Zz.over, Option.bind_eq_bind, Nat.reduceAdd, Nat.reduceLeDiff, lk0, st0, setBlk]; rfl) ?_) | (refine WO.specE rfl rfl (hs28 _) (by simp only [pt8, pt6]; rfl) ?_) | (refine WO.specE rfl rfl (isS_flt) (by simp only [pt8, pt4]; rfl) ?_) | (refine WC.seq ?_) | (refine WC.region ?_) | (refine WO.nil ?_) | (simp only [fl1, fl2, fl5, fl8]) | (refine WC.yes rfl ?_) | (refine WC.ret ?_) | (refine WC.block ?_))
  rw [List.append_nil] at hds
  subst hds hc
  refine ⟨_, rfl, ?_⟩
  show newV (H ++ _ ++ _) (.tuple [z, _, _]) = _
  simp only [newV, newT, hz.more.more.newA (msF_flat _)]
  rfl
 | cons e es =>
  have he : MgOk e := hq e (by rw [hds]; simp)
  have hyb2 : ByS y (enc e ++ (encs es ++ tail)) := by simpa [encs, List.append_assoc] using hyb
  have hl2 : (enc e ++ (encs es ++ tail)).length ≤ 1000000 := by
   have : (encs (e :: es) ++ tail).length = (enc e ++ (encs es ++ tail)).length := by simp [encs]
   omega
  have hs28 := fun m => x28b (m := m) he (hyb2.byVal m.heap) hyb2 hl2
  have hmF : msF (ds ++ [e]) = msF ds ++ e.cells := by simp [msF]
  have hcc : (encs (ds ++ [e])).length = c + (enc e).length := by rw [hc]; simp [encs]
  have hnn : c + (enc e).length ≤ 1000000 := by
   have : (encs (e :: es) ++ tail).length = (enc e).length + (encs es ++ tail).length := by simp [encs]
   omega
  have hdl : ds.length ≤ 1000000 := by
   have := encs_len ds
   omega
  generalize (enc e).length = n at *
  have hw1 : IntKind.i64.wrap ((c : Int) + (n : Int)) = ((c + n : Nat) : Int) := by rw [wrap_id (by omega) (by omega)]; omega
  rw [Mg.cells_eq] at hs28 hmF
  obtain ⟨k, hk⟩ : ∃ k, k = e := ⟨_, rfl⟩
  obtain ⟨e1, e2, e3, e4, e5, e6, v⟩ := e
  obtain ⟨v1, v2, v3, v4⟩ := v
  simp only [Mg.ints, List.map_cons, List.map_nil] at hs28 hmF
  repeat' (first | (refine WO.opE (by intro; exact (by rw [ev_slice]; exact congrArg (Option.map _) (hy _))) (by simp only [pt8, pt5]; rfl) ?_) | (refine WO.opE (by intro; simp (disch := omega) only [go_sem, Zz.over, Zz.cut, List.length_append, fillP, Option.bind_eq_bind, Nat.reduceAdd, Nat.reduceLeDiff, lk0]; rfl) (by simp only [pt8, pt0, pt1, pt2, pt3, pt4, pt5, pt7]; rfl) ?_) | (refine WO.opN (by intro; simp (disch := omega) only [go_sem, Zz.over, Option.bind_eq_bind, Nat.reduceAdd, Nat.reduceLeDiff, lk0, st0, setBlk]; rfl) ?_) | (refine WO.specE rfl rfl (hs28 _) (by simp only [pt8, pt6]; rfl) ?_) | (refine WO.specE rfl rfl (isS_nil) (by simp only [pt8, pt4]; rfl) ?_) | (refine WC.seq ?_) | (refine WC.region ?_) | (refine WO.nil ?_) | (simp only [fl1]) | (refine WC.no rfl ?_) | (refine WC.skip ?_) | (refine WC.block ?_))
  refine WO_appendSl (c := [.int .i64 e1, .int .i64 e2, .int .i64 e3, .int .i64 e4, .int .i64 e5, .int .i64 e6, .int .i64 v1, .int .i64 v2, .int .i64 v3, .int .i64 v4]) rfl rfl hz.more.more (by decide) (lk0 (by simp)) rfl (by omega) fun z' H' hz' _ _ => ?_
  simp only [pt8, pt6]
  rw [← hmF] at hz'
  repeat' (first | (refine WO.opE (by intro; simp (disch := omega) only [go_sem, hw1]; rfl) (by simp only [pt8, pt0, pt1, pt5, pt6, pt7]; rfl) ?_) | (refine WC.region ?_) | (refine WO.nil ?_) | (simp only [fl4, fl10]))
  subst hm
  exact ⟨es.length, by simp, _, _, z', c + n, ds ++ [_], es, rfl, rfl, rfl, rfl, rfl, rfl, by rw [hds]; simp, hcc.symm, by rw [List.length_append]; exact hz'⟩
theorem x9 {x z : AV} {qs : List Mg} {tail : List Int} {m : Mem} (hq : ∀ q ∈ qs, MgOk q) (ht : Sh tail) (hz : Zz.byVal m.heap z = some x) (hx : ByS x (encs qs ++ tail)) (hlen : (encs qs ++ tail).length ≤ 1000000) : borrowX X4 9 [z] m = some (.tuple [slV (msF qs) qs.length, .int .i64 ((encs qs).length : Nat), .int .i64 0], m) :=
 borrowX_of (byVals_cons hz (byVals_nil _)) (g9 hq ht hx hlen)
noncomputable def X5 : Env := X4.put 9 (borrowX X4 9)
theorem X5_ok : EnvOk Tryz.prog X5 := Env.put_ok X4_ok (borrowX_ok X4_ok (callable Tryz.func9 (by kernel_rfl)))
end Go.Proofs.YtgchabldcnmccacGreatDoor

