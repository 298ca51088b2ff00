import Derived.Test.YtpddngcgajjacaaL29zo
import Derived.Test.YtpddngcgajjacaaAbsG
set_option linter.unusedSimpArgs false
set_option linter.unusedVariables false
namespace Go.Proofs.Ytpddngcgajjacaa
open Go.Zz


noncomputable def G5 : Env := withSpec G0 [(10, borrowE G0 10), (13, borrowE Gs 13), (14, borrowE Gh 14), (17, borrowE Gh 17), (21, borrowE G0 21)]

theorem G5_ok : EnvOk Try.prog G5 := withSpec_ok fun p hp => by
  simp only [List.mem_cons, List.not_mem_nil, or_false] at hp
  rcases hp with rfl | rfl | rfl | rfl | rfl
  · exact borrowE_ok G0_ok (callable Try.func10 (by kernel_rfl))
  · exact borrowE_ok Gs_ok (callable Try.func13 (by kernel_rfl))
  · exact borrowE_ok Gh_ok (callable Try.func14 (by kernel_rfl))
  · exact borrowE_ok Gh_ok (callable Try.func17 (by kernel_rfl))
  · exact borrowE_ok G0_ok (callable Try.func21 (by kernel_rfl))

/-- What the receiver has behind i packets. -/
def gotW (sn : Nat) (qs : List Int) (i : Nat) : List Int := List.replicate sn 0 ++ qs.take i
theorem gotW_len {sn : Nat} {qs : List Int} {i : Nat} (h : i ≤ qs.length) : (gotW sn qs i).length = sn + i := by simp [gotW]; omega
theorem gotW_succ {sn : Nat} {qs : List Int} {i : Nat} (h : i < qs.length) : gotW sn qs (i + 1) = gotW sn qs i ++ [qs[i]] := by
  unfold gotW
  rw [List.take_succ_eq_append_getElem h, List.append_assoc]

structure Win (sn : Nat) (q : AV) (qs : List Int) (i : Nat) (M : Hp) : Prop where
  m0 : Zz.look M 0 0 = some [.int .i64 (sn : Int), q]
  m3 : Zz.look M 3 0 = some [.bool true, .int .i64 ((sn + i : Nat) : Int), .int .i64 0]
  got : ∃ id e o c, Zz.look M 2 0 = some [.sref id e o 1 (sn + i) c] ∧ id < M.length ∧ Rd 1 M (.sref id e o 1 (sn + i) c) (gotW sn qs i).length ((gotW sn qs i).map (.int .i64))

theorem outs_get : ∀ {s : Int} {l : List Int} {i : Nat} (h : i < l.length), (outs s l)[i]? = some (false, s + i, l[i])
  | s, b :: r, 0, h => by simp [outs]
  | s, b :: r, i + 1, h => by
    simp only [outs, List.getElem?_cons_succ, List.getElem_cons_succ]
    rw [outs_get (by simpa using h)]
    simp only [Option.some.injEq, Prod.mk.injEq, true_and, and_true]
    omega

theorem PackS.at {l : AV} {ps : List Pkt} (h : PackS l ps) {i : Nat} {p : Pkt} (hp : ps[i]? = some p) : ∃ rest, indexAddrAV 3 l (.int .i64 (i : Int)) = some (.pval (.bool p.1 :: .int .i64 p.2.1 :: .int .i64 p.2.2 :: rest)) := by
  obtain ⟨hi, e⟩ := List.getElem?_eq_some_iff.1 hp
  rcases h with ⟨_, h⟩ | ⟨f, rfl⟩
  · subst h; simp at hi
  · refine ⟨pcells (ps.drop (i + 1)), ?_⟩
    simp only [indexAddrAV, idx]
    rw [if_pos ⟨by omega, by omega⟩]
    simp only [Option.map_some, Int.toNat_natCast, Option.some.injEq, AV.pval.injEq]
    have := pcells_drop i ps
    unfold pcells at this ⊢
    rw [this, List.drop_eq_getElem_cons hi, e]
    rfl

theorem strike_two {M : Hp} {a b : Option Blk} : strike (strike (M ++ [a, b]) M.length (M.length + 1)) (M.length + 1) (M.length + 2) = M ++ [none, none] := by
  have h1 : strike (M ++ [a, b]) M.length (M.length + 1) = (M ++ [none]) ++ [b] := by
    rw [strike_new (by omega)]
    simp
  have h2 := strike_last (H := M ++ [none]) (b := b)
  rw [h1]
  simpa using h2

set_option maxRecDepth 20000 in
theorem window_loop {l q : AV} {sn : Nat} {qs : List Int} {w : Nat} (hq : IntS q qs) (hl : PackS l (outs sn (qs.take w))) (hw : w ≤ qs.length) (hsw : sn + w ≤ 1000) (hb : sn + qs.length ≤ 1000) {lb : IR} (hlb : lb = match ir8.body with | .seq _ (.seq _ (.seq _ (.seq _ (.seq _ (.seq _ (.seq _ (.seq (.seq _ (.block _ (.loop b))) _))))))) => b | _ => .skip) :
    ∀ (k i : Nat), i + k = w → ∀ (M : Hp), Win sn q qs i M → ∀ (u0 u5 u9 u10 u11 u12 u13 u14 u15 u16 u17 u18 u19 u20 u21 u22 u23 u24 u25 u26 u27 u28 u29 u30 u31 u32 u33 u34 u35 u36 u37 u38 u39 u40 u41 u42 u43 u44 u45 u46 u47 u48 u49 u50 u51 u52 u53 u54 u55 u56 u57 u58 u59 u60 u61 u62 u63 u64 u65 u66 u67 u68 u69 u70 u71 u72 u73 u74 u75 u76 u77 u78 u79 u80 u81 u82 u83 u84 u85 u86 u87 u88 u89 u90 u91 u92 u93 u94 u95 u96 u97 u98 u99 u100 u101 u102 u103 u104 u105 u106 u107 u108 u109 u110 u111 u112 u113 u114 u115 u116 u117 u118 u119 u120 u121 u122 u123 u124 u125 u126 u127 u128 u129 u130 u131 u132 u133 u134 u135 u136 u137 u138 u139 u140 u141 u142 u143 u144 u145 u146 u147 u148 u149 u150 u151 u152 : AV),
    WC G5 (.loop lb) ⟨[u0, .pref 0 0 0, .bool false, .bool true, l, u5, .pref 2 0 0, .pref 3 0 0, .int .i64 (i : Int), u9, u10, u11, u12, u13, u14, u15, u16, u17, u18, u19, u20, u21, u22, u23, u24, u25, u26, u27, u28, u29, u30, u31, u32, u33, u34, u35, u36, u37, u38, u39, u40, u41, u42, u43, u44, u45, u46, u47, u48, u49, u50, u51, u52, u53, u54, u55, u56, u57, u58, u59, u60, u61, u62, u63, u64, u65, u66, u67, u68, u69, u70, u71, u72, u73, u74, u75, u76, u77, u78, u79, u80, u81, u82, u83, u84, u85, u86, u87, u88, u89, u90, u91, u92, u93, u94, u95, u96, u97, u98, u99, u100, u101, u102, u103, u104, u105, u106, u107, u108, u109, u110, u111, u112, u113, u114, u115, u116, u117, u118, u119, u120, u121, u122, u123, u124, u125, u126, u127, u128, u129, u130, u131, u132, u133, u134, u135, u136, u137, u138, u139, u140, u141, u142, u143, u144, u145, u146, u147, u148, u149, u150, u151, u152], M, []⟩ fun e s' => e = .exit 0 ∧ s'.loops = [] ∧ Win sn q qs w s'.heap ∧ s'.T.length = 153 ∧ gt s'.T 1 = .pref 0 0 0 ∧ gt s'.T 2 = .bool false ∧ gt s'.T 3 = .bool true ∧ gt s'.T 4 = l ∧ gt s'.T 6 = .pref 2 0 0 ∧ gt s'.T 7 = .pref 3 0 0 := by
  subst hlb
  unfold ir8
  simp (config := { maxSteps := 10000000 }) only
  have hlen : slen l = some w := by
    rw [(hl.rd []).1, outs_len, List.length_take, Nat.min_eq_left hw]
  intro k
  induction k with
  | zero =>
    intro i hi M hM u0 u5 u9 u10 u11 u12 u13 u14 u15 u16 u17 u18 u19 u20 u21 u22 u23 u24 u25 u26 u27 u28 u29 u30 u31 u32 u33 u34 u35 u36 u37 u38 u39 u40 u41 u42 u43 u44 u45 u46 u47 u48 u49 u50 u51 u52 u53 u54 u55 u56 u57 u58 u59 u60 u61 u62 u63 u64 u65 u66 u67 u68 u69 u70 u71 u72 u73 u74 u75 u76 u77 u78 u79 u80 u81 u82 u83 u84 u85 u86 u87 u88 u89 u90 u91 u92 u93 u94 u95 u96 u97 u98 u99 u100 u101 u102 u103 u104 u105 u106 u107 u108 u109 u110 u111 u112 u113 u114 u115 u116 u117 u118 u119 u120 u121 u122 u123 u124 u125 u126 u127 u128 u129 u130 u131 u132 u133 u134 u135 u136 u137 u138 u139 u140 u141 u142 u143 u144 u145 u146 u147 u148 u149 u150 u151 u152
    have hlt : ¬ ((i : Int) < (w : Int)) := by omega
    have e : i = w := by omega
    subst e
    refine WC.loop (WC.seq (WC.seq (WC.region ?_)))
    repeat (first
      | (refine WO.yes rfl ?_)
      | (refine WO.no rfl ?_; simp only [pt])
      | (refine WO.op (by intro; simp only [go_sem, fillP, over, cut, nilCheckAV]; rfl) ?_; simp only [pt])
      | (refine WO.op (by intro; exact ev_lenS rfl) ?_; simp only [pt])
      | (refine WO.opN (by intro; simp only [go_sem, storeAt, Option.bind_eq_bind, over, setBlk, cut]; rfl) ?_))
    refine WO.op (by intro; exact ev_lenS (n := i) (by simp only [go_sem]; exact hlen)) ?_
    simp only [pt]
    repeat (first
      | (refine WO.yes rfl ?_)
      | (refine WO.no rfl ?_; simp only [pt])
      | (refine WO.op (by intro; simp only [go_sem, fillP, over, cut, nilCheckAV, hlt, decide_false]; rfl) ?_; simp only [pt])
      | (refine WO.op (by intro; exact ev_lenS rfl) ?_; simp only [pt])
      | (refine WO.opN (by intro; simp only [go_sem, storeAt, Option.bind_eq_bind, over, setBlk, cut, hlt, decide_false]; rfl) ?_))
    refine WO.nil ?_
    simp only [Then, Out]
    refine WC.no (by simp only [go_sem, hlt, decide_false]) (WC.exit ?_)
    exact ⟨rfl, rfl, hM, rfl, rfl, rfl, rfl, rfl, rfl, rfl⟩
  | succ k ih =>
    intro i hi M hM u0 u5 u9 u10 u11 u12 u13 u14 u15 u16 u17 u18 u19 u20 u21 u22 u23 u24 u25 u26 u27 u28 u29 u30 u31 u32 u33 u34 u35 u36 u37 u38 u39 u40 u41 u42 u43 u44 u45 u46 u47 u48 u49 u50 u51 u52 u53 u54 u55 u56 u57 u58 u59 u60 u61 u62 u63 u64 u65 u66 u67 u68 u69 u70 u71 u72 u73 u74 u75 u76 u77 u78 u79 u80 u81 u82 u83 u84 u85 u86 u87 u88 u89 u90 u91 u92 u93 u94 u95 u96 u97 u98 u99 u100 u101 u102 u103 u104 u105 u106 u107 u108 u109 u110 u111 u112 u113 u114 u115 u116 u117 u118 u119 u120 u121 u122 u123 u124 u125 u126 u127 u128 u129 u130 u131 u132 u133 u134 u135 u136 u137 u138 u139 u140 u141 u142 u143 u144 u145 u146 u147 u148 u149 u150 u151 u152
    have hlt : ((i : Int) < (w : Int)) := by omega
    have hiq : i < qs.length := by omega
    obtain ⟨rest, hidx⟩ := hl.at (outs_get (s := sn) (l := qs.take w) (i := i) (by rw [List.length_take]; omega))
    simp only [List.getElem_take] at hidx
    have hidq := hq.at hiq
    have hdq := drop_at hiq
    obtain ⟨id, e, o, c, hm2, hid, hrd⟩ := hM.got
    have hm0 := hM.m0
    have hm3 := hM.m3
    have hgl := gotW_len (sn := sn) (Nat.le_of_lt hiq)
    have hw1 : IntKind.wrap .i64 ((sn : Int) + (i : Int)) = (sn : Int) + (i : Int) := wrap_id (by omega) (by omega)
    have hw2 : IntKind.wrap .i64 ((sn : Int) + (i : Int) + 1) = ((sn + (i + 1) : Nat) : Int) := by rw [wrap_id (by omega) (by omega)]; rfl
    have hwi : IntKind.wrap .i64 ((i : Int) + 1) = ((i + 1 : Nat) : Int) := by rw [wrap_id (by omega) (by omega)]; rfl
    have hld3 : ∀ M, loadAV M true 3 (.pval (.bool false :: .int .i64 ((sn : Int) + (i : Int)) :: .int .i64 qs[i] :: rest)) = some (.agg [.bool false, .int .i64 ((sn : Int) + (i : Int)), .int .i64 qs[i]]) := fun M => by
      simp [loadAV, loadCs, cut]
    generalize hk : M.length = k0 at hid
    refine WC.loop (WC.seq (WC.seq (WC.region ?_)))
    repeat (first
      | (refine WO.yes rfl ?_)
      | (refine WO.no rfl ?_; simp only [pt])
      | (refine WO.op (by intro; simp only [go_sem, fillP, over, cut, nilCheckAV]; rfl) ?_; simp only [pt])
      | (refine WO.op (by intro; exact ev_lenS rfl) ?_; simp only [pt])
      | (refine WO.opN (by intro; simp only [go_sem, storeAt, Option.bind_eq_bind, over, setBlk, cut]; rfl) ?_))
    refine WO.op (by intro; exact ev_lenS (n := w) (by simp only [go_sem]; exact hlen)) ?_
    simp only [pt]
    repeat (first
      | (refine WO.yes rfl ?_)
      | (refine WO.no rfl ?_; simp only [pt])
      | (refine WO.op (by intro; simp only [go_sem, fillP, over, cut, nilCheckAV, hlt, decide_true]; rfl) ?_; simp only [pt])
      | (refine WO.op (by intro; exact ev_lenS rfl) ?_; simp only [pt])
      | (refine WO.opN (by intro; simp only [go_sem, storeAt, Option.bind_eq_bind, over, setBlk, cut, hlt, decide_true]; rfl) ?_))
    refine WO.nil ?_
    simp only [Then, Out]
    refine WC.yes (by simp only [go_sem, hlt, decide_true]) (WC.skip ?_)
    simp only [Then, Out]
    refine WC.seq (WC.block (WC.seq (WC.seq (WC.calm rfl ?_))))
    simp only [List.map]
    repeat (first
      | (refine WO.yes rfl ?_)
      | (refine WO.no rfl ?_; simp only [pt])
      | (refine WO.op (by intro; simp only [go_sem, fillP, over, cut, nilCheckAV, hidx, hidq, hdq, hm0, hw1, bne_self_eq_false, List.drop_zero, List.drop_succ_cons]; rfl) ?_; simp only [pt])
      | (refine WO.op (by intro; exact ev_lenS rfl) ?_; simp only [pt])
      | (refine WO.opN (by intro; simp only [go_sem, storeAt, Option.bind_eq_bind, over, setBlk, cut, hidx, hidq, hdq, hm0, hw1, bne_self_eq_false, List.drop_zero, List.drop_succ_cons]; rfl) ?_))
    refine WO.nil ?_
    simp only [Then, Out]
    refine WC.no (by rfl) (WC.skip ?_)
    simp only [Then, Out]
    refine WC.seq (WC.draw ?_)
    refine WD.read (by intro; simp only [go_sem, cut, hm2]; rfl) ?_
    simp only [pt, St.put, List.nil_append, List.cons_append]
    refine WD.free rfl (by intro; simp only [go_sem, fillP, over, cut, nilCheckAV]; rfl) ?_
    simp only [pt, St.put, List.nil_append, List.cons_append]
    refine WD.free rfl (by intro; simp only [go_sem, fillP, over, cut, nilCheckAV]; rfl) ?_
    simp only [pt, St.put, List.nil_append, List.cons_append]
    refine WD.free rfl (by intro; simp only [go_sem, fillP, over, cut, nilCheckAV, hidx]; rfl) ?_
    simp only [pt, St.put, List.nil_append, List.cons_append]
    refine WD.read (by intro; rw [ev_load]; exact (congrArg (Option.map _) (hld3 _)).trans rfl) ?_
    simp only [pt, St.put, List.nil_append, List.cons_append]
    refine WD.newS rfl (by intro; simp only [go_sem, fillP, over, cut]; rfl) (by simp) ?_
    simp only [pt, St.put, List.nil_append, List.cons_append]
    refine WD.newS rfl (by intro; simp only [go_sem, fillP, over, cut]; rfl) (by simp) ?_
    simp only [pt, St.put, List.nil_append, List.cons_append]
    simp only [List.append_assoc, List.cons_append, List.nil_append, List.append_nil, List.length_append, List.length_cons, List.length_nil, Nat.zero_add, Nat.reduceAdd, Nat.add_assoc, List.take, List.drop, hk]
    refine WD.callApp (by simp [hk]) ?_
    have hS := strike_two (M := M) (a := some (Blk.mk 0 [AV.snil])) (b := some (Blk.mk 0 [.bool false, .int .i64 0, .int .i64 0]))
    rw [hk] at hS
    simp only [strikes, List.getElem?_cons_succ, List.getElem?_cons_zero, strikeV_blanks, hS]
    have hrdV : Rd 1 (M ++ [none, none]) (.sref id e o 1 (sn + i) c) (gotW sn qs i).length ((gotW sn qs i).map (.int .i64)) := hrd.same (Same.app _ (S := fun _ => False)) (fun id2 g o s n c e => by cases e; exact ⟨by omega, fun h => h⟩)
    refine (take_at (Γ := G5) (L := []) (ps := (sn : Int) + (i : Int)) (b := qs[i]) rfl (fn_of Try.func19 cir19) rfl (fn_of Try.func28 cir28) hrdV ⟨_, _, _, _, _, _, rfl, by simp; omega⟩ (by rw [hgl]; rfl) (by rw [hgl]; omega)).mono ?_
    rintro y m' ⟨j, g', R, rfl, rfl, hR⟩
    refine ⟨R, rfl, fun W => ?_⟩
    rw [hgl]
    simp only [pt, List.append_assoc, List.cons_append, List.nil_append, List.append_nil, List.length_append, List.length_cons, List.length_nil, Nat.zero_add, Nat.reduceAdd, Nat.add_assoc, List.take, List.drop, hk]
    have hkr : ∀ R j e, Zz.look (M ++ R) (k0 + j) e = Zz.look R j e := fun R j e => by rw [← hk]; exact look_right
    have q0 : ∀ R, Zz.look (M ++ (some (Blk.mk 0 [AV.snil]) :: R)) k0 0 = some [.snil] := fun R => (hkr _ 0 0).trans rfl
    have q1 : ∀ x R, Zz.look (M ++ (x :: some (Blk.mk 0 [.bool false, .int .i64 0, .int .i64 0]) :: R)) (k0 + 1) 0 = some [.bool false, .int .i64 0, .int .i64 0] := fun x R => (hkr _ 1 0).trans rfl
    have s0 : ∀ x y R, (M ++ (x :: R)).set k0 y = M ++ (y :: R) := fun x y R => by rw [← hk, List.set_append_right (h := Nat.le_refl _)]; simp
    have s1 : ∀ x y z R, (M ++ (x :: y :: R)).set (k0 + 1) z = M ++ (x :: z :: R) := fun x y z R => by
      have hle : List.length M ≤ k0 + 1 := by omega
      rw [List.set_append_right (h := hle), hk, show k0 + 1 - k0 = 1 by omega]; simp
    refine WD.calmN 7 rfl ?_
    simp only [List.take, List.drop, List.map]
    repeat (first
      | (refine WO.yes rfl ?_)
      | (refine WO.no rfl ?_; simp only [pt])
      | (refine WO.op (by intro; simp only [go_sem, fillP, over, cut, nilCheckAV, q0]; rfl) ?_; simp only [pt])
      | (refine WO.op (by intro; exact ev_lenS rfl) ?_; simp only [pt])
      | (refine WO.opN (by intro; simp only [go_sem, storeAt, Option.bind_eq_bind, over, setBlk, cut, q0]; rfl) ?_))
    simp only [List.take, List.drop, List.nil_append, List.append_nil, List.cons_append, List.length_cons, List.length_nil, Nat.zero_add, Nat.reduceAdd, s0]
    repeat (first
      | (refine WO.yes rfl ?_)
      | (refine WO.no rfl ?_; simp only [pt])
      | (refine WO.op (by intro; simp only [go_sem, fillP, over, cut, nilCheckAV, q1]; rfl) ?_; simp only [pt])
      | (refine WO.op (by intro; exact ev_lenS rfl) ?_; simp only [pt])
      | (refine WO.opN (by intro; simp only [go_sem, storeAt, Option.bind_eq_bind, over, setBlk, cut, q1]; rfl) ?_))
    simp only [List.take, List.drop, List.nil_append, List.append_nil, List.cons_append, List.length_cons, List.length_nil, Nat.zero_add, Nat.reduceAdd, s1]
    repeat (first
      | (refine WO.yes rfl ?_)
      | (refine WO.no rfl ?_; simp only [pt])
      | (refine WO.op (by intro; simp only [go_sem, fillP, over, cut, nilCheckAV]; rfl) ?_; simp only [pt])
      | (refine WO.op (by intro; exact ev_lenS rfl) ?_; simp only [pt])
      | (refine WO.opN (by intro; simp only [go_sem, storeAt, Option.bind_eq_bind, over, setBlk, cut]; rfl) ?_))
    refine WO.nil ?_
    intro seen
    refine WD.nil ?_
    simp only [Then, Out]
    have hM2 : ∀ R id e, id < k0 → Zz.look (M ++ R) id e = Zz.look M id e := fun R id e h => look_left (by omega)
    have hk4 : 3 < k0 := by have := look_lt hm3; omega
    have hm0' : ∀ R, Zz.look (M ++ R) 0 0 = some [.int .i64 (sn : Int), q] := fun R => by rw [hM2 _ _ _ (by omega)]; exact hm0
    have v0 : ∀ R, Zz.look (M ++ (some (Blk.mk 0 [.sref (k0 + (2 + j)) g' 0 1 (sn + (i + 1)) none]) :: R)) k0 0 = some [.sref (k0 + (2 + j)) g' 0 1 (sn + (i + 1)) none] := fun R => (hkr _ 0 0).trans rfl
    have v1 : ∀ x R, Zz.look (M ++ (x :: some (Blk.mk 0 [.bool true, .int .i64 ((sn + (i + 1) : Nat) : Int), .int .i64 0]) :: R)) (k0 + 1) 0 = some [.bool true, .int .i64 ((sn + (i + 1) : Nat) : Int), .int .i64 0] := fun x R => (hkr _ 1 0).trans rfl
    have hR2 : ∀ x y, Zz.look (M ++ (x :: y :: R)) (k0 + (2 + j)) g' = some ((gotW sn qs i ++ [qs[i]]).map (.int .i64)) := fun x y => by
      rw [hkr, ← hR]
      unfold Zz.look
      rw [show 2 + j = j + 1 + 1 by omega]
      simp only [List.getElem?_cons_succ]
    have hidv : indexAddrAV 1 (.sref (k0 + (2 + j)) g' 0 1 (sn + (i + 1)) none) (.int .i64 ((sn : Int) + (i : Int))) = some (.pref (k0 + (2 + j)) g' (sn + i)) := by
      simp only [indexAddrAV, if_true, idx]
      rw [if_pos ⟨by omega, by omega⟩]
      simp only [Option.map_some, Nat.mul_one, Nat.zero_add, Option.some.injEq, AV.pref.injEq, true_and]
      omega
    have hldv : ((gotW sn qs i ++ [qs[i]]).map (AV.int .i64))[sn + i]? = some (.int .i64 qs[i]) := by
      rw [List.map_append, List.getElem?_append_right (by rw [List.length_map, hgl]; exact Nat.le_refl _), List.length_map, hgl]
      simp
    refine WC.seq (WC.seq (WC.calm rfl ?_))
    simp only [List.map]
    repeat (first
      | (refine WO.yes rfl ?_)
      | (refine WO.no rfl ?_; simp only [pt])
      | (refine WO.op (by intro; simp only [go_sem, fillP, over, cut, nilCheckAV, v0, v1, hm0', hw1, hw2, hR2, hidv, hldv, hidq, hdq, bne_self_eq_false, List.drop_zero, List.drop_succ_cons]; rfl) ?_; simp only [pt])
      | (refine WO.op (by intro; exact ev_lenS rfl) ?_; simp only [pt])
      | (refine WO.opN (by intro; simp only [go_sem, storeAt, Option.bind_eq_bind, over, setBlk, cut, v0, v1, hm0', hw1, hw2, hR2, hidv, hldv, hidq, hdq, bne_self_eq_false, List.drop_zero, List.drop_succ_cons]; rfl) ?_))
    refine WO.nil ?_
    simp only [Then, Out]
    refine WC.no (by rfl) (WC.skip ?_)
    simp only [Then, Out]
    have hm2' : ∀ R, Zz.look (M ++ R) 2 0 = some [.sref id e o 1 (sn + i) c] := fun R => by rw [hM2 _ _ _ (by omega)]; exact hm2
    have hs2 : ∀ R x, (M ++ R).set 2 x = M.set 2 x ++ R := fun R x => set_left (by omega)
    have hs3 : ∀ R x y, (M.set 2 x ++ R).set 3 y = (M.set 2 x).set 3 y ++ R := fun R x y => set_left (by simp; omega)
    have v1' : ∀ y x R, Zz.look (M.set 2 y ++ (x :: some (Blk.mk 0 [.bool true, .int .i64 ((sn + (i + 1) : Nat) : Int), .int .i64 0]) :: R)) (k0 + 1) 0 = some [.bool true, .int .i64 ((sn + (i + 1) : Nat) : Int), .int .i64 0] := fun y x R => by
      have e0 : List.length (M.set 2 y) = k0 := by rw [List.length_set, hk]
      rw [← e0, look_right]
      rfl
    have hm3' : ∀ y R, Zz.look (M.set 2 y ++ R) 3 0 = some [.bool true, .int .i64 ((sn + i : Nat) : Int), .int .i64 0] := fun y R => by
      rw [look_left (by simp; omega), look_of_get (List.getElem?_set_ne (by omega))]
      exact hm3
    refine WC.seq (WC.region ?_)
    repeat (first
      | (refine WO.yes rfl ?_)
      | (refine WO.no rfl ?_; simp only [pt])
      | (refine WO.op (by intro; simp only [go_sem, fillP, over, cut, nilCheckAV, v0, hm2', hs2]; rfl) ?_; simp only [pt])
      | (refine WO.op (by intro; exact ev_lenS rfl) ?_; simp only [pt])
      | (refine WO.opN (by intro; simp only [go_sem, storeAt, Option.bind_eq_bind, over, setBlk, cut, v0, hm2', hs2]; rfl) ?_))
    refine WO.nil ?_
    simp only [Then, Out, List.take, List.drop, List.nil_append, List.append_nil, List.cons_append, List.length_cons, List.length_nil, Nat.zero_add, Nat.reduceAdd]
    refine WC.region ?_
    repeat (first
      | (refine WO.yes rfl ?_)
      | (refine WO.no rfl ?_; simp only [pt])
      | (refine WO.op (by intro; simp only [go_sem, fillP, over, cut, nilCheckAV, v1', hm3', hs3]; rfl) ?_; simp only [pt])
      | (refine WO.op (by intro; exact ev_lenS rfl) ?_; simp only [pt])
      | (refine WO.opN (by intro; simp only [go_sem, storeAt, Option.bind_eq_bind, over, setBlk, cut, v1', hm3', hs3]; rfl) ?_))
    refine WO.nil ?_
    simp only [Then, Out, List.take, List.drop, List.nil_append, List.append_nil, List.cons_append, List.length_cons, List.length_nil, Nat.zero_add, Nat.reduceAdd]
    refine WC.region ?_
    repeat (first
      | (refine WO.yes rfl ?_)
      | (refine WO.no rfl ?_; simp only [pt])
      | (refine WO.op (by intro; simp only [go_sem, fillP, over, cut, nilCheckAV, hwi]; rfl) ?_; simp only [pt])
      | (refine WO.op (by intro; exact ev_lenS rfl) ?_; simp only [pt])
      | (refine WO.opN (by intro; simp only [go_sem, storeAt, Option.bind_eq_bind, over, setBlk, cut, hwi]; rfl) ?_))
    refine WO.nil ?_
    simp only [Then, Out]
    refine ih (i + 1) (by omega) _ ?_ _ _ _ _ _ _ _ _ _ _ _ _ _ _ _ _ _ _ _ _ _ _ _ _ _ _ _ _ _ _ _ _ _ _ _ _ _ _ _ _ _ _ _ _ _ _ _ _ _ _ _ _ _ _ _ _ _ _ _ _ _ _ _ _ _ _ _ _ _ _ _ _ _ _ _ _ _ _ _ _ _ _ _ _ _ _ _ _ _ _ _ _ _ _ _ _ _ _ _ _ _ _ _ _ _ _ _ _ _ _ _ _ _ _ _ _ _ _ _ _ _ _ _ _ _ _ _ _ _ _ _ _ _ _ _ _ _ _ _ _ _ _ _ _ _ _
    have e0 : ∀ x y, List.length ((M.set 2 x).set 3 y) = k0 := fun x y => by rw [List.length_set, List.length_set, hk]
    have hlow : ∀ x y R id e, id < k0 → id ≠ 2 → id ≠ 3 → Zz.look ((M.set 2 x).set 3 y ++ R) id e = Zz.look M id e := fun x y R id e h1 h2 h3 => by
      rw [look_left (by rw [e0]; exact h1), look_of_get (List.getElem?_set_ne (by omega)), look_of_get (List.getElem?_set_ne (by omega))]
    refine ⟨by rw [hlow _ _ _ _ _ (by omega) (by omega) (by omega)]; exact hm0, ?_, k0 + (2 + j), g', 0, none, ?_, ?_, ?_⟩
    · rw [look_left (by rw [e0]; omega)]
      exact look_set (by simp; omega)
    · rw [look_left (by rw [e0]; omega), look_of_get (List.getElem?_set_ne (by omega))]
      exact look_set (by omega)
    · have := look_lt (hR2 none none)
      simp only [List.length_append, List.length_cons, hk] at this
      simp only [List.length_append, List.length_cons, e0]
      exact this
    · have hlen2 : (gotW sn qs (i + 1)).length = sn + (i + 1) := gotW_len (by omega)
      refine ⟨by rw [hlen2]; rfl, ?_, by simp, fun k g o s c cap e => by cases e; rfl⟩
      have e1 : ∀ x y z R, Zz.look ((M.set 2 x).set 3 y ++ (z :: R)) (k0 + (2 + j)) g' = Zz.look (M ++ (z :: R)) (k0 + (2 + j)) g' := fun x y z R => by
        rw [hkr, ← e0 x y, look_right]
      simp only [scells, if_true, e1, hR2, Option.bind_some, cut, Nat.zero_add, Nat.mul_one]
      rw [gotW_succ hiq]
      rw [if_pos (by rw [List.length_map, List.length_append, hgl]; simp; omega)]
      simp only [List.drop_zero, Option.some.injEq]
      rw [List.take_of_length_le]
      rw [List.length_map, List.length_append, hgl]; simp; omega
end Go.Proofs.Ytpddngcgajjacaa

