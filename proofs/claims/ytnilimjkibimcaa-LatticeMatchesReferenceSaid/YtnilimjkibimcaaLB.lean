import Derived.Test.YtnilimjkibimcaaLA
import Derived.Test.YtnilimjkibimcaaTT
import Derived.Test.YtnilimjkibimcaaIrZ
import Derived.Test.YtnilimjkibimcaaPS

set_option linter.unusedSimpArgs false
set_option linter.unusedVariables false

namespace Go.Proofs.Ytnilimjkibimcaa
open Go.Zz
set_option maxRecDepth 100000
set_option maxHeartbeats 8000000
theorem refsL_i (r : List Int) : refsL (icells r) = [] := by
 induction r with
 | nil => rfl
 | cons x r ih => exact ih
theorem renL_i (H : Hp) (ρ : List Nat) (b : Nat) (r : List Int) : renL H ρ b (icells r) = some (icells r) := by
 induction r with
 | nil => rfl
 | cons x r ih =>
  show (match renC H ρ b (.int .i64 x), renL H ρ b (icells r) with | some a, some l => some (a :: l) | _, _ => none) = _
  rw [ih]
  rfl
theorem gs_take3 {sz : Nat} {H : Hp} {v : AV} {q : Nat} {c : List AV} (h : GS sz H v q c) (hf : c.all flatAV = true) (r : List Int) (e : Int) (B : Hp) : ∃ new v', takeBlks H (uniq (refs (.tuple [.agg (icells r), v, .int .i64 e])) []) = some new ∧ renV H (uniq (refs (.tuple [.agg (icells r), v, .int .i64 e])) []) B.length (.tuple [.agg (icells r), v, .int .i64 e]) = some (.tuple [.agg (icells r), v', .int .i64 e]) ∧ GS sz (B ++ new) v' B.length c := by
 obtain ⟨new, v', a1, a2, a3, _⟩ := gs_take h hf e B
 have e1 : refs (.tuple [.agg (icells r), v, .int .i64 e]) = refs (.tuple [v, .int .i64 e]) := by
  show refsL (icells r) ++ _ = _
  rw [refsL_i]
  rfl
 rw [e1]
 refine ⟨new, v', a1, ?_, a3⟩
 have hA : renA H (uniq (refs (.tuple [v, .int .i64 e])) []) B.length (.agg (icells r)) = some (.agg (icells r)) := by simp only [renA, renL_i]
 have a2' : (match renT H (uniq (refs (.tuple [v, .int .i64 e])) []) B.length [v, .int .i64 e] with | some l => some (AV.tuple l) | none => none) = some (.tuple [v', .int .i64 e]) := a2
 show (match (match renA H (uniq (refs (.tuple [v, .int .i64 e])) []) B.length (.agg (icells r)), renT H (uniq (refs (.tuple [v, .int .i64 e])) []) B.length [v, .int .i64 e] with | some a, some l => some (a :: l) | _, _ => none) with | some l => some (AV.tuple l) | none => none) = _
 rw [hA]
 cases h : renT H (uniq (refs (.tuple [v, .int .i64 e])) []) B.length [v, .int .i64 e] with
 | none => rw [h] at a2'; cases a2'
 | some l => rw [h] at a2'; cases a2'; rfl
theorem r118 {l : AV} {rows : List (List Int)} (hl : RwL l rows) (hmax : rows.length < 9223372036854775807) {v : List Int} (h6 : v.length = 6) (B : Hp) (L : List (Option ALoop)) :
  ∃ new v', (∀ l', Zz.byVal B l' = some l → borrowR M4 118 [l', .agg (icells v)] ⟨B, L⟩ = some (.tuple [.agg (icells (remD rows v)), v', .int .i64 (errD rows v)], ⟨B ++ new, L⟩)) ∧ GS 1 (B ++ new) v' B.length (icells (quoD rows v)) := by
 obtain ⟨n, y, m', h1, u, q, rfl, h2⟩ := (f118 hl hmax h6).ex
 obtain ⟨new, v', a1, a2, a3⟩ := gs_take3 h2 (flat_ints _) (remD rows v) (errD rows v) B
 exact ⟨new, v', fun l' h0 => borrowR_of (m := ⟨B, L⟩) (byVals_cons h0 (byVals_cons (byI _ _) rfl)) ⟨⟨n, _, m', h1, new, _, a1, a2, rfl⟩⟩, a3⟩
theorem w27 {l : AV} {rows : List (List Int)} (hl : RwL l rows) (hmax : rows.length < 9223372036854775807) : WF E16 (.func 27 [] []) [l] ⟨[], []⟩ fun y m' => ∃ v q, y = .tuple [v, .int .i64 (errC rows)] ∧ GS 6 m'.heap v q (flatR (hermR rows)) := by
 by_cases hv : VM rows
 ·unfold hermR errC
  rw [if_pos hv, if_pos hv]
  exact f27 hl hv
 ·unfold hermR errC
  rw [if_neg hv, if_neg hv]
  have c25 := fun m => s25 (m := m) hl hmax
  rw [decide_eq_false hv] at c25
  have hlc := hl.cells
  unfold AV.cells at hlc
  refine WF.fnE rfl (fn_of Try.func27 cir27) (by show 1 ≤ 107; decide) ?_
  unfold ir27
  simp only [padTo, List.replicate, zNA, zAN]
  repeat' (first | (refine WO.opE (by intro; simp (disch := omega) only [go_sem]; rfl) (by simp only [pt8, pt2, pt3, pt4]; rfl) ?_) | (refine WO.specE rfl rfl (c25 _) (by simp only [pt8, pt3]; rfl) ?_) | (refine WC.seq ?_) | (refine WC.region ?_) | (refine WO.nil ?_) | (simp only [fl1, fl2]) | (refine WC.yes rfl ?_) | (refine WC.ret ?_))
  exact ⟨_, rfl, .snil, 0, rfl, .inl ⟨rfl, rfl⟩⟩
theorem hermR_six {rows : List (List Int)} : ∀ r ∈ hermR rows, r.length = 6 := by
 unfold hermR
 split
 ·exact mapR_six
 ·intro r hr; cases hr
theorem r27 {l : AV} {rows : List (List Int)} (hl : RwL l rows) (hmax : rows.length < 9223372036854775807) : ∃ x, RwL x (hermR rows) ∧ ∀ (B : Hp) (L : List (Option ALoop)), ∃ new v', (∀ l', Zz.byVal B l' = some l → borrowR E16 27 [l'] ⟨B, L⟩ = some (.tuple [v', .int .i64 (errC rows)], ⟨B ++ new, L⟩)) ∧ GS 6 (B ++ new) v' B.length (flatR (hermR rows)) ∧ Zz.resC (B ++ new) v' = some x := by
 obtain ⟨n, y, m', h1, v, q, rfl, h2⟩ := (w27 hl hmax).ex
 obtain ⟨x, hx, hrx⟩ := GS.rows h2 hermR_six
 refine ⟨x, hx, fun B L => ?_⟩
 obtain ⟨new, v', a1, a2, a3, a4⟩ := gs_take h2 (flatR_flat _) (errC rows) B
 exact ⟨new, v', fun l' h0 => borrowR_of (m := ⟨B, L⟩) (byVals_cons h0 rfl) ⟨⟨n, _, m', h1, new, _, a1, a2, rfl⟩⟩, a3, a4.trans hrx⟩
noncomputable def N5 : Env := M4.put 118 (borrowR M4 118)
theorem N5_ok : EnvOk Try.prog N5 := Env.put_ok M4_ok (borrowR_ok M4_ok (callable Try.func118 (by kernel_rfl)))
noncomputable def N6 : Env := N5.put 27 (borrowR E16 27)
theorem N6_ok : EnvOk Try.prog N6 := Env.put_ok N5_ok (borrowR_ok E16_ok (callable Try.func27 (by kernel_rfl)))
def quoM (rows : List (List Int)) (v : List Int) : List Int := if memD rows v then quoD rows v else []
theorem g66 {l : AV} {rows : List (List Int)} (hl : RwL l rows) (hmax : rows.length < 9223372036854775807) {v : List Int} (h6 : v.length = 6) :
  WF N5 (.func 66 [] []) [l, .agg (icells v)] ⟨[], []⟩ fun y m' => ∃ u q, y = .tuple [u, .bool (decide (memD rows v)), .int .i64 (errD rows v)] ∧ GS 1 m'.heap u q (icells (quoM rows v)) := by
 obtain ⟨new, v', c118, hgs⟩ := r118 hl hmax h6 [some ⟨0, icells v⟩] []
 have c118 := c118 l (hl.byVal _)
 have hcv := icells_cut h6
 have hml : (icells v).length = 6 := by rw [icells_len, h6]
 have r6 := remD_len rows h6
 have hcr := icells_cut r6
 have hrl : (icells (remD rows v)).length = 6 := by rw [icells_len, r6]
 have hov := fun x0 x1 x2 x3 x4 x5 => icells_over6 r6 (x0 := x0) (x1 := x1) (x2 := x2) (x3 := x3) (x4 := x4) (x5 := x5)
 have hce := cellsEq_int (r := remD rows v) (r' := zer6) (by rw [r6]; rfl)
 rw [r6] at hce
 have hce' : cellsEq [true, true, true, true, true, true] (icells (remD rows v)) [.int .i64 0, .int .i64 0, .int .i64 0, .int .i64 0, .int .i64 0, .int .i64 0] = some (decide (remD rows v = zer6)) := hce
 have hq : quoM rows v = if errD rows v = 0 ∧ remD rows v = zer6 then quoD rows v else [] := rfl
 have hm : decide (memD rows v) = decide (errD rows v = 0 ∧ remD rows v = zer6) := rfl
 rw [hq, hm]
 refine WF.fnE rfl (fn_of Try.func66 cir66) (by show 2 ≤ 26; decide) ?_
 unfold ir66
 simp only [padTo, List.replicate, zNA, zAN]
 repeat' (first | (refine WO.opE (by intro; simp (disch := omega) only [go_sem, Zz.look, zNA, hcv]; rfl) (by simp only [pt8, pt3, pt4, pt5, pt6]; rfl) ?_) | (refine WC.seq ?_) | (refine WC.region ?_) | (refine WO.nil ?_) | (simp only [fl1]))
 refine WO.specE rfl rfl c118 (by simp only [pt8, pt5]; rfl) ?_
 have hvc := gs_cells hgs
 unfold AV.cells at hvc
 generalize (([some ⟨0, icells v⟩] : Hp) ++ new) = G at *
 have hlk : ∀ R, GS 1 (G ++ R) v' ([some ⟨0, icells v⟩] : Hp).length (icells (quoD rows v)) := fun R => hgs.more R
 by_cases he : errD rows v = 0
 ·rw [he]
  by_cases hr : remD rows v = zer6
  ·rw [if_pos ⟨rfl, hr⟩, decide_eq_true ⟨rfl, hr⟩]
   rw [decide_eq_true hr] at hce'
   repeat' (first | (refine WO.yes rfl ?_) | (refine WO.opE (by intro; simp (disch := omega) only [go_sem, fillP, hcr, hce', lk0]; rfl) (by simp only [pt8, pt0, pt1, pt2, pt3, pt4, pt5, pt6, pt7]; rfl) ?_) | (refine WO.opN (by intro; simp (disch := omega) only [go_sem, Option.bind_eq_bind, app_s0, hrl, hov, lk0]; rfl) ?_) | (refine WC.seq ?_) | (refine WC.region ?_) | (refine WO.nil ?_) | (simp only [fl1]) | (refine WC.no rfl ?_) | (refine WC.skip ?_) | (refine WC.ret ?_))
   exact ⟨_, rfl, _, _, rfl, hlk _⟩
  ·rw [if_neg fun h => hr h.2, decide_eq_false fun h => hr h.2]
   rw [decide_eq_false hr] at hce'
   repeat' (first | (refine WO.yes rfl ?_) | (refine WO.opE (by intro; simp (disch := omega) only [go_sem, fillP, hcr, hce', lk0]; rfl) (by simp only [pt8, pt0, pt1, pt2, pt3, pt4, pt5, pt6, pt7]; rfl) ?_) | (refine WO.opN (by intro; simp (disch := omega) only [go_sem, Option.bind_eq_bind, app_s0, hrl, hov, lk0]; rfl) ?_) | (refine WC.seq ?_) | (refine WC.region ?_) | (refine WO.nil ?_) | (simp only [fl1, fl2]) | (refine WC.yes rfl ?_) | (refine WC.ret ?_))
   exact ⟨_, rfl, .snil, 0, rfl, GS.nil⟩
 ·rw [if_neg fun h => he h.1, decide_eq_false fun h => he h.1]
  generalize errD rows v = e at *
  repeat' (first | (refine WO.noE rfl (by simp only [pt8, pt4, pt5, pt6]; rfl) ?_) | (refine WO.opE (by intro; simp (disch := omega) only [go_sem]; rfl) (by simp only [pt8, pt0, pt1, pt2, pt3, pt4, pt5, pt6, pt7]; rfl) ?_) | (refine WO.opN (by intro; simp (disch := omega) only [go_sem, Option.bind_eq_bind, app_s0, hrl, hov, lk0]; rfl) ?_) | (refine WC.seq ?_) | (refine WC.region ?_) | (refine WO.nil ?_) | (simp only [fl1, fl2]) | (refine WC.yes rfl ?_) | (refine WC.ret ?_) | (refine WO.em2 rfl (by intro hp; simp only [hp]; rfl) (by intro hp; simp only [hp, decide_false]; rfl) (fun hp => ?_) (fun hp => ?_) <;> try (exfalso; first | omega | contradiction)))
  exact ⟨_, rfl, .snil, 0, rfl, GS.nil⟩
theorem new3 {H : Hp} {a b c a' b' c' : AV} (ha : Zz.newA H a = some a') (hb : Zz.newA H b = some b') (hc : Zz.newA H c = some c') : Zz.newV H (.tuple [a, b, c]) = some (.tuple [a', b', c']) := by
 simp only [Zz.newV, Zz.newT, ha, hb, hc]
theorem x66 {l : AV} {rows : List (List Int)} (hl : RwL l rows) (hmax : rows.length < 9223372036854775807) {v : List Int} (h6 : v.length = 6) :
  ∃ x, IntS x (quoM rows v) ∧ ∀ m l', Zz.byVal m.heap l' = some l → borrowX N5 66 [l', .agg (icells v)] m = some (.tuple [x, .bool (decide (memD rows v)), .int .i64 (errD rows v)], m) := by
 obtain ⟨n, y, m', h1, u, q, rfl, h2⟩ := (g66 hl hmax h6).ex
 obtain ⟨x, hx, hrx⟩ := gs_newI h2
 exact ⟨x, hx, fun m l' h0 => borrowX_of (byVals_cons h0 (byVals_cons (byI _ _) rfl)) ⟨⟨n, _, m', h1, new3 hrx rfl rfl⟩⟩⟩
noncomputable def N7 : Env := N5.put 66 (borrowX N5 66)
theorem N7_ok : EnvOk Try.prog N7 := Env.put_ok N5_ok (borrowX_ok N5_ok (callable Try.func66 (by kernel_rfl)))
noncomputable def N8 : Env := N7.put 68 (borrowX M5 68)
theorem N8_ok : EnvOk Try.prog N8 := Env.put_ok N7_ok (borrowX_ok M5_ok (callable Try.func68 (by kernel_rfl)))
set_option maxRecDepth 100000
set_option maxHeartbeats 8000000
def z6s : List AV := [.int .i64 0, .int .i64 0, .int .i64 0, .int .i64 0, .int .i64 0, .int .i64 0]
theorem f140 {n : Nat} (hn : n ≤ 1000000) {H : Hp} {L : List (Option ALoop)} : WF N6 (.func 140 [] []) [.snil, .int .i64 (n : Nat)] ⟨H, L⟩ fun y m' => (n = 0 ∧ y = .snil ∧ m' = ⟨H, L⟩) ∨ (0 < n ∧ y = .sref H.length 0 0 6 0 none ∧ m' = ⟨H ++ [some ⟨0, zeros z6s n⟩], L⟩) := by
 have hs1 : ∀ H, sliceAV H 6 .snil none (some (.int .i64 0)) none = some .snil := fun _ => rfl
 have hs2 : sliceAV (H ++ [some ⟨0, zeros z6s n⟩]) 6 (.sref H.length 0 0 6 n none) none (some (.int .i64 0)) none = some (.sref H.length 0 0 6 0 none) := by
  simp [sliceAV, bnds, bnd, bndO]
 have hcs : ∀ a : AV, a = .snil → True := fun _ _ => trivial
 have hz0 : ((0 : Nat) : Int) = 0 := rfl
 have ez : ([.int .i64 0, .int .i64 0, .int .i64 0, .int .i64 0, .int .i64 0, .int .i64 0] : List AV) = z6s := rfl
 by_cases h0 : n = 0
 ·subst h0
  refine WF.fnE rfl (fn_of Try.func140 cir140) (by show 2 ≤ 27; decide) ?_
  unfold ir140
  simp only [padTo, List.replicate, zNA, zAN]
  repeat' (first | (refine WO.opE (by intro; simp (disch := omega) only [go_sem]; rfl) (by simp only [pt8, pt0, pt1, pt2, pt3, pt4, pt5, pt6, pt7]; rfl) ?_) | (refine WO.opE (by intro; exact ev_lenS (by simp only [go_sem]; first | rfl | assumption)) (by simp only [pt8, pt4]; rfl) ?_) | (refine WC.seq ?_) | (refine WC.region ?_) | (refine WO.nil ?_) | (simp only [fl1]) | (refine WC.no rfl ?_) | (refine WC.skip ?_) | (refine WC.ret ?_))
  exact ⟨_, rfl, .inl ⟨by first | trivial | rfl, by first | trivial | rfl, by first | trivial | rfl⟩⟩
 ·have hap : appendZAV 6 48 z6s ⟨H, L⟩ .snil (.int .i64 (n : Nat)) = some (.sref H.length 0 0 6 n none, ⟨H ++ [some ⟨0, zeros z6s n⟩], L⟩) := by
   show (if 0 < ((n : Nat) : Int) ∧ ((n : Nat) : Int) * ((48 : Nat) : Int) ≤ 70368744177664 ∧ ((n : Nat) : Int) ≤ 70368744177664 then _ else _) = _
   rw [if_pos ⟨by omega, by omega, by omega⟩]
   rfl
  refine WF.fnE rfl (fn_of Try.func140 cir140) (by show 2 ≤ 27; decide) ?_
  unfold ir140
  simp only [padTo, List.replicate, zNA, zAN]
  repeat' (first | (refine WO.opE (by intro; simp (disch := omega) only [go_sem, Int.reduceToNat, ez, hap, hz0, Int.sub_self, Int.sub_zero]; rfl) (by simp only [pt8, pt0, pt1, pt2, pt3, pt4, pt5, pt6, pt7]; rfl) ?_) | (refine WO.opE (by intro; exact ev_lenS (by simp only [go_sem]; first | rfl | assumption)) (by simp only [pt8, pt4]; rfl) ?_) | (refine WC.seq ?_) | (refine WC.region ?_) | (refine WO.nil ?_) | (simp only [fl1]) | (refine WC.no rfl ?_) | (refine WC.skip ?_) | (refine WC.ret ?_) | (refine WC.em2 rfl (fun hp => ?_) (fun hp => ?_) <;> try (exfalso; first | omega | contradiction)))
  exact ⟨_, rfl, .inr ⟨by omega, rfl, rfl⟩⟩
def cat2 (x y : List (List Int)) : Nat → List (List Int)
 | 0 => []
 | 1 => x
 | _ => x ++ y
theorem flatR_cat (x y : List (List Int)) : flatR (x ++ y) = flatR x ++ flatR y := by simp [flatR]
theorem over_app {a z xs : List AV} {n : Nat} (hn : a.length = n) (hz : xs.length ≤ z.length) : Zz.over (a ++ z) n xs = some (a ++ xs ++ z.drop xs.length) := by
 subst hn
 unfold Zz.over
 rw [if_pos (by rw [List.length_append]; omega)]
 simp [List.drop_append]
theorem app_room {x : AV} {rows p : List (List Int)} (hx : RwL x rows) (hp : ∀ r ∈ p, r.length = 6) {H : Hp} {L : List (Option ALoop)} {q : Nat} {z : List AV} (hk : Zz.look H q 0 = some (flatR p ++ z)) (hz : rows.length * 6 ≤ z.length) :
  appendAV 6 48 ⟨H, L⟩ (.sref q 0 0 6 p.length none) x = some (.sref q 0 0 6 (p.length + rows.length) none, ⟨H.set q (some ⟨0, flatR (p ++ rows) ++ z.drop (rows.length * 6)⟩), L⟩) := by
 have h1 := SL.scells hx H
 have h2 := hx.len
 have h3 : (rows.map icells).flatten = flatR rows := rfl
 rw [h3] at h1
 have h6 : ∀ r ∈ rows, r.length = 6 := fun r hr => by
  have := hx.1 (icells r) (List.mem_map_of_mem hr)
  simpa [icells] using this
 have hl := flatR_len h6
 have hpl := flatR_len hp
 have hcut : Zz.cut (flatR p ++ z) 0 (p.length * 6) = some (flatR p) := by
  unfold Zz.cut
  rw [if_pos (by rw [List.length_append]; omega)]
  simp [← hpl]
 have hov : Zz.over (flatR p ++ z) (p.length * 6) (flatR rows) = some (flatR (p ++ rows) ++ z.drop (rows.length * 6)) := by
  rw [over_app hpl (by omega), hl, flatR_cat]
 simp only [appendAV, h1, h2, Option.bind_eq_bind, Option.bind_some, if_true, hk, hcut, Nat.zero_add]
 rw [if_pos (by rw [List.length_append]; omega)]
 simp only [storeAt, hk, Option.bind_eq_bind, Option.bind_some, hov, setBlk]
theorem f121 {lx ly : AV} {x y : List (List Int)} (hx : RwL lx x) (hy : RwL ly y) (hxl : x.length ≤ 1000) (hyl : y.length ≤ 1000) {b : Nat} {H : Hp} {L : List (Option ALoop)} (hk : Zz.look H b 0 = some [lx, ly]) :
  WF N6 (.func 121 [] []) [.sref b 0 0 1 2 (some 2)] ⟨H, L⟩ fun u m' => ∃ q, GS 6 m'.heap u q (flatR (x ++ y)) ∧ m'.loops = L ∧ ∀ j, j < H.length → m'.heap[j]? = H[j]? := by
 have hxn := hx.len
 have hyn := hy.len
 have x6 : ∀ r ∈ x, r.length = 6 := fun r hr => by
  have := hx.1 (icells r) (List.mem_map_of_mem hr)
  simpa [icells] using this
 have y6 : ∀ r ∈ y, r.length = 6 := fun r hr => by
  have := hy.1 (icells r) (List.mem_map_of_mem hr)
  simpa [icells] using this
 have ix : ∀ i : Nat, i < 2 → indexAddrAV 1 (.sref b 0 0 1 2 (some 2)) (.int .i64 (i : Int)) = some (.pref b 0 i) := fun i hi => by rw [ia_sref, idx_nat hi]; simp
 have cx0 : Zz.cut [lx, ly] 0 1 = some [lx] := rfl
 have cx1 : Zz.cut [lx, ly] 1 1 = some [ly] := rfl
 refine WF.fnE rfl (fn_of Try.func121 cir121) (by show 1 ≤ 36; decide) ?_
 unfold ir121
 simp only [padTo, List.replicate, zNA, zAN]
 repeat' (first | (refine WO.opE (by intro; simp (disch := omega) only [go_sem]; rfl) (by simp only [pt8, pt1, pt2, pt3]; rfl) ?_) | (refine WO.opE (by intro; exact ev_lenS (by simp only [go_sem]; first | rfl | assumption)) (by simp only [pt8, pt2]; rfl) ?_) | (refine WC.seq ?_) | (refine WC.region ?_) | (refine WO.nil ?_) | (simp only [fl1]) | (refine WC.block ?_))
 refine WC.loopI (fun m s => ∃ T i, s = ⟨T, H, L⟩ ∧ T.length = 36 ∧ gt T 0 = .sref b 0 0 1 2 (some 2) ∧ gt T 3 = .int .i64 ((cat2 x y i).length : Nat) ∧ gt T 9 = .sref b 0 0 1 2 (some 2) ∧ gt T 10 = .int .i64 2 ∧ gt T 11 = .int .i64 (i : Nat) ∧ m + i = 2) ?_ 2 _ ⟨_, 0, rfl, rfl, rfl, rfl, rfl, rfl, rfl, by omega⟩
 rintro m _ ⟨T, i, rfl, hT, g0, g3, g9, g10, g11, hm⟩
 obtain ⟨f, rfl⟩ := ex36 hT
 clear hT
 replace g0 : f 0 = .sref b 0 0 1 2 (some 2) := g0
 replace g3 : f 3 = .int .i64 ((cat2 x y i).length : Nat) := g3
 replace g9 : f 9 = .sref b 0 0 1 2 (some 2) := g9
 replace g10 : f 10 = .int .i64 2 := g10
 replace g11 : f 11 = .int .i64 (i : Nat) := g11
 simp only [g0, g3, g9, g10, g11]
 have hi3 : i = 0 ∨ i = 1 ∨ i = 2 := by omega
 rcases hi3 with rfl | rfl | rfl
 ·have ixa := ix 0 (by decide)
  have e0 : cat2 x y 0 = [] := rfl
  have e1 : (cat2 x y 1).length = x.length := rfl
  rw [e0] at g3
  simp only [e0]
  repeat' (first | (refine WO.opE (by intro; simp (disch := omega) only [go_sem, ixa, hk, List.length_nil]; rfl) (by simp only [pt8, pt0, pt2, pt3, pt4, pt5, pt6, pt7]; rfl) ?_) | (refine WO.opE (by intro; exact ev_lenS (by simp only [go_sem]; first | rfl | assumption)) (by simp only [pt8, pt1]; rfl) ?_) | (refine WC.seq ?_) | (refine WC.region ?_) | (refine WO.nil ?_) | (simp only [fl1, fl10]) | (refine WC.yes rfl ?_) | (refine WC.no rfl ?_) | (refine WC.skip ?_) | (refine WC.block ?_))
  exact ⟨1, by omega, _, 1, rfl, rfl, rfl, by (simp only [gt3, e1]; congr 1; simp), rfl, rfl, rfl, rfl⟩
 ·have ixa := ix 1 (by decide)
  have e0 : cat2 x y 1 = x := rfl
  have e1 : (cat2 x y 2).length = x.length + y.length := List.length_append
  rw [e0] at g3
  simp only [e0]
  repeat' (first | (refine WO.opE (by intro; simp (disch := omega) only [go_sem, ixa, hk]; rfl) (by simp only [pt8, pt0, pt2, pt3, pt4, pt5, pt6, pt7]; rfl) ?_) | (refine WO.opE (by intro; exact ev_lenS (by simp only [go_sem]; first | rfl | assumption)) (by simp only [pt8, pt1]; rfl) ?_) | (refine WC.seq ?_) | (refine WC.region ?_) | (refine WO.nil ?_) | (simp only [fl1, fl10]) | (refine WC.yes rfl ?_) | (refine WC.no rfl ?_) | (refine WC.skip ?_) | (refine WC.block ?_))
  exact ⟨0, by omega, _, 2, rfl, rfl, rfl, by (simp only [gt3, e1]; congr 1; try omega), rfl, rfl, rfl, rfl⟩
 ·have e0 : cat2 x y 2 = x ++ y := rfl
  rw [e0] at g3
  simp only [e0]
  have hN : (x ++ y).length = x.length + y.length := List.length_append
  repeat' (first | (refine WO.opE (by intro; simp (disch := omega) only [go_sem, List.length_append]; rfl) (by simp only [pt8, pt4, pt7]; rfl) ?_) | (refine WC.seq ?_) | (refine WC.region ?_) | (refine WO.nil ?_) | (simp only [fl1]) | (refine WC.no rfl ?_) | (refine WC.exit ?_))
  refine WO.call rfl rfl ((f140 (n := x.length + y.length) (by omega)).mono ?_)
  rintro w ⟨G, L'⟩ hcase
  obtain ⟨rfl, hG, hw⟩ : L' = L ∧ (∀ j, j < H.length → G[j]? = H[j]?) ∧ (x.length + y.length = 0 ∧ w = .snil ∨ 0 < x.length + y.length ∧ w = .sref H.length 0 0 6 (cat2 x y 0).length none ∧ ∃ z, Zz.look G H.length 0 = some (flatR (cat2 x y 0) ++ z) ∧ z.length + (cat2 x y 0).length * 6 = (x.length + y.length) * 6) := by
   rcases hcase with ⟨h1, rfl, h2⟩ | ⟨h1, rfl, h2⟩
   ·cases h2
    exact ⟨rfl, fun j hj => rfl, .inl ⟨h1, rfl⟩⟩
   ·cases h2
    exact ⟨rfl, fun j hj => List.getElem?_append_left hj, .inr ⟨h1, rfl, _, lk0 rfl, by rw [zeros_len]; rfl⟩⟩
  clear hcase g0 g3 g9 g10 g11
  simp only [pt8, pt0]
  repeat' (first | (refine WO.opE (by intro; simp (disch := omega) only [go_sem, List.length_append]; rfl) (by simp only [pt8, pt1, pt2, pt3, pt6]; rfl) ?_) | (refine WC.seq ?_) | (refine WC.region ?_) | (refine WO.nil ?_) | (simp only [fl1]) | (refine WC.block ?_))
  refine WC.loopI (fun m s => ∃ T G w i, s = ⟨T, G, L'⟩ ∧ T.length = 36 ∧ gt T 0 = .sref b 0 0 1 2 (some 2) ∧ gt T 6 = w ∧ gt T 25 = .sref b 0 0 1 2 (some 2) ∧ gt T 26 = .int .i64 2 ∧ gt T 27 = .int .i64 (i : Nat) ∧ m + i = 2 ∧ (∀ j, j < H.length → G[j]? = H[j]?) ∧ (x.length + y.length = 0 ∧ w = .snil ∨ 0 < x.length + y.length ∧ w = .sref H.length 0 0 6 (cat2 x y i).length none ∧ ∃ z, Zz.look G H.length 0 = some (flatR (cat2 x y i) ++ z) ∧ z.length + (cat2 x y i).length * 6 = (x.length + y.length) * 6)) ?_ 2 _ ⟨_, G, w, 0, rfl, rfl, rfl, rfl, rfl, rfl, rfl, by omega, hG, hw⟩
  clear hw hG hm f G w m
  rintro m _ ⟨T, G, w, i, rfl, hT, g0, g6, g25, g26, g27, hm, hG, hw⟩
  obtain ⟨f, rfl⟩ := ex36 hT
  clear hT
  replace g0 : f 0 = .sref b 0 0 1 2 (some 2) := g0
  replace g6 : f 6 = w := g6
  replace g25 : f 25 = .sref b 0 0 1 2 (some 2) := g25
  replace g26 : f 26 = .int .i64 2 := g26
  replace g27 : f 27 = .int .i64 (i : Nat) := g27
  simp only [g0, g6, g25, g26, g27]
  have lb := look_lt hk
  have hkb : Zz.look G b 0 = some [lx, ly] := (look_of_get (hG b lb)).trans hk
  have push : ∀ (la : AV) (a : List (List Int)), RwL la a → cat2 x y (i + 1) = cat2 x y i ++ a → (∀ r ∈ cat2 x y i, r.length = 6) → a.length + (cat2 x y i).length ≤ x.length + y.length → ∃ w' G', appendAV 6 48 ⟨G, L'⟩ w la = some (w', ⟨G', L'⟩) ∧ (∀ j, j < H.length → G'[j]? = H[j]?) ∧ (x.length + y.length = 0 ∧ w' = .snil ∨ 0 < x.length + y.length ∧ w' = .sref H.length 0 0 6 (cat2 x y (i + 1)).length none ∧ ∃ z, Zz.look G' H.length 0 = some (flatR (cat2 x y (i + 1)) ++ z) ∧ z.length + (cat2 x y (i + 1)).length * 6 = (x.length + y.length) * 6) := fun la a hla hc h6c hle => by
   rcases hw with ⟨h0, rfl⟩ | ⟨h0, rfl, z, hz, hzl⟩
   ·have h1 := SL.scells hla G
    have h2 := hla.len
    have h3 : a.length = 0 := by omega
    refine ⟨.snil, G, ?_, hG, .inl ⟨h0, rfl⟩⟩
    simp only [appendAV, h1, h2, h3, Option.bind_eq_bind, Option.bind_some, if_true]
   ·have hr := app_room (L := L') hla h6c hz (by omega)
    refine ⟨_, _, hr, fun j hj => (List.getElem?_set_ne (by omega)).trans (hG j hj), .inr ⟨h0, by rw [hc, List.length_append], z.drop (a.length * 6), ?_, ?_⟩⟩
    ·rw [hc]
     exact look_set (look_lt hz)
    ·rw [hc, List.length_append, List.length_drop]
     omega
  have hi3 : i = 0 ∨ i = 1 ∨ i = 2 := by omega
  rcases hi3 with rfl | rfl | rfl
  ·obtain ⟨w', G', a1, a2, a3⟩ := push lx x hx (by simp [cat2]) (by simp [cat2]) (by simp [cat2])
   have ixa := ix 0 (by decide)
   repeat' (first | (refine WO.opE (by intro; simp (disch := omega) only [go_sem, ixa, hkb]; rfl) (by simp only [pt8, pt0, pt2, pt3, pt4, pt5, pt6, pt7]; rfl) ?_) | (refine WO.opE (by intro; rw [ev_append]; exact a1) (by simp only [pt8, pt1]; rfl) ?_) | (refine WC.seq ?_) | (refine WC.region ?_) | (refine WO.nil ?_) | (simp only [fl10]) | (refine WC.yes rfl ?_) | (refine WC.skip ?_) | (refine WC.block ?_))
   exact ⟨1, by omega, _, G', w', 1, rfl, rfl, rfl, rfl, rfl, rfl, rfl, rfl, a2, a3⟩
  ·obtain ⟨w', G', a1, a2, a3⟩ := push ly y hy (by simp [cat2]) x6 (by show y.length + x.length ≤ _; omega)
   have ixa := ix 1 (by decide)
   repeat' (first | (refine WO.opE (by intro; simp (disch := omega) only [go_sem, ixa, hkb]; rfl) (by simp only [pt8, pt0, pt2, pt3, pt4, pt5, pt6, pt7]; rfl) ?_) | (refine WO.opE (by intro; rw [ev_append]; exact a1) (by simp only [pt8, pt1]; rfl) ?_) | (refine WC.seq ?_) | (refine WC.region ?_) | (refine WO.nil ?_) | (simp only [fl10]) | (refine WC.yes rfl ?_) | (refine WC.skip ?_) | (refine WC.block ?_))
   exact ⟨0, by omega, _, G', w', 2, rfl, rfl, rfl, rfl, rfl, rfl, rfl, rfl, a2, a3⟩
  ·have e0 : cat2 x y 2 = x ++ y := rfl
   rw [e0] at hw
   repeat' (first | (refine WO.opE (by intro; simp (disch := omega) only [go_sem]; rfl) (by simp only [pt8, pt2, pt3, pt4]; rfl) ?_) | (refine WC.seq ?_) | (refine WC.region ?_) | (refine WO.nil ?_) | (simp only [fl1]) | (refine WC.no rfl ?_) | (refine WC.exit ?_) | (refine WC.ret ?_))
   refine ⟨_, rfl, H.length, ?_, rfl, hG⟩
   rcases hw with ⟨h0, rfl⟩ | ⟨h0, rfl, z, hz, hzl⟩
   ·refine .inl ⟨rfl, ?_⟩
    have h1 : x ++ y = [] := List.length_eq_zero_iff.1 (by omega)
    rw [h1]
    rfl
   ·have hz0 : z = [] := List.length_eq_zero_iff.1 (by omega)
    rw [hz0, List.append_nil] at hz
    refine .inr (.inr ⟨0, (x ++ y).length, rfl, flatR_len fun r hr => ?_, by omega, hz⟩)
    rcases List.mem_append.1 hr with h | h
    ·exact x6 r h
    ·exact y6 r h
set_option maxRecDepth 100000
set_option maxHeartbeats 8000000
theorem f120 {x y : AV} {a b : List (List Int)} (hx : RwL x a) (hy : RwL y b) (ha : a.length < 1000000) : WF N8 (.func 120 [] []) [x, y] ⟨[], []⟩ fun v m' => v = .bool (decide (a = b)) := by
 have hxl := hx.len
 have hyl := hy.len
 by_cases hl : a.length = b.length
 ·have hl1 : (a.length : Int) = (b.length : Int) := by omega
  refine WF.fnE rfl (fn_of Try.func120 cir120) (by show 2 ≤ 26; decide) ?_
  unfold ir120
  simp only [padTo, List.replicate, zNA, zAN]
  repeat' (first | (refine WO.opE (by intro; simp (disch := omega) only [go_sem, hl1]; rfl) (by simp only [pt8, pt0, pt2, pt3, pt4, pt5, pt6]; rfl) ?_) | (refine WO.opE (by intro; exact ev_lenS (by simp only [go_sem]; first | rfl | assumption)) (by simp only [pt8, pt1, pt4, pt7]; rfl) ?_) | (refine WC.seq ?_) | (refine WC.region ?_) | (refine WO.nil ?_) | (simp only [fl1]) | (refine WC.no rfl ?_) | (refine WC.skip ?_) | (refine WC.block ?_))
  refine WC.loopI (fun m s => ∃ T i, s = ⟨T, [], []⟩ ∧ T.length = 26 ∧ gt T 0 = x ∧ gt T 1 = y ∧ gt T 12 = .int .i64 (a.length : Nat) ∧ gt T 13 = .int .i64 (i : Nat) ∧ m + i = a.length ∧ ∀ t, t < i → rw_ a t = rw_ b t) ?_ a.length _ ⟨_, 0, rfl, rfl, rfl, rfl, by first | rfl | (simp only [gt8, gt0, gt1, gt2, gt3, gt4, gt5, gt6, gt7]; rw [hl]), rfl, by omega, fun t ht => by omega⟩
  rintro m _ ⟨T, i, rfl, hT, g0, g1, g12, g13, hm, hi⟩
  obtain ⟨f, rfl⟩ := ex26 hT
  clear hT
  replace g0 : f 0 = x := g0
  replace g1 : f 1 = y := g1
  replace g12 : f 12 = .int .i64 (a.length : Nat) := g12
  replace g13 : f 13 = .int .i64 (i : Nat) := g13
  simp only [g0, g1, g12, g13]
  by_cases hin : i < a.length
  ·have hat := hx.at hin
   have hbt := hy.at (show i < b.length by omega)
   have h6 := hx.six hin
   have h6' := hy.six (show i < b.length by omega)
   have hc1 := cut_row (t := tailr a i) h6
   have hc2 := cut_row (t := tailr b i) h6'
   have hce := cellsEq_int (r := rw_ a i) (r' := rw_ b i) (by omega)
   rw [h6] at hce
   have hce' : cellsEq [true, true, true, true, true, true] ((rw_ a i).map (.int .i64)) ((rw_ b i).map (.int .i64)) = some (decide (rw_ a i = rw_ b i)) := hce
   by_cases he : rw_ a i = rw_ b i
   ·rw [decide_eq_true he] at hce'
    repeat' (first | (refine WO.opE (by intro; simp (disch := omega) only [go_sem, hat, hbt, hc1, hc2, hce', Option.map_some, Bool.not_true]; rfl) (by simp only [pt8, pt0, pt1, pt2, pt3, pt4, pt5, pt6, pt7]; rfl) ?_) | (refine WC.seq ?_) | (refine WC.region ?_) | (refine WO.nil ?_) | (simp only [fl1, fl10]) | (refine WC.calm rfl ?_) | (refine WC.no rfl ?_) | (refine WC.skip ?_) | (refine WC.block ?_) | (refine WC.em2 rfl (fun hp => ?_) (fun hp => ?_) <;> try (exfalso; first | omega | contradiction)))
    exact ⟨m - 1, by omega, _, i + 1, rfl, rfl, rfl, rfl, rfl, rfl, by omega, fun t ht => by
     by_cases e : t = i
     ·subst e; exact he
     ·exact hi t (by omega)⟩
   ·rw [decide_eq_false he] at hce'
    have hd : a ≠ b := fun h => he (by rw [h])
    repeat' (first | (refine WO.opE (by intro; simp (disch := omega) only [go_sem, hat, hbt, hc1, hc2, hce', Option.map_some, Bool.not_false]; rfl) (by simp only [pt8, pt0, pt1, pt2, pt3, pt4, pt5, pt6, pt7]; rfl) ?_) | (refine WC.seq ?_) | (refine WC.region ?_) | (refine WO.nil ?_) | (simp only [fl1, fl2, fl5, fl8]) | (refine WC.calm rfl ?_) | (refine WC.yes rfl ?_) | (refine WC.skip ?_) | (refine WC.ret ?_) | (refine WC.block ?_) | (refine WC.em2 rfl (fun hp => ?_) (fun hp => ?_) <;> try (exfalso; first | omega | contradiction)))
    exact ⟨_, rfl, by simp only [oneRes, gt4]; rw [decide_eq_false hd]⟩
  ·have hie : i = a.length := by omega
   subst hie
   have hd : a = b := List.ext_getElem hl fun t h1 h2 => by have := hi t h1; rwa [rw_lt h1, rw_lt h2] at this
   repeat' (first | (refine WO.opE (by intro; simp (disch := omega) only [go_sem]; rfl) (by simp only [pt8, pt4, pt6]; rfl) ?_) | (refine WC.seq ?_) | (refine WC.region ?_) | (refine WO.nil ?_) | (simp only [fl1]) | (refine WC.exit ?_) | (refine WC.ret ?_) | (refine WC.em2 rfl (fun hp => ?_) (fun hp => ?_) <;> try (exfalso; first | omega | contradiction)))
   exact ⟨_, rfl, by simp only [oneRes, gt4]; rw [decide_eq_true hd]⟩
 ·have hd : a ≠ b := fun h => hl (by rw [h])
  refine WF.fnE rfl (fn_of Try.func120 cir120) (by show 2 ≤ 26; decide) ?_
  unfold ir120
  simp only [padTo, List.replicate, zNA, zAN]
  repeat' (first | (refine WO.opE (by intro; simp (disch := omega) only [go_sem]; rfl) (by simp only [pt8, pt0, pt2, pt4, pt6]; rfl) ?_) | (refine WO.opE (by intro; exact ev_lenS (by simp only [go_sem]; first | rfl | assumption)) (by simp only [pt8, pt1, pt7]; rfl) ?_) | (refine WC.seq ?_) | (refine WC.region ?_) | (refine WO.nil ?_) | (simp only [fl1, fl2]) | (refine WC.ret ?_) | (refine WC.em2 rfl (fun hp => ?_) (fun hp => ?_) <;> try (exfalso; first | omega | contradiction)))
  exact ⟨_, rfl, by simp only [oneRes, gt4]; rw [decide_eq_false hd]⟩
theorem s120 {x y : AV} {a b : List (List Int)} (hx : RwL x a) (hy : RwL y b) (ha : a.length < 1000000) {m : Mem} : borrowE N8 120 [x, y] m = some (.bool (decide (a = b)), m) :=
 borrowE_of (pures_cons hx.pureA (pures_cons hy.pureA rfl)) ((f120 hx hy ha).mono fun y m' h => by rw [h]; rfl)
noncomputable def N9 : Env := N8.put 120 (borrowE N8 120)
theorem N9_ok : EnvOk Try.prog N9 := Env.put_ok N8_ok (borrowE_ok N8_ok (callable Try.func120 (by kernel_rfl)))
theorem hermR_len (rows : List (List Int)) (h6 : Six rows) : (hermR rows).length ≤ 6 := by
 unfold hermR
 split
 ·rename_i hv
  exact (herm_divB hv h6).le
 ·exact Nat.zero_le _
def errS (a b : List (List Int)) : Int := if VM a ∧ VM b then 0 else 1
def sameS (a b : List (List Int)) : Prop := (VM a ∧ VM b) ∧ hermF a = hermF b
instance (a b : List (List Int)) : Decidable (sameS a b) := by unfold sameS; infer_instance
theorem f70 {x y : AV} {a b : List (List Int)} (hx : RwL x a) (hy : RwL y b) (ha : a.length < 9223372036854775807) (hb : b.length < 9223372036854775807) : WF N9 (.func 70 [] []) [x, y] ⟨[], []⟩ fun v m' => v = .tuple [.bool (decide (sameS a b)), .int .i64 (errS a b)] := by
 obtain ⟨xa, hxa, c27⟩ := x27 hx ha
 obtain ⟨xb, hxb, d27⟩ := x27 hy hb
 have c27 := fun m => c27 m x (hx.byVal _)
 have d27 := fun m => d27 m y (hy.byVal _)
 by_cases hva : VM a
 ·have ea : errC a = 0 := if_pos hva
  rw [ea] at c27
  by_cases hvb : VM b
  ·have eb : errC b = 0 := if_pos hvb
   rw [eb] at d27
   have c120 := fun m => s120 (m := m) hxa hxb (by have := hermR_len a (fun i hi => hx.six hi); omega)
   rw [show hermR a = hermF a from if_pos hva, show hermR b = hermF b from if_pos hvb] at c120
   have e1 : errS a b = 0 := if_pos ⟨hva, hvb⟩
   have e2 : decide (sameS a b) = decide (hermF a = hermF b) := decide_eq_decide.2 ⟨fun h => h.2, fun h => ⟨⟨hva, hvb⟩, h⟩⟩
   rw [e1, e2]
   generalize decide (hermF a = hermF b) = q at *
   refine WF.fnE rfl (fn_of Try.func70 cir70) (by show 2 ≤ 29; decide) ?_
   unfold ir70
   simp only [padTo, List.replicate, zNA, zAN]
   repeat' (first | (refine WO.yes rfl ?_) | (refine WO.opE (by intro; simp (disch := omega) only [go_sem]; rfl) (by simp only [pt8, pt0, pt1, pt2, pt3, pt4, pt5, pt6, pt7]; rfl) ?_) | (refine WO.specE rfl rfl (c27 _) (by simp only [pt8, pt4]; rfl) ?_) | (refine WO.specE rfl rfl (d27 _) (by simp only [pt8, pt1]; rfl) ?_) | (refine WO.specE rfl rfl (c120 _) (by simp only [pt8, pt4]; rfl) ?_) | (refine WC.seq ?_) | (refine WC.region ?_) | (refine WO.nil ?_) | (simp only [fl1]) | (refine WC.no rfl ?_) | (refine WC.skip ?_) | (refine WC.ret ?_))
   exact ⟨_, rfl, rfl⟩
  ·have eb : errC b = 1 := if_neg hvb
   rw [eb] at d27
   rw [show errS a b = 1 from if_neg fun h => hvb h.2, decide_eq_false (show ¬ sameS a b from fun h => hvb h.1.2)]
   refine WF.fnE rfl (fn_of Try.func70 cir70) (by show 2 ≤ 29; decide) ?_
   unfold ir70
   simp only [padTo, List.replicate, zNA, zAN]
   repeat' (first | (refine WO.yes rfl ?_) | (refine WO.opE (by intro; simp (disch := omega) only [go_sem]; rfl) (by simp only [pt8, pt0, pt1, pt2, pt3, pt4, pt5, pt6, pt7]; rfl) ?_) | (refine WO.specE rfl rfl (c27 _) (by simp only [pt8, pt4]; rfl) ?_) | (refine WO.specE rfl rfl (d27 _) (by simp only [pt8, pt1]; rfl) ?_) | (refine WC.seq ?_) | (refine WC.region ?_) | (refine WO.nil ?_) | (simp only [fl1, fl2]) | (refine WC.yes rfl ?_) | (refine WC.ret ?_))
   exact ⟨_, rfl, rfl⟩
 ·have ea : errC a = 1 := if_neg hva
  rw [ea] at c27
  rw [show errS a b = 1 from if_neg fun h => hva h.1, decide_eq_false (show ¬ sameS a b from fun h => hva h.1.1)]
  refine WF.fnE rfl (fn_of Try.func70 cir70) (by show 2 ≤ 29; decide) ?_
  unfold ir70
  simp only [padTo, List.replicate, zNA, zAN]
  repeat' (first | (refine WO.noE rfl (by simp only [pt8, pt0, pt7]; rfl) ?_) | (refine WO.opE (by intro; simp (disch := omega) only [go_sem]; rfl) (by simp only [pt8, pt0, pt1, pt2, pt3, pt4, pt5, pt6, pt7]; rfl) ?_) | (refine WO.specE rfl rfl (c27 _) (by simp only [pt8, pt4]; rfl) ?_) | (refine WO.specE rfl rfl (d27 _) (by simp only [pt8, pt1]; rfl) ?_) | (refine WC.seq ?_) | (refine WC.region ?_) | (refine WO.nil ?_) | (simp only [fl1, fl2]) | (refine WC.yes rfl ?_) | (refine WC.ret ?_))
  exact ⟨_, rfl, rfl⟩
theorem x70 {x y x' y' : AV} {a b : List (List Int)} (hx : RwL x a) (hy : RwL y b) (ha : a.length < 9223372036854775807) (hb : b.length < 9223372036854775807) {m : Mem} (h0 : Zz.byVal m.heap x' = some x) (h1 : Zz.byVal m.heap y' = some y) : borrowX N9 70 [x', y'] m = some (.tuple [.bool (decide (sameS a b)), .int .i64 (errS a b)], m) :=
 borrowX_of (byVals_cons h0 (byVals_cons h1 rfl)) ((f70 hx hy ha hb).mono fun y m' h => by rw [h]; rfl)
noncomputable def N10 : Env := N9.put 70 (borrowX N9 70)
theorem N10_ok : EnvOk Try.prog N10 := Env.put_ok N9_ok (borrowX_ok N9_ok (callable Try.func70 (by kernel_rfl)))
theorem f123 {xr xc : AV} {h : List (List Int)} {js : List Nat} (hxr : RwL xr h) (hxc : NatS xc js) (hD : DivB h js) (hP : ∀ i, i ≤ h.length → -1000000000 ≤ pprodF (fun t => ent h t (js.getD t 0)) i ∧ pprodF (fun t => ent h t (js.getD t 0)) i ≤ 1000000000) :
  WF N10 (.func 123 [] []) [.agg [xr, xc]] ⟨[], []⟩ fun y m' => y = .int .i64 (pprodF (fun t => ent h t (js.getD t 0)) h.length) := by
 have hxl := hxr.len
 have hle := hD.le
 have c0 : Zz.cut [xr, xc] 0 1 = some [xr] := rfl
 have c1 : Zz.cut [xr, xc] 1 1 = some [xc] := rfl
 refine WF.fnE rfl (fn_of Try.func123 cir123) (by show 1 ≤ 25; decide) ?_
 unfold ir123
 simp only [padTo, List.replicate, zNA, zAN]
 repeat' (first | (refine WO.opE (by intro; simp (disch := omega) only [go_sem, Zz.look]; rfl) (by simp only [pt8, pt1, pt2, pt3, pt6, pt7]; rfl) ?_) | (refine WO.opE (by intro; exact ev_lenS (by simp only [go_sem]; first | rfl | assumption)) (by simp only [pt8, pt0]; rfl) ?_) | (refine WC.seq ?_) | (refine WC.region ?_) | (refine WO.nil ?_) | (simp only [fl1]) | (refine WC.block ?_))
 refine WC.loopI (fun m s => ∃ T R i, s = ⟨T, some ⟨0, [xr, xc]⟩ :: R, []⟩ ∧ T.length = 25 ∧ gt T 1 = .pref 0 0 0 ∧ gt T 3 = .int .i64 (pprodF (fun t => ent h t (js.getD t 0)) i) ∧ gt T 7 = xr ∧ gt T 8 = .int .i64 (h.length : Nat) ∧ gt T 9 = .int .i64 (i : Nat) ∧ m + i = h.length) ?_ h.length _ ⟨_, [], 0, rfl, rfl, rfl, rfl, rfl, rfl, rfl, by omega⟩
 rintro m _ ⟨T, R, i, rfl, hT, g1, g3, g7, g8, g9, hm⟩
 obtain ⟨f, rfl⟩ := ex25 hT
 clear hT
 replace g1 : f 1 = .pref 0 0 0 := g1
 replace g3 : f 3 = .int .i64 (pprodF (fun t => ent h t (js.getD t 0)) i) := g3
 replace g7 : f 7 = xr := g7
 replace g8 : f 8 = .int .i64 (h.length : Nat) := g8
 replace g9 : f 9 = .int .i64 (i : Nat) := g9
 simp only [g1, g3, g7, g8, g9]
 by_cases hi : i < h.length
 ·have g6 := hD.six i hi
  have hat := hxr.at hi
  have hcut := cut_row (t := tailr h i) g6
  have hcr : (rw_ h i).map (AV.int .i64) = icells (rw_ h i) := rfl
  rw [hcr] at hat hcut
  have hov := fun x0 x1 x2 x3 x4 x5 => icells_over6 g6 (x0 := x0) (x1 := x1) (x2 := x2) (x3 := x3) (x4 := x4) (x5 := x5)
  have hml : (icells (rw_ h i)).length = 6 := by rw [icells_len, g6]
  obtain ⟨t, hjat⟩ := hxc.at (k := i) (by rw [hD.len]; exact hi)
  have hp := hD.lt i hi
  have hib := icells_at (r := rw_ h i) (j := js.getD i 0) (by omega)
  have hb := hP (i + 1) hi
  have hb0 : pprodF (fun t => ent h t (js.getD t 0)) (i + 1) = pprodF (fun t => ent h t (js.getD t 0)) i * (rw_ h i).getD (js.getD i 0) 0 := rfl
  have kl : ∀ c, Zz.look (some ⟨0, [xr, xc]⟩ :: (R ++ [some ⟨0, c⟩])) (R.length + 1) 0 = some c := fun c => by
   show (match (some (⟨0, [xr, xc]⟩ : Blk) :: (R ++ [some ⟨0, c⟩]))[R.length + 1]? with | some (some b) => _ | _ => none) = _
   simp
  have k0 : ∀ S, Zz.look (some ⟨0, [xr, xc]⟩ :: S) 0 0 = some [xr, xc] := fun _ => rfl
  have ks : ∀ c d, setBlk (some ⟨0, [xr, xc]⟩ :: (R ++ [some ⟨0, c⟩])) (R.length + 1) 0 d = some ⟨0, [xr, xc]⟩ :: (R ++ [some ⟨0, d⟩]) := fun c d => by simp [setBlk]
  rw [hb0] at hb
  repeat' (first | (refine WO.opE (by intro; simp (disch := omega) only [go_sem, hat, hcut, hjat, hib, kl, k0, Nat.mul_one, List.length_cons, zCA]; rfl) (by simp only [pt8, pt0, pt1, pt2, pt3, pt4, pt5, pt6, pt7]; rfl) ?_) | (refine WO.opN (by intro; simp (disch := omega) only [go_sem, Option.bind_eq_bind, app_s0, hov, hml, kl]; rfl) ?_) | (refine WC.seq ?_) | (refine WC.region ?_) | (refine WO.nil ?_) | (simp only [fl10]) | (refine WC.skip ?_) | (refine WC.block ?_) | (refine WC.em2 rfl (fun hp => ?_) (fun hp => ?_) <;> try (exfalso; first | omega | contradiction)))
  exact ⟨m - 1, by omega, _, _, i + 1, rfl, rfl, rfl, rfl, rfl, rfl, rfl, by omega⟩
 ·have hie : i = h.length := by omega
  subst hie
  repeat' (first | (refine WO.opE (by intro; simp (disch := omega) only [go_sem]; rfl) (by simp only [pt8, pt0, pt2]; rfl) ?_) | (refine WC.seq ?_) | (refine WC.region ?_) | (refine WO.nil ?_) | (simp only [fl1]) | (refine WC.exit ?_) | (refine WC.ret ?_) | (refine WC.em2 rfl (fun hp => ?_) (fun hp => ?_) <;> try (exfalso; first | omega | contradiction)))
  exact ⟨_, rfl, rfl⟩
set_option maxRecDepth 100000
set_option maxHeartbeats 8000000
theorem pprod_pos {f : Nat → Int} {n : Nat} (h : ∀ i, i < n → 1 ≤ f i) : ∀ i, i ≤ n → 1 ≤ pprodF f i ∧ (i < n → pprodF f i ≤ pprodF f (i + 1))
 | 0, _ => ⟨Int.le_refl _, fun h0 => by show (1 : Int) ≤ 1 * f 0; have := h 0 h0; omega⟩
 | i + 1, hi => by
  obtain ⟨h1, h2⟩ := pprod_pos h i (by omega)
  have h2 := h2 (by omega)
  refine ⟨by omega, fun h3 => ?_⟩
  have h4 := h (i + 1) h3
  show pprodF f (i + 1) ≤ pprodF f (i + 1) * f (i + 1)
  have := Int.mul_le_mul_of_nonneg_left h4 (show 0 ≤ pprodF f (i + 1) by omega)
  omega
theorem pprod_le {f : Nat → Int} {n : Nat} (h : ∀ i, i < n → 1 ≤ f i) : ∀ k i, i + k = n → pprodF f i ≤ pprodF f n
 | 0, i, e => by rw [show i = n by omega]; exact Int.le_refl _
 | k + 1, i, e => Int.le_trans ((pprod_pos h i (by omega)).2 (by omega)) (pprod_le h k (i + 1) (by omega))
def volF (rows : List (List Int)) : Int := pprodF (pivP rows) (hermF rows).length
theorem volF_bd {rows : List (List Int)} (hv : VM rows) (h6 : Six rows) : 1 ≤ volF rows ∧ volF rows ≤ 1000000000 :=
 ⟨(pprod_pos (pivP_all hv h6).1 _ (Nat.le_refl _)).1, (pivP_all hv h6).2.1⟩
theorem s123 {xr xc : AV} {rows : List (List Int)} (hv : VM rows) (h6 : Six rows) (hxr : RwL xr (hermF rows)) (hxc : NatS xc (fwdF rows).js) {m : Mem} : borrowE N10 123 [.agg [xr, xc]] m = some (.int .i64 (volF rows), m) := by
 obtain ⟨h1, h2, _⟩ := pivP_all hv h6
 refine borrowE_of ?_ ((f123 hxr hxc (herm_divB hv h6) fun i hi => ?_).mono fun y m' h => by rw [h]; rfl)
 ·have e1 := hxr.pureA
  have e2 := NatS.pureA hxc
  have p1 : Zz.pureC xr = true := by
   rcases hxr with ⟨_, ⟨rfl, _⟩ | ⟨f, rfl⟩⟩ <;> exact e1
  have p2 : Zz.pureC xc = true := by
   rcases hxc with ⟨rfl, _⟩ | ⟨f, rfl⟩ <;> exact e2
  refine pures_cons ?_ rfl
  show ([xr, xc] : List AV).all Zz.pureC = true
  simp [p1, p2]
 ·have g1 := pprod_pos h1 i hi
  have g2 := pprod_le h1 ((hermF rows).length - i) i (by omega)
  have e : pprodF (fun t => ent (hermF rows) t ((fwdF rows).js.getD t 0)) i = pprodF (pivP rows) i := rfl
  rw [e]
  constructor
  ·have := g1.1; omega
  ·exact Int.le_trans g2 h2
noncomputable def N11 : Env := N10.put 72 (borrowX N6 72)
theorem N11_ok : EnvOk Try.prog N11 := Env.put_ok N10_ok (borrowX_ok N6_ok (callable Try.func72 (by kernel_rfl)))
noncomputable def N12 : Env := N11.put 123 (borrowE N10 123)
theorem N12_ok : EnvOk Try.prog N12 := Env.put_ok N11_ok (borrowE_ok N10_ok (callable Try.func123 (by kernel_rfl)))
def scanI (b : List (List Int)) : List (List Int) → Int
 | [] => 0
 | r :: rs => if errD b r = 0 then if memD b r then scanI b rs else 4 else errD b r
def errX (a b : List (List Int)) : Int := if VM a ∧ VM b then scanI b a else 1
def idxV (a b : List (List Int)) : Int := if errX a b = 0 then if (hermF a).length < (hermF b).length then 0 else (volF a).tdiv (volF b) else 0
theorem f74 {x y : AV} {a b : List (List Int)} (hx : RwL x a) (hy : RwL y b) (ha : a.length < 9223372036854775807) (hb : b.length < 9223372036854775807) : WF N12 (.func 74 [] []) [x, y] ⟨[], []⟩ fun v m' => v = .tuple [.int .i64 (idxV a b), .int .i64 (errX a b)] := by
 obtain ⟨xa, ca, hxa, hca, c122⟩ := s122 hx ha
 obtain ⟨xb, cb, hxb, hcb, d122⟩ := s122 hy hb
 have hxl := hx.len
 have o2 : ∀ u w : AV, Zz.over [.snil, .snil] 0 [u, w] = some [u, w] := fun _ _ => rfl
 have k2 : ∀ u w : AV, Zz.cut [u, w] 0 2 = some [u, w] := fun _ _ => rfl
 have k1 : ∀ u w : AV, Zz.cut [u, w] 0 1 = some [u] := fun _ _ => rfl
 by_cases hv : VM a ∧ VM b
 ·have ea : errC a = 0 := if_pos hv.1
  have eb : errC b = 0 := if_pos hv.2
  rw [ea] at c122
  rw [eb] at d122
  rw [show hermR a = hermF a from if_pos hv.1] at hxa
  rw [show hermR b = hermF b from if_pos hv.2] at hxb
  rw [show colsF a = (fwdF a).js from if_pos hv.1] at hca
  rw [show colsF b = (fwdF b).js from if_pos hv.2] at hcb
  have h6a : Six a := fun i hi => hx.six hi
  have h6b : Six b := fun i hi => hy.six hi
  have c123 := fun m => s123 (m := m) hv.1 h6a hxa hca
  have d123 := fun m => s123 (m := m) hv.2 h6b hxb hcb
  have va := volF_bd hv.1 h6a
  have vb := volF_bd hv.2 h6b
  have la := hxa.len
  have lb := hxb.len
  have na := (herm_divB hv.1 h6a).le
  have nb := (herm_divB hv.2 h6b).le
  have eX : errX a b = scanI b a := if_pos hv
  refine WF.fnE rfl (fn_of Try.func74 cir74) (by show 2 ≤ 64; decide) ?_
  unfold ir74
  simp only [padTo, List.replicate, zNA, zAN]
  repeat' (first | (refine WO.yes rfl ?_) | (refine WO.opE (by intro; simp (disch := omega) only [go_sem, zCA, zNA]; rfl) (by simp only [pt8, pt0, pt1, pt2, pt3, pt4, pt5, pt6, pt7]; rfl) ?_) | (refine WO.opN (by intro; simp (disch := omega) only [go_sem, Zz.look, Option.bind_eq_bind, Nat.reduceAdd, o2, setBlk, List.set_cons_zero, List.set_cons_succ]; rfl) ?_) | (refine WO.opE (by intro; exact ev_lenS (by simp only [go_sem]; first | rfl | assumption)) (by simp only [pt8, pt0]; rfl) ?_) | (refine WO.specE rfl rfl (c122 _) (by simp only [pt8, pt1]; rfl) ?_) | (refine WO.specE rfl rfl (d122 _) (by simp only [pt8, pt6]; rfl) ?_) | (refine WC.seq ?_) | (refine WC.region ?_) | (refine WO.nil ?_) | (simp only [fl1]) | (refine WC.no rfl ?_) | (refine WC.skip ?_) | (refine WC.block ?_))
  refine WC.loopI (fun m s => ∃ T R i, s = ⟨T, some ⟨0, [xa, ca]⟩ :: some ⟨0, [xb, cb]⟩ :: R, []⟩ ∧ T.length = 64 ∧ gt T 0 = x ∧ gt T 1 = y ∧ gt T 6 = .pref 0 0 0 ∧ gt T 8 = .pref 1 0 0 ∧ gt T 31 = x ∧ gt T 32 = .int .i64 (a.length : Nat) ∧ gt T 33 = .int .i64 (i : Nat) ∧ m + i = a.length ∧ scanI b a = scanI b (a.drop i)) ?_ a.length _ ⟨_, [], 0, rfl, rfl, rfl, rfl, rfl, rfl, rfl, rfl, rfl, by omega, rfl⟩
  rintro m _ ⟨T, R, i, rfl, hT, g0, g1, g6, g8, g31, g32, g33, hm, hs⟩
  obtain ⟨f, rfl⟩ := ex64 hT
  clear hT
  replace g0 : f 0 = x := g0
  replace g1 : f 1 = y := g1
  replace g6 : f 6 = .pref 0 0 0 := g6
  replace g8 : f 8 = .pref 1 0 0 := g8
  replace g31 : f 31 = x := g31
  replace g32 : f 32 = .int .i64 (a.length : Nat) := g32
  replace g33 : f 33 = .int .i64 (i : Nat) := g33
  simp only [g0, g1, g6, g8, g31, g32, g33]
  have q0 : ∀ S : Hp, Zz.look (some ⟨0, [xa, ca]⟩ :: some ⟨0, [xb, cb]⟩ :: S) 0 0 = some [xa, ca] := fun _ => rfl
  have q1 : ∀ S : Hp, Zz.look (some ⟨0, [xa, ca]⟩ :: some ⟨0, [xb, cb]⟩ :: S) 1 0 = some [xb, cb] := fun _ => rfl
  by_cases hi : i < a.length
  ·have g6 := hx.six hi
   have hat := hx.at hi
   have hcut := cut_row (t := tailr a i) g6
   have hcr : (rw_ a i).map (AV.int .i64) = icells (rw_ a i) := rfl
   rw [hcr] at hat hcut
   have hcz := icells_cut g6
   have hov := fun x0 x1 x2 x3 x4 x5 => icells_over6 g6 (x0 := x0) (x1 := x1) (x2 := x2) (x3 := x3) (x4 := x4) (x5 := x5)
   have hml : (icells (rw_ a i)).length = 6 := by rw [icells_len, g6]
   have kl : ∀ c, Zz.look (some ⟨0, [xa, ca]⟩ :: some ⟨0, [xb, cb]⟩ :: (R ++ [some ⟨0, c⟩])) (R.length + 1 + 1) 0 = some c := fun c => by
    simp [Zz.look]
   have ks : ∀ c d, setBlk (some ⟨0, [xa, ca]⟩ :: some ⟨0, [xb, cb]⟩ :: (R ++ [some ⟨0, c⟩])) (R.length + 1 + 1) 0 d = some ⟨0, [xa, ca]⟩ :: some ⟨0, [xb, cb]⟩ :: (R ++ [some ⟨0, d⟩]) := fun c d => by simp [setBlk]
   obtain ⟨xm, hxm, c66⟩ := x66 (v := rw_ a i) hy hb g6
   have c66 := fun m => c66 m y (hy.byVal _)
   have hdr : a.drop i = rw_ a i :: a.drop (i + 1) := by rw [drop_cons hi, rw_lt hi]
   have hstep : scanI b (a.drop i) = if errD b (rw_ a i) = 0 then if memD b (rw_ a i) then scanI b (a.drop (i + 1)) else 4 else errD b (rw_ a i) := by rw [hdr]; rfl
   rw [hstep] at hs
   by_cases he : errD b (rw_ a i) = 0
   ·rw [if_pos he] at hs
    rw [he] at c66
    by_cases hmem : memD b (rw_ a i)
    ·rw [if_pos hmem] at hs
     rw [decide_eq_true hmem] at c66
     repeat' (first | (refine WO.opE (by intro; simp (disch := omega) only [go_sem, hat, hcut, hcz, kl, List.length_cons, zCA]; rfl) (by simp only [pt8, pt0, pt1, pt2, pt3, pt4, pt5, pt6, pt7]; rfl) ?_) | (refine WO.opN (by intro; simp (disch := omega) only [go_sem, Option.bind_eq_bind, app_s0, hov, hml, kl]; rfl) ?_) | (refine WO.specE rfl rfl (c66 _) (by simp only [pt8, pt0]; rfl) ?_) | (refine WC.seq ?_) | (refine WC.region ?_) | (refine WO.nil ?_) | (simp only [fl1, fl10]) | (refine WC.no rfl ?_) | (refine WC.skip ?_) | (refine WC.block ?_) | (refine WC.em2 rfl (fun hp => ?_) (fun hp => ?_) <;> try (exfalso; first | omega | contradiction)))
     exact ⟨m - 1, by omega, _, _, i + 1, rfl, rfl, rfl, rfl, rfl, rfl, rfl, rfl, rfl, by omega, hs⟩
    ·rw [if_neg hmem] at hs
     rw [decide_eq_false hmem] at c66
     have e1 : errX a b = 4 := eX.trans hs
     rw [show idxV a b = 0 from if_neg (by rw [e1]; decide), e1]
     repeat' (first | (refine WO.opE (by intro; simp (disch := omega) only [go_sem, hat, hcut, hcz, kl, List.length_cons, zCA]; rfl) (by simp only [pt8, pt0, pt1, pt2, pt3, pt4, pt5, pt6, pt7]; rfl) ?_) | (refine WO.opN (by intro; simp (disch := omega) only [go_sem, Option.bind_eq_bind, app_s0, hov, hml, kl]; rfl) ?_) | (refine WO.specE rfl rfl (c66 _) (by simp only [pt8, pt0]; rfl) ?_) | (refine WC.seq ?_) | (refine WC.region ?_) | (refine WO.nil ?_) | (simp only [fl1, fl2, fl5, fl8]) | (refine WC.yes rfl ?_) | (refine WC.no rfl ?_) | (refine WC.skip ?_) | (refine WC.ret ?_) | (refine WC.block ?_) | (refine WC.em2 rfl (fun hp => ?_) (fun hp => ?_) <;> try (exfalso; first | omega | contradiction)))
     exact ⟨_, rfl, rfl⟩
   ·rw [if_neg he] at hs
    have e1 : errX a b = errD b (rw_ a i) := eX.trans hs
    rw [show idxV a b = 0 from if_neg (by rw [e1]; exact he), e1]
    generalize errD b (rw_ a i) = e at *
    repeat' (first | (refine WO.opE (by intro; simp (disch := omega) only [go_sem, hat, hcut, hcz, kl, List.length_cons, zCA]; rfl) (by simp only [pt8, pt1, pt2, pt3, pt4, pt5, pt6, pt7]; rfl) ?_) | (refine WO.opN (by intro; simp (disch := omega) only [go_sem, Option.bind_eq_bind, app_s0, hov, hml, kl]; rfl) ?_) | (refine WO.specE rfl rfl (c66 _) (by simp only [pt8, pt0]; rfl) ?_) | (refine WC.seq ?_) | (refine WC.region ?_) | (refine WO.nil ?_) | (simp only [fl1, fl2, fl5, fl8]) | (refine WC.skip ?_) | (refine WC.ret ?_) | (refine WC.block ?_) | (refine WC.em2 rfl (fun hp => ?_) (fun hp => ?_) <;> try (exfalso; first | omega | contradiction)))
    exact ⟨_, rfl, rfl⟩
  ·have hie : i = a.length := by omega
   subst hie
   have e1 : errX a b = 0 := by rw [eX, hs, List.drop_length]; rfl
   have e2 : idxV a b = if (hermF a).length < (hermF b).length then 0 else (volF a).tdiv (volF b) := if_pos e1
   rw [e1, e2]
   have htb := tdiv_bd (b := volF b) (M := 1000000000) (by omega) (show -1000000000 ≤ volF a ∧ volF a ≤ 1000000000 by omega)
   have hne : volF b ≠ 0 := by omega
   generalize volF a = A at *
   generalize volF b = B at *
   by_cases hlt : (hermF a).length < (hermF b).length
   ·rw [if_pos hlt]
    repeat' (first | (refine WO.opE (by intro; simp (disch := omega) only [go_sem, q0, q1]; rfl) (by simp only [pt8, pt0, pt2, pt4, pt5, pt7]; rfl) ?_) | (refine WO.opE (by intro; exact ev_lenS (by simp only [go_sem]; first | rfl | assumption)) (by simp only [pt8, pt1, pt6]; rfl) ?_) | (refine WC.seq ?_) | (refine WC.region ?_) | (refine WO.nil ?_) | (simp only [fl1, fl2]) | (refine WC.exit ?_) | (refine WC.ret ?_) | (refine WC.em2 rfl (fun hp => ?_) (fun hp => ?_) <;> try (exfalso; first | omega | contradiction)))
    exact ⟨_, rfl, rfl⟩
   ·rw [if_neg hlt]
    repeat' (first | (refine WO.opE (by intro; simp (disch := omega) only [go_sem, q0, q1, if_false]; rfl) (by simp only [pt8, pt0, pt2, pt4, pt5, pt7]; rfl) ?_) | (refine WO.opE (by intro; exact ev_lenS (by simp only [go_sem]; first | rfl | assumption)) (by simp only [pt8, pt1, pt6]; rfl) ?_) | (refine WT.spec rfl rfl (fun V => c123 ⟨V, []⟩) (by simp only [pt8, pt4]; rfl) ?_) | (refine WT.spec rfl rfl (fun V => d123 ⟨V, []⟩) (by simp only [pt8, pt6]; rfl) ?_) | (refine WC.seq ?_) | (refine WC.region ?_) | (refine WO.nil ?_) | (simp only [fl1]) | (refine WC.drawT ?_) | (refine WT.nil ?_) | (refine WT.free rfl (by intro; simp (disch := omega) only [go_sem, q0, q1, k2, hne, if_false]; rfl) rfl (by simp only [pt8, pt3, pt4, pt5, pt7]; rfl) ?_) | (refine WT.big rfl rfl (by intro; simp (disch := omega) only [go_sem, q0, q1, k2]; rfl) (by simp (disch := omega) only [go_sem, touch]; rfl) (by first | exact .inl rfl | exact .inr (apart_nil _) | exact .inr trivial | (right; apply apart_mk; simp only [apartL, zNA, zCA, List.getElem?_cons_succ, List.getElem?_cons_zero, Tch.free, and_true, true_and]; first | done | omega)) (by simp only [pt8, pt3, pt5]; rfl) ?_) | (refine WC.skip ?_) | (refine WC.exit ?_) | (refine WC.ret ?_) | (refine WC.em2 rfl (fun hp => ?_) (fun hp => ?_) <;> try (exfalso; first | omega | contradiction)))
    exact ⟨_, rfl, rfl⟩
 ·have e1 : errX a b = 1 := if_neg hv
  rw [show idxV a b = 0 from if_neg (by rw [e1]; decide), e1]
  by_cases hva : VM a
  ·have ea : errC a = 0 := if_pos hva
   have eb : errC b = 1 := if_neg fun h => hv ⟨hva, h⟩
   rw [ea] at c122
   rw [eb] at d122
   refine WF.fnE rfl (fn_of Try.func74 cir74) (by show 2 ≤ 64; decide) ?_
   unfold ir74
   simp only [padTo, List.replicate, zNA, zAN]
   repeat' (first | (refine WO.yes rfl ?_) | (refine WO.opE (by intro; simp (disch := omega) only [go_sem, zCA, zNA]; rfl) (by simp only [pt8, pt0, pt1, pt2, pt3, pt4, pt5, pt6, pt7]; rfl) ?_) | (refine WO.opN (by intro; simp (disch := omega) only [go_sem, Zz.look, Option.bind_eq_bind, Nat.reduceAdd, o2, setBlk, List.set_cons_zero, List.set_cons_succ]; rfl) ?_) | (refine WO.specE rfl rfl (c122 _) (by simp only [pt8, pt1]; rfl) ?_) | (refine WO.specE rfl rfl (d122 _) (by simp only [pt8, pt6]; rfl) ?_) | (refine WC.seq ?_) | (refine WC.region ?_) | (refine WO.nil ?_) | (simp only [fl1, fl2]) | (refine WC.yes rfl ?_) | (refine WC.ret ?_))
   exact ⟨_, rfl, rfl⟩
  ·have ea : errC a = 1 := if_neg hva
   rw [ea] at c122
   generalize errC b = eb at *
   refine WF.fnE rfl (fn_of Try.func74 cir74) (by show 2 ≤ 64; decide) ?_
   unfold ir74
   simp only [padTo, List.replicate, zNA, zAN]
   repeat' (first | (refine WO.noE rfl (by simp only [pt8, pt4, pt5]; rfl) ?_) | (refine WO.opE (by intro; simp (disch := omega) only [go_sem, zCA, zNA]; rfl) (by simp only [pt8, pt0, pt1, pt2, pt3, pt4, pt5, pt6, pt7]; rfl) ?_) | (refine WO.opN (by intro; simp (disch := omega) only [go_sem, Zz.look, Option.bind_eq_bind, Nat.reduceAdd, o2, setBlk, List.set_cons_zero, List.set_cons_succ]; rfl) ?_) | (refine WO.specE rfl rfl (c122 _) (by simp only [pt8, pt1]; rfl) ?_) | (refine WO.specE rfl rfl (d122 _) (by simp only [pt8, pt6]; rfl) ?_) | (refine WC.seq ?_) | (refine WC.region ?_) | (refine WO.nil ?_) | (simp only [fl1, fl2]) | (refine WC.yes rfl ?_) | (refine WC.ret ?_))
   exact ⟨_, rfl, rfl⟩
theorem x74 {x y x' y' : AV} {a b : List (List Int)} (hx : RwL x a) (hy : RwL y b) (ha : a.length < 9223372036854775807) (hb : b.length < 9223372036854775807) {m : Mem} (h0 : Zz.byVal m.heap x' = some x) (h1 : Zz.byVal m.heap y' = some y) : borrowX N12 74 [x', y'] m = some (.tuple [.int .i64 (idxV a b), .int .i64 (errX a b)], m) :=
 borrowX_of (byVals_cons h0 (byVals_cons h1 rfl)) ((f74 hx hy ha hb).mono fun y m' h => by rw [h]; rfl)
noncomputable def N13 : Env := N12.put 74 (borrowX N12 74)
theorem N13_ok : EnvOk Try.prog N13 := Env.put_ok N12_ok (borrowX_ok N12_ok (callable Try.func74 (by kernel_rfl)))
end Go.Proofs.Ytnilimjkibimcaa

