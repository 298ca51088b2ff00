import Derived.Test.YtnilimjkibimcaaMD
import Derived.Test.YtnilimjkibimcaaMA
import Derived.Test.YtnilimjkibimcaaAbsI

set_option linter.unusedSimpArgs false
set_option linter.unusedVariables false

namespace Go.Proofs.Ytnilimjkibimcaa
open Go.Zz
def vecOf (rows : List (List Int)) (js : List Nat) (i : Nat) : List Int := js.map (ent rows i)
def addRows (rows : List (List Int)) (js : List Nat) (d : Int) : Nat → List (List Int)
 | 0 => multF js.length js.length d
 | i + 1 => (addI js.length (addRows rows js d i) (vecOf rows js i) d js.length).1
def sumE (rows : List (List Int)) (s : Fr) (x : List Int) (j k : Nat) : Int := psumF (fun k => x.getD k 0 * minorF (ent rows) s.is (s.js.set k j)) k
def outE (rows : List (List Int)) (s : Fr) (x : List Int) (j : Nat) : Int := (sumE rows s x j s.js.length).tdiv s.d
def outR (rows : List (List Int)) (s : Fr) (x : List Int) : List Int := (List.range 6).map (outE rows s x)
def hermX (rows : List (List Int)) (s : Fr) : List (List Int) := redI s.js.length (addRows rows s.js (absI s.d) rows.length) (absI s.d) s.js.length
def fwdF (rows : List (List Int)) : Fr := frame rows [0, 1, 2, 3, 4, 5] 6
def hermF (rows : List (List Int)) : List (List Int) := (hermX rows (fwdF rows)).map (outR rows (fwdF rows))
def hermR (rows : List (List Int)) : List (List Int) := if VM rows then hermF rows else []
def errC (rows : List (List Int)) : Int := if VM rows then 0 else 1
structure FrB (rows : List (List Int)) (s : Fr) : Prop where
 d : s.d = minorF (ent rows) s.is s.js
 ne : s.d ≠ 0
 bd : -1000000000 ≤ s.d ∧ s.d ≤ 1000000000
 i : okI rows s.is
 j : okJ s.js
 nd : s.is.Nodup
 len : s.is.length = s.js.length
 six : s.js.length ≤ 6
theorem FrOk.toB {rows : List (List Int)} {ord : List Nat} {k : Nat} {s : Fr} (h : FrOk rows ord k s) (hv : VM rows) (h6 : ∀ i, i < rows.length → (rw_ rows i).length = 6) (ho : okJ ord) (hol : ord.length ≤ 6) : FrB rows s := by
 have hs := h.sub.trans (List.take_sublist _ _)
 have hj := ho.sub hs
 have hb := (minor_bnd (rows := rows) (c := 1) (by decide) h.i (hj.toW h6)).1
 rw [← h.d] at hb
 have := prodB_vol hv h.nodup h.i
 exact ⟨h.d, h.ne, ⟨by omega, by omega⟩, h.i, hj, h.nodup, h.len, Nat.le_trans hs.length_le hol⟩
theorem FrB.abs {rows : List (List Int)} {s : Fr} (h : FrB rows s) : 0 < absI s.d ∧ absI s.d ≤ 1000000000 := by
 have := h.ne
 have := h.bd
 unfold absI
 split <;> omega
theorem vec_VC {rows : List (List Int)} {js : List Nat} {i : Nat} (he : okE (rw_ rows i)) (hj : okJ js) : VC (vecOf rows js i) js.length := by
 refine ⟨by simp [vecOf], fun j hjl => ?_⟩
 have e : (vecOf rows js i).getD j 0 = ent rows i (js.getD j 0) := by simp [vecOf, List.getD_eq_getElem?_getD, hjl]
 rw [e]
 have : js.getD j 0 < 6 := by
  rw [List.getD_eq_getElem?_getD, List.getElem?_eq_getElem hjl]
  exact hj.2 _ (List.getElem_mem hjl)
 exact he _ this
theorem addRows_LB {rows : List (List Int)} {js : List Nat} {d : Int} (hd : 0 < d) (hd9 : d ≤ 1000000000) (he : ∀ i, i < rows.length → okE (rw_ rows i)) (hj : okJ js) : ∀ {i : Nat}, i ≤ rows.length → LB (addRows rows js d i) js.length d
 | 0, _ => LB.mult hd
 | i + 1, hi => (LB.addI hd hd9 (addRows_LB hd hd9 he hj (i := i) (by omega)) (vec_VC (he i (by omega)) hj) (Nat.le_refl _)).1
theorem sumE_bd {rows : List (List Int)} {s : Fr} {x : List Int} {j : Nat} (hx : ∀ k, k < s.js.length → 0 ≤ x.getD k 0 ∧ x.getD k 0 ≤ 1000000000) (hr : ∀ k, k < s.js.length → -1000000000 ≤ minorF (ent rows) s.is (s.js.set k j) ∧ minorF (ent rows) s.is (s.js.set k j) ≤ 1000000000) :
  ∀ k, k ≤ s.js.length → -(k * 1000000000000000000 : Int) ≤ sumE rows s x j k ∧ sumE rows s x j k ≤ k * 1000000000000000000
 | 0, _ => by simp [sumE, psumF]
 | k + 1, hk => by
  obtain ⟨h1, h2⟩ := sumE_bd hx hr k (by omega)
  have h3 := mul_bd (hr k (by omega)) (hx k (by omega))
  rw [Int.mul_comm] at h3
  have e : sumE rows s x j (k + 1) = sumE rows s x j k + x.getD k 0 * minorF (ent rows) s.is (s.js.set k j) := rfl
  rw [e]
  omega
theorem tdiv_bd {a b M : Int} (hb : b ≠ 0) (h : -M ≤ a ∧ a ≤ M) : -M ≤ a.tdiv b ∧ a.tdiv b ≤ M := by
 have h1 : (a.tdiv b).natAbs ≤ a.natAbs := by
  rw [Int.natAbs_tdiv]
  exact Nat.div_le_self _ _
 omega
def flatR (rows : List (List Int)) : List AV := (rows.map icells).flatten
theorem flatR_len {rows : List (List Int)} (h6 : ∀ r ∈ rows, r.length = 6) : (flatR rows).length = rows.length * 6 := by
 induction rows with
 | nil => rfl
 | cons r rows ih =>
  have h1 := h6 r (by simp)
  have h2 := ih fun r hr => h6 r (by simp [hr])
  unfold flatR at h2 ⊢
  rw [List.map_cons, List.flatten_cons, List.length_append, h2, icells_len, h1, List.length_cons]
  omega
theorem flatR_app (a : List (List Int)) (r : List Int) : flatR (a ++ [r]) = flatR a ++ icells r := by simp [flatR]
theorem flatR_flat (rows : List (List Int)) : (flatR rows).all flatAV = true := by
 induction rows with
 | nil => rfl
 | cons r rows ih =>
  have h1 : (icells r).all flatAV = true := flat_ints _
  unfold flatR at ih ⊢
  rw [List.map_cons, List.flatten_cons, List.all_append, h1, ih]
  rfl
theorem icells_at {r : List Int} {j : Nat} (h : j < r.length) : (icells r)[j]? = some (.int .i64 (r.getD j 0)) := by
 simp [icells, h]
theorem icells_over {r : List Int} {j : Nat} (h : j < r.length) (x : Int) : Zz.over (icells r) j [.int .i64 x] = some (icells (r.set j x)) := by
 rw [over_one (by rw [icells_len]; exact h), icells_set]
theorem icells_cut {r : List Int} (h : r.length = 6) : Zz.cut (icells r) 0 6 = some (icells r) := cut_row0 h
theorem icells_over6 {r : List Int} (h : r.length = 6) {x0 x1 x2 x3 x4 x5 : AV} : Zz.over [x0, x1, x2, x3, x4, x5] 0 (icells r) = some (icells r) := over_row h
theorem rowPush {G : Hp} {L : List (Option ALoop)} {v : AV} {q : Nat} {rows : List (List Int)} {r : List Int} (h : GS 6 G v q (flatR rows)) (h6 : ∀ r ∈ rows, r.length = 6) (hr : r.length = 6) (hl : rows.length < 1000000) (X : Hp) {id : Nat} (hid : Zz.look (G ++ X) id 0 = some (icells r)) :
  ∃ v' q' H', appendAV 6 48 ⟨G ++ X, L⟩ v (.sref id 0 0 6 1 (some 1)) = some (v', ⟨H', L⟩) ∧ GS 6 H' v' q' (flatR (rows ++ [r])) ∧ (q' = q ∨ q' = G.length + X.length) ∧ G.length + X.length ≤ H'.length ∧ ∀ j, j < G.length + X.length → j ≠ q → H'[j]? = (G ++ X)[j]? := by
 have hfl := flatR_len h6
 obtain ⟨v', q', H', a1, a2, a3, a4, a5⟩ := (h.more X).append (L := L) (bytes := 48) (n := 1) (cap := some 1) hid (by rw [icells_len, hr]) Nat.one_pos (by decide) ⟨by rw [hfl]; omega, by rw [hfl]; omega⟩
 rw [List.length_append] at a3 a4 a5
 exact ⟨v', q', H', a1, by rw [flatR_app]; exact a2, a3, a4, a5⟩
theorem GS.rows {H : Hp} {v : AV} {q : Nat} {rows : List (List Int)} (h : GS 6 H v q (flatR rows)) (h6 : ∀ r ∈ rows, r.length = 6) : ∃ x, RwL x rows ∧ Zz.resC H v = some x := by
 have hl := flatR_len h6
 have hc : ∀ c ∈ rows.map icells, c.length = 6 := fun c hc => by
  obtain ⟨r, hr, rfl⟩ := List.mem_map.1 hc
  rw [icells_len]
  exact h6 r hr
 rcases h with ⟨rfl, h1⟩ | ⟨g, rfl, h1, h2⟩ | ⟨g, n, rfl, h1, h2, h3⟩
 ·rw [h1] at hl
  have : rows = [] := List.length_eq_zero_iff.1 (by simp at hl; omega)
  subst this
  exact ⟨.snil, ⟨hc, .inl ⟨rfl, rfl⟩⟩, rfl⟩
 ·rw [h1] at hl
  have : rows = [] := List.length_eq_zero_iff.1 (by simp at hl; omega)
  subst this
  exact ⟨.sval true 0 [], ⟨hc, .inr ⟨true, rfl⟩⟩, by rw [resC_flat h2 rfl rfl]; rfl⟩
 ·have hn : n = rows.length := by omega
  subst hn
  exact ⟨_, ⟨hc, .inr ⟨_, by rw [List.length_map]; rfl⟩⟩, resC_flat h3 h1 (flatR_flat rows)⟩
set_option maxRecDepth 100000
set_option maxHeartbeats 8000000
theorem getD_ext {a b : List Int} (hl : a.length = b.length) (h : ∀ t, t < a.length → a.getD t 0 = b.getD t 0) : a = b := by
 apply List.ext_getElem hl
 intro i h1 h2
 have := h i h1
 rwa [List.getD_eq_getElem?_getD, List.getElem?_eq_getElem h1, List.getD_eq_getElem?_getD, List.getElem?_eq_getElem h2] at this
theorem RowM.of {G X : Hp} {w : List Int} {n id : Nat} (hid : Zz.look (G ++ X) id 0 = some (icells w)) (hw : w.length = n) : RowM (G ++ X) (.sref id 0 0 1 n (some n)) id w :=
 ⟨0, 0, some n, _, by rw [hw], hid, by rw [icells_len]; omega, by rw [List.drop_zero, List.take_of_length_le (by rw [icells_len]; exact Nat.le_refl _)], .inr (by rw [hw])⟩
theorem f27 {l : AV} {rows : List (List Int)} (hl : RwL l rows) (hv : VM rows) : WF E16 (.func 27 [] []) [l] ⟨[], []⟩ fun y m' => ∃ v q, y = .tuple [v, .int .i64 0] ∧ GS 6 m'.heap v q (flatR (hermF rows)) := by
 have hr8 := hv.1
 have hlen := hl.len
 have c11 := fun m => s25 (m := m) hl (by omega)
 rw [decide_eq_true hv] at c11
 obtain ⟨ov, hov, c32⟩ := s83
 obtain ⟨hok, iv, jv, hiv, hjv, c31⟩ := s82 hl hv hov okJ_fwd (by decide)
 have hF : frame rows [0, 1, 2, 3, 4, 5] ([0, 1, 2, 3, 4, 5] : List Nat).length = fwdF rows := rfl
 rw [hF] at hok hiv hjv c31
 have hB := hok.toB hv (fun i hi => hl.six hi) okJ_fwd (by decide)
 clear hok hF
 have hherm : hermF rows = (hermX rows (fwdF rows)).map (outR rows (fwdF rows)) := rfl
 generalize fwdF rows = S at *
 obtain ⟨hd0, hd9⟩ := hB.abs
 have hn6 := hB.six
 have hjl := hjv.len
 have hil6 := hB.len
 have c30 := fun m => s81 (m := m) (x := S.d) (by have := hB.bd; omega)
 have hlc := hl.cells
 have hic := hiv.cells
 have hjc := hjv.cells
 unfold AV.cells at hlc hic hjc
 refine WF.fnE rfl (fn_of Try.func27 cir27) (by show 1 ≤ 107; decide) ?_
 unfold ir27
 simp only [padTo, List.replicate, zNA, zAN]
 repeat' (first | (refine WO.opE (by intro; simp (disch := omega) only [go_sem]; rfl) (by simp only [pt8, pt2, pt3, pt4, pt5]; rfl) ?_) | (refine WO.opN (by intro; simp (disch := omega) only [go_sem, Option.bind_eq_bind, Nat.reduceAdd]; rfl) ?_) | (refine WO.specE rfl rfl (c11 _) (by simp only [pt8, pt3]; rfl) ?_) | (refine WO.specE rfl rfl (c32 _) (by simp only [pt8, pt6]; rfl) ?_) | (refine WO.specE rfl rfl (c31 _) (by simp only [pt8, pt7]; rfl) ?_) | (refine WT.free rfl (by intro; exact ev_lenS (by simp only [go_sem]; exact hjl)) rfl (by simp only [pt8, pt2]; rfl) ?_) | (refine WT.spec rfl rfl (fun V => c30 _) (by simp only [pt8, pt5, pt6]; rfl) ?_) | (refine WC.seq ?_) | (refine WC.region ?_) | (refine WO.nil ?_) | (simp only [fl1]) | (refine WC.drawT ?_) | (refine WT.free rfl (by intro; simp (disch := omega) only [go_sem, Nat.reduceAdd]; rfl) rfl (by simp only [pt8, pt0, pt1, pt3, pt4]; rfl) ?_) | (refine WT.big rfl rfl (by intro; simp (disch := omega) only [go_sem, Nat.reduceAdd]; rfl) (by simp (disch := omega) only [go_sem, touch]; rfl) (by first | exact .inl rfl | exact .inr (apart_nil _) | exact .inr trivial | (right; apply apart_mk; simp only [apartL, zNA, zCA, List.getElem?_cons_succ, List.getElem?_cons_zero, Tch.free, and_true, true_and]; first | done | omega)) (by simp only [pt8, pt1, pt4, pt5]; rfl) ?_) | (refine WC.no rfl ?_) | (refine WC.skip ?_))
 refine WT.callR (fun y R => ∃ rv q xs bs, y = .agg [.int .i64 (absI S.d), rv] ∧ (∀ V : Hp, V.length = 2 → LatM (V ++ R) rv q xs bs (multF S.js.length S.js.length (absI S.d)) ∧ q < V.length + R.length) ∧ (∀ b ∈ bs, 2 ≤ b) ∧ 2 ≤ q) [] rfl rfl (fun j hj => by cases hj) ?_ ?_
 ·intro V hV _
  refine (f84 (E := E16) rfl (fn_of Try.func84 cir84) (n := S.js.length) (d := absI S.d) (by omega)).mono ?_
  rintro y m' ⟨rv, q, xs, bs, H', rfl, rfl, hlat, hext, hbs, hq, hqH⟩
  obtain ⟨R, rfl⟩ := hext.split
  have hV2 : V.length = 2 := hV
  refine ⟨rfl, R, rfl, rv, q, xs, bs, rfl, fun V' hV' => ⟨hlat.keep ?_ fun b hb => ?_, ?_⟩, fun b hb => by have := hbs b hb; omega, by omega⟩
  ·rw [List.getElem?_append_right (by omega), List.getElem?_append_right (by omega), hV2, hV']
  ·have := hbs b hb
   rw [List.getElem?_append_right (by omega), List.getElem?_append_right (by omega), hV2, hV']
  ·rw [List.length_append] at hqH
   omega
 rintro _ R ⟨rv, q, xs, bs, rfl, hlat0, hbs, hq2⟩
 simp only [pt8, pt6, zCA, zNA]
 have hlat := hlat0 [some ⟨0, [l, iv, jv, .int .i64 S.d]⟩, some ⟨0, [.int .i64 (absI S.d), rv]⟩] rfl
 simp only [zCA, zNA] at hlat
 obtain ⟨hlat, hqG⟩ := hlat
 have hrc : rv.cells = some [rv] := by
  rcases hlat.gs with ⟨rfl, _⟩ | ⟨g, rfl, _⟩ | ⟨g, n, rfl, _⟩ <;> rfl
 unfold AV.cells at hrc
 repeat' (first | (refine WO.opE (by intro; simp (disch := omega) only [go_sem]; rfl) (by simp only [pt8, pt1, pt7]; rfl) ?_) | (refine WO.opE (by intro; exact ev_lenS (by simp only [go_sem]; first | rfl | assumption)) (by simp only [pt8, pt0]; rfl) ?_) | (refine WC.seq ?_) | (refine WC.region ?_) | (refine WO.nil ?_) | (simp only [fl1]) | (refine WT.nil ?_) | (refine WT.bigN rfl rfl (by intro; simp (disch := omega) only [go_sem, Zz.look, Zz.over, List.set_cons_zero, List.set_cons_succ, Option.bind_eq_bind, Nat.reduceAdd, Nat.reduceLeDiff]; rfl) (by simp (disch := omega) only [go_sem, touch]; rfl) (by first | exact .inl rfl | exact .inr (apart_nil _) | exact .inr trivial | (right; apply apart_mk; simp only [apartL, zNA, zCA, List.getElem?_cons_succ, List.getElem?_cons_zero, Tch.free, and_true, true_and]; first | done | omega)) ?_) | (refine WC.block ?_))
 clear hlat0
 generalize hG0 : (some ⟨0, [l, iv, jv, .int .i64 S.d]⟩ :: some ⟨0, [.int .i64 (absI S.d), rv]⟩ :: R : Hp) = G0 at *
 have k00 : Zz.look G0 0 0 = some [l, iv, jv, .int .i64 S.d] := by rw [← hG0]; rfl
 have k01 : Zz.look G0 1 0 = some [.int .i64 (absI S.d), rv] := by rw [← hG0]; rfl
 have hqG0 : q < G0.length := by rw [← hG0]; simp at hqG ⊢; omega
 refine WC.loopI (fun m s => ∃ T G i, s = ⟨T, G, []⟩ ∧ T.length = 107 ∧ gt T 4 = .pref 0 0 0 ∧ gt T 5 = .pref 1 0 0 ∧ gt T 31 = l ∧ gt T 32 = .int .i64 (rows.length : Nat) ∧ gt T 33 = .int .i64 (i : Nat) ∧ m + i = rows.length ∧ Zz.look G 0 0 = some [l, iv, jv, .int .i64 S.d] ∧ Zz.look G 1 0 = some [.int .i64 (absI S.d), rv] ∧ q < G.length ∧ LatM G rv q xs bs (addRows rows S.js (absI S.d) i)) ?_ rows.length _ ⟨_, G0, 0, rfl, rfl, rfl, rfl, rfl, rfl, rfl, by omega, k00, k01, hqG0, hlat⟩
 clear hlat k00 k01 hqG0 hqG hG0
 rintro m _ ⟨T, G, i, rfl, hT, g4, g5, g31, g32, g33, hm, k0, k1, hqG, hlat⟩
 obtain ⟨f, rfl⟩ := ex107 hT
 clear hT
 replace g4 : f 4 = .pref 0 0 0 := g4
 replace g5 : f 5 = .pref 1 0 0 := g5
 replace g31 : f 31 = l := g31
 replace g32 : f 32 = .int .i64 (rows.length : Nat) := g32
 replace g33 : f 33 = .int .i64 (i : Nat) := g33
 simp only [g4, g5, g31, g32, g33]
 have hlb := addRows_LB hd0 hd9 hv.2.1 hB.j (show i ≤ rows.length by omega)
 have l0 := look_lt k0
 have l1 := look_lt k1
 by_cases hin : i < rows.length
 ·have h6 := hl.six hin
  have hat := hl.at hin
  have hcut := cut_row (t := tailr rows i) h6
  have hov := fun x0 x1 x2 x3 x4 x5 => icells_over6 h6 (x0 := x0) (x1 := x1) (x2 := x2) (x3 := x3) (x4 := x4) (x5 := x5)
  have hcr : (rw_ rows i).map (AV.int .i64) = icells (rw_ rows i) := rfl
  rw [hcr] at hat hcut
  have hml : (icells (rw_ rows i)).length = 6 := by rw [icells_len, h6]
  have hcut0 := icells_cut h6
  repeat' (first | (refine WO.opE (by intro; simp (disch := omega) only [go_sem, List.append_assoc, List.length_append, hat, hcut, k0, look_left]; rfl) (by simp only [pt8, pt0, pt1, pt2, pt3, pt4, pt5, pt6, pt7]; rfl) ?_) | (refine WO.opN (by intro; simp (disch := omega) only [go_sem, Option.bind_eq_bind, app_s0, hov, hml, lk0]; rfl) ?_) | (refine WO.opE (by intro; exact ev_lenS (by simp only [go_sem]; first | rfl | assumption)) (by simp only [pt8, pt3, pt7]; rfl) ?_) | (refine WO.opE (by intro; exact mk_row (by omega) rfl rfl) (by simp only [pt8, pt0]; rfl) ?_) | (refine WC.seq ?_) | (refine WC.region ?_) | (refine WO.nil ?_) | (simp only [fl1]) | (refine WC.skip ?_) | (refine WC.block ?_) | (refine WC.em2 rfl (fun hp => ?_) (fun hp => ?_) <;> try (exfalso; first | omega | contradiction)))
  refine WC.loopI (fun m2 s => ∃ T w k, s = ⟨T, G ++ [some ⟨0, icells (rw_ rows i)⟩, some ⟨0, icells w⟩], []⟩ ∧ T.length = 107 ∧ gt T 4 = .pref 0 0 0 ∧ gt T 5 = .pref 1 0 0 ∧ gt T 7 = .pref G.length 0 0 ∧ gt T 8 = .sref (G.length + 1) 0 0 1 S.js.length (some S.js.length) ∧ gt T 31 = l ∧ gt T 32 = .int .i64 (rows.length : Nat) ∧ gt T 33 = .int .i64 (i : Nat) ∧ gt T 42 = jv ∧ gt T 43 = .int .i64 (S.js.length : Nat) ∧ gt T 44 = .int .i64 (k : Nat) ∧ m2 + k = S.js.length ∧ w.length = S.js.length ∧ ∀ t, t < k → w.getD t 0 = ent rows i (S.js.getD t 0)) ?_ S.js.length _ ⟨_, List.replicate S.js.length 0, 0, by first | rfl | simp, rfl, rfl, rfl, rfl, by first | rfl | simp, rfl, rfl, rfl, rfl, rfl, rfl, by omega, by simp, fun t ht => by omega⟩
  clear g4 g5 g31 g32 g33 f
  rintro m2 _ ⟨T, w, k, rfl, hT, g4, g5, g7, g8, g31, g32, g33, g42, g43, g44, hm2, hwl, hw⟩
  obtain ⟨f, rfl⟩ := ex107 hT
  clear hT
  replace g4 : f 4 = .pref 0 0 0 := g4
  replace g5 : f 5 = .pref 1 0 0 := g5
  replace g7 : f 7 = .pref G.length 0 0 := g7
  replace g8 : f 8 = .sref (G.length + 1) 0 0 1 S.js.length (some S.js.length) := g8
  replace g31 : f 31 = l := g31
  replace g32 : f 32 = .int .i64 (rows.length : Nat) := g32
  replace g33 : f 33 = .int .i64 (i : Nat) := g33
  replace g42 : f 42 = jv := g42
  replace g43 : f 43 = .int .i64 (S.js.length : Nat) := g43
  replace g44 : f 44 = .int .i64 (k : Nat) := g44
  simp only [g4, g5, g7, g8, g31, g32, g33, g42, g43, g44]
  by_cases hk : k < S.js.length
  ·obtain ⟨t2, hat2⟩ := hjv.at hk
   have hj6 : S.js.getD k 0 < 6 := by
    rw [List.getD_eq_getElem?_getD, List.getElem?_eq_getElem hk]
    exact hB.j.2 _ (List.getElem_mem hk)
   have hix : indexAddrAV 1 (.sref (G.length + 1) 0 0 1 S.js.length (some S.js.length)) (.int .i64 (k : Int)) = some (.pref (G.length + 1) 0 k) := by rw [ia_sref, idx_nat hk]; simp
   have hia := icells_at (r := rw_ rows i) (j := S.js.getD k 0) (by omega)
   have hovw := icells_over (r := w) (j := k) (by omega) ((rw_ rows i).getD (S.js.getD k 0) 0)
   repeat' (first | (refine WO.opE (by intro; simp (disch := omega) only [go_sem, hat2, hix, hia, lk0, Nat.mul_one]; rfl) (by simp only [pt8, pt0, pt1, pt2, pt3, pt4, pt5, pt6, pt7]; rfl) ?_) | (refine WO.opN (by intro; simp (disch := omega) only [go_sem, Option.bind_eq_bind, app_s1, hovw, lk1]; rfl) ?_) | (refine WC.seq ?_) | (refine WC.region ?_) | (refine WO.nil ?_) | (simp only [fl10]) | (refine WC.skip ?_) | (refine WC.block ?_) | (refine WC.em2 rfl (fun hp => ?_) (fun hp => ?_) <;> try (exfalso; first | omega | contradiction)))
   exact ⟨m2 - 1, by omega, _, w.set k ((rw_ rows i).getD (S.js.getD k 0) 0), k + 1, by first | rfl | simp, rfl, rfl, rfl, rfl, rfl, rfl, rfl, rfl, rfl, rfl, rfl, by omega, by simpa using hwl, fun t ht => by
    by_cases e : t = k
    ·subst e; rw [getD_set_self (by omega)]; rfl
    ·rw [getD_set_ne (by omega)]; exact hw t (by omega)⟩
  ·have hke : k = S.js.length := by omega
   subst hke
   have hwe : w = vecOf rows S.js i := getD_ext (by simp [vecOf, hwl]) fun t ht => by
    rw [hw t (by omega)]
    simp [vecOf, List.getD_eq_getElem?_getD, show t < S.js.length by omega]
   have hG1 : Zz.look (G ++ [some ⟨0, icells (rw_ rows i)⟩, some ⟨0, icells w⟩]) 1 0 = some [.int .i64 (absI S.d), rv] := (look_left l1).trans k1
   have hG0 : Zz.look (G ++ [some ⟨0, icells (rw_ rows i)⟩, some ⟨0, icells w⟩]) 0 0 = some [l, iv, jv, .int .i64 S.d] := (look_left l0).trans k0
   have hrow : RowM (G ++ [some ⟨0, icells (rw_ rows i)⟩, some ⟨0, icells w⟩]) (.sref (G.length + 1) 0 0 1 S.js.length (some S.js.length)) (G.length + 1) w := RowM.of (lk1 rfl) hwl
   have hlat1 : LatM (G ++ [some ⟨0, icells (rw_ rows i)⟩, some ⟨0, icells w⟩]) rv q xs bs (addRows rows S.js (absI S.d) i) := hlat.keep (List.getElem?_append_left hqG) fun b hb => List.getElem?_append_left (hlat.blt hb)
   have hbv : G.length + 1 ∉ q :: bs := fun hm => by
    rcases List.mem_cons.1 hm with h | h
    ·omega
    ·have := hlat.blt h; omega
   have hVC : VC w S.js.length := by rw [hwe]; exact vec_VC (hv.2.1 i hin) hB.j
   have hs : addRows rows S.js (absI S.d) (i + 1) = (addI S.js.length (addRows rows S.js (absI S.d) i) w (absI S.d) S.js.length).1 := by rw [hwe]; rfl
   generalize hG2 : G ++ [some ⟨0, icells (rw_ rows i)⟩, some ⟨0, icells w⟩] = G2 at *
   have hG2l : G2.length = G.length + 2 := by rw [← hG2]; simp
   repeat' (first | (refine WO.opE (by intro; simp (disch := omega) only [go_sem, hG1]; rfl) (by simp only [pt8, pt0, pt1, pt5]; rfl) ?_) | (refine WC.seq ?_) | (refine WC.region ?_) | (refine WO.nil ?_) | (simp only [fl1, fl4]) | (refine WC.exit ?_) | (refine WC.em2 rfl (fun hp => ?_) (fun hp => ?_) <;> try (exfalso; first | omega | contradiction)))
   refine WO.call rfl rfl ((f85 (E := E16) rfl (fn_of Try.func85 cir85) rfl (by omega) hd0 hd9 hlat1 hlb (by omega) hrow hVC hbv).mono ?_)
   rintro y m' ⟨H', rfl, hlat2, _, hlen2, hkeep⟩
   simp only [pt8, pt2]
   have k0' : Zz.look H' 0 0 = some [l, iv, jv, .int .i64 S.d] := (look_of_get (hkeep 0 (by omega) (fun h => by have := hbs 0 h; omega) (by omega))).trans hG0
   have k1' : Zz.look H' 1 0 = some [.int .i64 (absI S.d), rv] := (look_of_get (hkeep 1 (by omega) (fun h => by have := hbs 1 h; omega) (by omega))).trans hG1
   repeat' (first | (refine WO.opE (by intro; simp (disch := omega) only [go_sem]; rfl) (by simp only [pt8, pt1, pt3]; rfl) ?_) | (refine WC.region ?_) | (refine WO.nil ?_) | (simp only [fl10]))
   exact ⟨m - 1, by omega, _, H', i + 1, rfl, rfl, rfl, rfl, rfl, rfl, rfl, by omega, k0', k1', by omega, by rw [hs]; exact hlat2⟩
 ·have hie : i = rows.length := by omega
  subst hie
  repeat' (first | (refine WO.opE (by intro; simp (disch := omega) only [go_sem, k1]; rfl) (by simp only [pt8, pt2, pt4]; rfl) ?_) | (refine WC.seq ?_) | (refine WC.region ?_) | (refine WO.nil ?_) | (simp only [fl1]) | (refine WC.exit ?_) | (refine WC.em2 rfl (fun hp => ?_) (fun hp => ?_) <;> try (exfalso; first | omega | contradiction)))
  refine WO.call rfl rfl ((f86 (E := E16) rfl (fn_of Try.func86 cir86) rfl (by omega) hd0 hd9 hlat hlb hqG).mono ?_)
  rintro y m' ⟨H', rfl, hlat2, hlen2, hkeep⟩
  simp only [pt8, pt5]
  have k0' : Zz.look H' 0 0 = some [l, iv, jv, .int .i64 S.d] := (look_of_get (hkeep 0 l0 (fun h => by have := hbs 0 h; omega))).trans k0
  have k1' : Zz.look H' 1 0 = some [.int .i64 (absI S.d), rv] := (look_of_get (hkeep 1 l1 (fun h => by have := hbs 1 h; omega))).trans k1
  have hX : hermX rows S = redI S.js.length (addRows rows S.js (absI S.d) rows.length) (absI S.d) S.js.length := rfl
  rw [← hX] at hlat2
  have hXB : LB (hermX rows S) S.js.length (absI S.d) := by rw [hX]; exact LB.redI hd0 hlb (Nat.le_refl _)
  have hrl := hlat2.len
  rw [hXB.len] at hrl
  generalize hermX rows S = X at *
  repeat' (first | (refine WO.opE (by intro; simp (disch := omega) only [go_sem, k1']; rfl) (by simp only [pt8, pt1, pt3, pt6, pt7]; rfl) ?_) | (refine WO.opE (by intro; exact ev_lenS (by simp only [go_sem]; first | rfl | assumption)) (by simp only [pt8, pt0]; rfl) ?_) | (refine WC.seq ?_) | (refine WC.region ?_) | (refine WO.nil ?_) | (simp only [fl1]) | (refine WC.block ?_))
  clear hlat k0 k1 hkeep hX
  have hXl := hXB.len
  have hflat0 : flatR ((X.take 0).map (outR rows S)) = [] := rfl
  refine WC.loopI (fun m s => ∃ T G ov qo i, s = ⟨T, G, []⟩ ∧ T.length = 107 ∧ gt T 4 = .pref 0 0 0 ∧ gt T 11 = ov ∧ gt T 63 = rv ∧ gt T 64 = .int .i64 (S.js.length : Nat) ∧ gt T 65 = .int .i64 (i : Nat) ∧ m + i = S.js.length ∧ Zz.look G 0 0 = some [l, iv, jv, .int .i64 S.d] ∧ H'.length ≤ G.length ∧ LatM G rv q xs bs X ∧ GS 6 G ov qo (flatR ((X.take i).map (outR rows S))) ∧ H'.length ≤ qo) ?_ S.js.length _ ⟨_, H', .snil, H'.length, 0, rfl, rfl, rfl, rfl, rfl, rfl, rfl, by omega, k0', Nat.le_refl _, hlat2, .inl ⟨rfl, hflat0⟩, Nat.le_refl _⟩
  have hqH : q < H'.length := by omega
  have hbH : ∀ b ∈ bs, b < H'.length := fun b hb => hlat2.blt hb
  have h0H := look_lt k0'
  clear hlat2 k0' k1' g4 g5 g31 g32 g33 f
  rintro m _ ⟨T, G, ov, qo, i, rfl, hT, g4, g11, g63, g64, g65, hm, k0, hGl, hlat, hgs, hqo⟩
  obtain ⟨f, rfl⟩ := ex107 hT
  clear hT
  replace g4 : f 4 = .pref 0 0 0 := g4
  replace g11 : f 11 = ov := g11
  replace g63 : f 63 = rv := g63
  replace g64 : f 64 = .int .i64 (S.js.length : Nat) := g64
  replace g65 : f 65 = .int .i64 (i : Nat) := g65
  simp only [g4, g11, g63, g64, g65]
  by_cases hin : i < S.js.length
  ·obtain ⟨gi, ai1, ai2, ai3, hRi⟩ := hlat.at (i := i) (by omega)
   have hx := hRi.len
   have hxc := hRi.cell
   unfold AV.cells at hxc
   have hil := hXB.row i hin
   rw [hil] at hx
   have hlx := look_lt ai2
   generalize hxe : xs.getD i und = x at *
   have hz6 : ([.int .i64 0, .int .i64 0, .int .i64 0, .int .i64 0, .int .i64 0, .int .i64 0] : List AV) = icells (List.replicate 6 0) := rfl
   have k0G : ∀ c : List AV, Zz.look (G ++ [some ⟨0, c⟩]) 0 0 = some [l, iv, jv, .int .i64 S.d] := fun c => (look_left (by omega)).trans k0
   repeat' (first | (refine WO.opE (by intro; simp (disch := omega) only [go_sem, ai1, ai2, ai3, hz6]; rfl) (by simp only [pt8, pt2, pt3, pt4, pt5, pt6]; rfl) ?_) | (refine WC.seq ?_) | (refine WC.region ?_) | (refine WO.nil ?_) | (simp only [fl1]) | (refine WC.skip ?_) | (refine WC.block ?_) | (refine WC.em2 rfl (fun hp => ?_) (fun hp => ?_) <;> try (exfalso; first | omega | contradiction)))
   refine WC.loopI (fun m2 s => ∃ T w j, s = ⟨T, G ++ [some ⟨0, icells w⟩], []⟩ ∧ T.length = 107 ∧ gt T 4 = .pref 0 0 0 ∧ gt T 11 = ov ∧ gt T 13 = x ∧ gt T 14 = .pref G.length 0 0 ∧ gt T 63 = rv ∧ gt T 64 = .int .i64 (S.js.length : Nat) ∧ gt T 65 = .int .i64 (i : Nat) ∧ gt T 69 = .int .i64 (j : Nat) ∧ m2 + j = 6 ∧ w.length = 6 ∧ (∀ t, t < j → w.getD t 0 = outE rows S (X.getD i []) t) ∧ ∀ t, j ≤ t → t < 6 → w.getD t 0 = 0) ?_ 6 _ ⟨_, List.replicate 6 0, 0, rfl, rfl, rfl, rfl, rfl, rfl, rfl, rfl, rfl, rfl, by omega, rfl, fun t ht => by omega, fun t _ ht => by rcases (by omega : t = 0 ∨ t = 1 ∨ t = 2 ∨ t = 3 ∨ t = 4 ∨ t = 5) with rfl | rfl | rfl | rfl | rfl | rfl <;> rfl⟩
   clear g4 g11 g63 g64 g65 f ai1 ai3
   rintro m2 _ ⟨T, w, j, rfl, hT, g4, g11, g13, g14, g63, g64, g65, g69, hm2, hwl, hw1, hw2⟩
   obtain ⟨f, rfl⟩ := ex107 hT
   clear hT
   replace g4 : f 4 = .pref 0 0 0 := g4
   replace g11 : f 11 = ov := g11
   replace g13 : f 13 = x := g13
   replace g14 : f 14 = .pref G.length 0 0 := g14
   replace g63 : f 63 = rv := g63
   replace g64 : f 64 = .int .i64 (S.js.length : Nat) := g64
   replace g65 : f 65 = .int .i64 (i : Nat) := g65
   replace g69 : f 69 = .int .i64 (j : Nat) := g69
   simp only [g4, g11, g13, g14, g63, g64, g65, g69]
   have hxB : ∀ k, k < S.js.length → 0 ≤ (X.getD i []).getD k 0 ∧ (X.getD i []).getD k 0 ≤ 1000000000 := fun k hk => by
    have := hXB.el i k hin hk
    have e : ent X i k = (X.getD i []).getD k 0 := rfl
    rw [e] at this
    omega
   by_cases hj6 : j < 6
   ·have hrB : ∀ k, k < S.js.length → -1000000000 ≤ minorF (ent rows) S.is (S.js.set k j) ∧ minorF (ent rows) S.is (S.js.set k j) ≤ 1000000000 := fun k hk => by
     have h1 := rep_bnd (rows := rows) (fun i hi => hl.six hi) hB.i hB.j hB.len hk hj6
     have h2 := prodB_vol hv hB.nd hB.i
     omega
    have hsb := sumE_bd (j := j) hxB hrB
    repeat' (first | (refine WO.opE (by intro; simp (disch := omega) only [go_sem]; rfl) (by simp only [pt8, pt0, pt2, pt6, pt7]; rfl) ?_) | (refine WO.opE (by intro; exact ev_lenS (by simp only [go_sem]; first | rfl | assumption)) (by simp only [pt8, pt1]; rfl) ?_) | (refine WC.seq ?_) | (refine WC.region ?_) | (refine WO.nil ?_) | (simp only [fl1]) | (refine WC.skip ?_) | (refine WC.block ?_) | (refine WC.em2 rfl (fun hp => ?_) (fun hp => ?_) <;> try (exfalso; first | omega | contradiction)))
    refine WC.loopI (fun m3 s => ∃ T w k, s = ⟨T, G ++ [some ⟨0, icells w⟩], []⟩ ∧ T.length = 107 ∧ gt T 4 = .pref 0 0 0 ∧ gt T 11 = ov ∧ gt T 13 = x ∧ gt T 14 = .pref G.length 0 0 ∧ gt T 15 = .int .i64 (j : Nat) ∧ gt T 63 = rv ∧ gt T 64 = .int .i64 (S.js.length : Nat) ∧ gt T 65 = .int .i64 (i : Nat) ∧ gt T 69 = .int .i64 (j : Nat) ∧ gt T 72 = x ∧ gt T 73 = .int .i64 (S.js.length : Nat) ∧ gt T 74 = .int .i64 (k : Nat) ∧ m3 + k = S.js.length ∧ w.length = 6 ∧ (∀ t, t < j → w.getD t 0 = outE rows S (X.getD i []) t) ∧ w.getD j 0 = sumE rows S (X.getD i []) j k ∧ ∀ t, j + 1 ≤ t → t < 6 → w.getD t 0 = 0) ?_ S.js.length _ ⟨_, w, 0, rfl, rfl, rfl, rfl, rfl, rfl, rfl, rfl, rfl, rfl, rfl, rfl, rfl, rfl, by omega, hwl, hw1, hw2 j (Nat.le_refl _) hj6, fun t h1 h2 => hw2 t (by omega) h2⟩
    clear g4 g11 g13 g14 g63 g64 g65 g69 f hwl hw1 hw2
    rintro m3 _ ⟨T, w, k, rfl, hT, g4, g11, g13, g14, g15, g63, g64, g65, g69, g72, g73, g74, hm3, hwl, hw1, hwj, hw2⟩
    obtain ⟨f, rfl⟩ := ex107 hT
    clear hT
    replace g4 : f 4 = .pref 0 0 0 := g4
    replace g11 : f 11 = ov := g11
    replace g13 : f 13 = x := g13
    replace g14 : f 14 = .pref G.length 0 0 := g14
    replace g15 : f 15 = .int .i64 (j : Nat) := g15
    replace g63 : f 63 = rv := g63
    replace g64 : f 64 = .int .i64 (S.js.length : Nat) := g64
    replace g65 : f 65 = .int .i64 (i : Nat) := g65
    replace g69 : f 69 = .int .i64 (j : Nat) := g69
    replace g72 : f 72 = x := g72
    replace g73 : f 73 = .int .i64 (S.js.length : Nat) := g73
    replace g74 : f 74 = .int .i64 (k : Nat) := g74
    simp only [g4, g11, g13, g14, g15, g63, g64, g65, g69, g72, g73, g74]
    have hia := icells_at (r := w) (j := j) (by omega)
    rw [hwj] at hia
    have hovw := fun y => icells_over (r := w) (j := j) (by omega) y
    by_cases hk : k < S.js.length
    ·obtain ⟨g1', o1, c1, b1, b2, b3, _⟩ := hRi.at (i := k) (by omega)
     have hlb2 := look_lt b2
     have hxk := hxB k hk
     have hrk := hrB k hk
     have hmul := mul_bd hrk hxk
     rw [Int.mul_comm] at hmul
     have hsk := hsb k (by omega)
     have hsk1 := hsb (k + 1) (by omega)
     have hse : sumE rows S (X.getD i []) j (k + 1) = sumE rows S (X.getD i []) j k + (X.getD i []).getD k 0 * minorF (ent rows) S.is (S.js.set k j) := rfl
     have c36 := fun m => s87 (m := m) (d := S.d) (k := k) (j := j) hl hv hiv hjv hB.i hB.nd hB.j (by omega) hn6 hk hj6
     by_cases hx0 : (X.getD i []).getD k 0 = 0
     ·rw [hx0] at b3
      rw [hx0, Int.zero_mul, Int.add_zero] at hse
      repeat' (first | (refine WO.opE (by intro; simp (disch := omega) only [go_sem, b1, b2, b3, look_left]; rfl) (by simp only [pt8, pt0, pt1, pt2, pt3, pt4, pt5, pt6, pt7]; rfl) ?_) | (refine WC.seq ?_) | (refine WC.region ?_) | (refine WO.nil ?_) | (simp only [fl1, fl10]) | (refine WC.no rfl ?_) | (refine WC.skip ?_) | (refine WC.block ?_) | (refine WC.em2 rfl (fun hp => ?_) (fun hp => ?_) <;> try (exfalso; first | omega | contradiction)))
      exact ⟨m3 - 1, by omega, _, w, k + 1, rfl, rfl, rfl, rfl, rfl, rfl, rfl, rfl, rfl, rfl, rfl, rfl, rfl, rfl, by omega, hwl, hw1, by rw [hse]; exact hwj, hw2⟩
     ·have hx01 := hx0
      repeat' (first | (refine WO.opE (by intro; simp (disch := omega) only [go_sem, b1, b2, b3, look_left]; rfl) (by simp only [pt8, pt0, pt1, pt2, pt3, pt4, pt5, pt6, pt7]; rfl) ?_) | (refine WT.spec rfl rfl (fun V => c36 _) (by simp only [pt8, pt0]; rfl) ?_) | (refine WC.seq ?_) | (refine WC.region ?_) | (refine WO.nil ?_) | (simp only [fl1, fl4, fl10]) | (refine WC.drawT ?_) | (refine WT.nil ?_) | (refine WT.free rfl (by intro; simp (disch := omega) only [go_sem, k0G, hia, lk0, cut4z, Nat.mul_one]; rfl) rfl (by simp only [pt8, pt1, pt2, pt3, pt4, pt5, pt6, pt7]; rfl) ?_) | (refine WT.big rfl rfl (by intro; simp (disch := omega) only [go_sem, k0G, hia, lk0, cut4z]; rfl) (by simp (disch := omega) only [go_sem, touch]; rfl) (by first | exact .inl rfl | exact .inr (apart_nil _) | exact .inr trivial | (right; apply apart_mk; simp only [apartL, zNA, zCA, List.getElem?_cons_succ, List.getElem?_cons_zero, Tch.free, and_true, true_and]; first | done | omega)) (by simp only [pt8, pt3, pt5]; rfl) ?_) | (refine WT.bigN rfl rfl (by intro; simp (disch := omega) only [go_sem, Option.bind_eq_bind, app_s0, hovw, lk0]; rfl) (by simp (disch := omega) only [go_sem, touch]; rfl) (by first | exact .inl rfl | exact .inr (apart_nil _) | exact .inr trivial | (right; apply apart_mk; simp only [apartL, zNA, zCA, List.getElem?_cons_succ, List.getElem?_cons_zero, Tch.free, and_true, true_and]; first | done | omega)) ?_) | (refine WC.skip ?_) | (refine WC.block ?_) | (refine WC.em2 rfl (fun hp => ?_) (fun hp => ?_) <;> try (exfalso; first | omega | contradiction)))
      exact ⟨m3 - 1, by omega, _, w.set j (sumE rows S (X.getD i []) j k + (X.getD i []).getD k 0 * minorF (ent rows) S.is (S.js.set k j)), k + 1, rfl, rfl, rfl, rfl, rfl, rfl, rfl, rfl, rfl, rfl, rfl, rfl, rfl, rfl, by omega, by simpa using hwl, fun t ht => by rw [getD_set_ne (by omega)]; exact hw1 t ht, by rw [getD_set_self (by omega), hse], fun t h1 h2 => by rw [getD_set_ne (by omega)]; exact hw2 t h1 h2⟩
    ·have hke : k = S.js.length := by omega
     subst hke
     have hd0' : ¬ S.d = 0 := hB.ne
     have hsk := hsb S.js.length (Nat.le_refl _)
     have hout : (sumE rows S (X.getD i []) j S.js.length).tdiv S.d = outE rows S (X.getD i []) j := rfl
     have htb := tdiv_bd (a := sumE rows S (X.getD i []) j S.js.length) (M := 9000000000000000000) hd0' (by omega)
     rw [hout] at htb
     repeat' (first | (refine WO.opE (by intro; simp (disch := omega) only [go_sem, k0G, hia, lk0, hd0', if_false, hout, Nat.mul_one]; rfl) (by simp only [pt8, pt0, pt1, pt2, pt3, pt4, pt5, pt6, pt7]; rfl) ?_) | (refine WO.opN (by intro; simp (disch := omega) only [go_sem, Option.bind_eq_bind, app_s0, hovw, lk0]; rfl) ?_) | (refine WC.seq ?_) | (refine WC.region ?_) | (refine WO.nil ?_) | (simp only [fl1, fl3, fl6, fl9, fl10]) | (refine WC.calm rfl ?_) | (refine WC.exit ?_) | (refine WC.em2 rfl (fun hp => ?_) (fun hp => ?_) <;> try (exfalso; first | omega | contradiction)))
     exact ⟨m2 - 1, by omega, _, w.set j (outE rows S (X.getD i []) j), j + 1, rfl, rfl, rfl, rfl, rfl, rfl, rfl, rfl, rfl, rfl, by omega, by simpa using hwl, fun t ht => by
      by_cases e : t = j
      ·subst e; rw [getD_set_self (by omega)]
      ·rw [getD_set_ne (by omega)]; exact hw1 t (by omega), fun t h1 h2 => by rw [getD_set_ne (by omega)]; exact hw2 t h1 h2⟩
   ·have hje : j = 6 := by omega
    subst hje
    have hwe : w = outR rows S (X.getD i []) := getD_ext (by simp [outR, hwl]) fun t ht => by
     rw [hw1 t (by omega)]
     simp [outR, List.getD_eq_getElem?_getD, show t < 6 by omega]
    have h6s : ∀ r ∈ (X.take i).map (outR rows S), r.length = 6 := fun r hr => by
     obtain ⟨x, _, rfl⟩ := List.mem_map.1 hr
     simp [outR]
    have hnext : (X.take i).map (outR rows S) ++ [w] = (X.take (i + 1)).map (outR rows S) := by
     rw [hwe, List.take_add_one, List.map_append, List.getElem?_eq_getElem (by omega), List.getD_eq_getElem?_getD, List.getElem?_eq_getElem (by omega)]
     rfl
    have hmlw : (icells w).length = 6 := by rw [icells_len, hwl]
    have hcutw := icells_cut hwl
    have hovw := fun x0 x1 x2 x3 x4 x5 => icells_over6 hwl (x0 := x0) (x1 := x1) (x2 := x2) (x3 := x3) (x4 := x4) (x5 := x5)
    obtain ⟨ov', q', H2, a1, a2, a3, a4, a5⟩ := rowPush (L := []) hgs h6s hwl (by simp; omega) [some ⟨0, icells w⟩, some ⟨0, icells w⟩] (lk1 rfl)
    rw [hnext] at a2
    have hk5 : ∀ j, j < G.length → j ≠ qo → H2[j]? = G[j]? := fun j h1 h2 => by rw [a5 j (by omega) h2, List.getElem?_append_left h1]
    simp only [List.length_cons, List.length_nil, Nat.zero_add, Nat.reduceAdd] at a3 a4
    repeat' (first | (refine WO.opE (by intro; simp (disch := omega) only [go_sem, fillP, Option.bind_eq_bind, List.append_assoc, zeros, List.length_append, hcutw, hovw, hmlw, lk0]; rfl) (by simp only [pt8, pt1, pt3, pt5, pt6, pt7]; rfl) ?_) | (refine WO.opE (by intro; rw [ev_append]; exact a1) (by simp only [pt8, pt0]; rfl) ?_) | (refine WC.seq ?_) | (refine WC.region ?_) | (refine WO.nil ?_) | (simp only [fl10]) | (refine WC.no rfl ?_) | (refine WC.exit ?_))
    exact ⟨m - 1, by omega, _, H2, ov', q', i + 1, rfl, rfl, rfl, rfl, rfl, rfl, rfl, by omega, (look_of_get (hk5 0 (by omega) (by omega))).trans k0, by omega, hlat.keep (hk5 q (by omega) (by omega)) fun b hb => hk5 b (by have := hbH b hb; omega) (by have := hbH b hb; omega), a2, by omega⟩
  ·have hie : i = S.js.length := by omega
   subst hie
   rw [List.take_of_length_le (by omega), ← hherm] at hgs
   repeat' (first | (refine WO.opE (by intro; simp (disch := omega) only [go_sem]; rfl) (by simp only [pt8, pt2, pt3]; rfl) ?_) | (refine WC.seq ?_) | (refine WC.region ?_) | (refine WO.nil ?_) | (simp only [fl1]) | (refine WC.exit ?_) | (refine WC.ret ?_) | (refine WC.em2 rfl (fun hp => ?_) (fun hp => ?_) <;> try (exfalso; first | omega | contradiction)))
   exact ⟨_, rfl, ov, qo, rfl, hgs⟩
set_option maxRecDepth 100000
set_option maxHeartbeats 8000000
theorem GS.resA {sz : Nat} {H : Hp} {v : AV} {q : Nat} {c : List AV} (h : GS sz H v q c) : Zz.resA H v = Zz.resC H v := by
 rcases h with ⟨rfl, _⟩ | ⟨g, rfl, _⟩ | ⟨g, n, rfl, _⟩ <;> rfl
theorem resV_two {H : Hp} {v x : AV} {c : Int} (h : Zz.resA H v = some x) : resV H (.tuple [v, .int .i64 c]) = some (.tuple [x, .int .i64 c]) := by
 simp only [resV, resT, h]
 rfl
theorem mapR_six {rows X : List (List Int)} {S : Fr} : ∀ r ∈ X.map (outR rows S), r.length = 6 := fun r hr => by
 obtain ⟨x, _, rfl⟩ := List.mem_map.1 hr
 simp [outR]
noncomputable def E17 : Env := E16.put 27 (borrowE E16 27)
theorem E17_ok : EnvOk Try.prog E17 := Env.put_ok E16_ok (borrowE_ok E16_ok (callable Try.func27 (by kernel_rfl)))
theorem absI_max (x : Int) : max x (-x) = absI x := by unfold absI; split <;> omega
def vecM (rows : List (List Int)) (js : List Nat) (d : Int) (i : Nat) : List Int := js.map fun j => ent rows i j % d
def insRows (rows : List (List Int)) (js : List Nat) (d : Int) : Nat → List (List Int)
 | 0 => multF js.length js.length d
 | i + 1 => (insI js.length (insRows rows js d i) (vecM rows js d i) d js.length).1
def hermXR (rows : List (List Int)) (s : Fr) : List (List Int) := redI s.js.length (insRows rows s.js (absI s.d) rows.length) (absI s.d) s.js.length
def hermFR (rows : List (List Int)) : List (List Int) := (hermXR rows (fwdF rows)).map (outR rows (fwdF rows))
def hermRR (rows : List (List Int)) : List (List Int) := if VM rows then hermFR rows else []
theorem vecM_VB {rows : List (List Int)} {js : List Nat} {d : Int} {i : Nat} (hd : 0 < d) : VB (vecM rows js d i) js.length d := by
 refine ⟨by simp [vecM], fun j hjl => ?_⟩
 have e : (vecM rows js d i).getD j 0 = ent rows i (js.getD j 0) % d := by simp [vecM, List.getD_eq_getElem?_getD, hjl]
 rw [e]
 exact emod_in hd
theorem insRows_LB {rows : List (List Int)} {js : List Nat} {d : Int} (hd : 0 < d) : ∀ {i : Nat}, LB (insRows rows js d i) js.length d
 | 0 => LB.mult hd
 | i + 1 => (LB.insI hd (insRows_LB hd (i := i)) (vecM_VB hd) (Nat.le_refl _)).1
theorem f92_nil {E : Env} (hE : E.spec 92 = none) (hF : E.fn 92 = some ir92) {d : Int} {H : Hp} {L : List (Option ALoop)} {rv vv : AV} (hrl : slen rv = some 0) : WF E (.func 92 [] []) [rv, vv, .int .i64 d] ⟨H, L⟩ fun y m' => m' = ⟨H, L⟩ := by
 refine WF.fnE hE hF (by show 3 ≤ 118; decide) ?_
 unfold ir92
 simp only [padTo, List.replicate, zNA, zAN]
 repeat' (first | (refine WO.opE (by intro; simp (disch := omega) only [go_sem]; rfl) (by simp only [pt6]; rfl) ?_) | (refine WC.seq ?_) | (refine WC.region ?_) | (refine WO.nil ?_) | (simp only [fl1]) | (refine WC.block ?_))
 refine WC.loopI (fun m s => ∃ T, s = ⟨T, H, L⟩ ∧ T.length = 118 ∧ gt T 0 = rv ∧ gt T 6 = .int .i64 0) ?_ 0 _ ⟨_, rfl, rfl, rfl, rfl⟩
 rintro m _ ⟨T, rfl, hT, g0, g6⟩
 obtain ⟨f, rfl⟩ := ex118 hT
 clear hT
 replace g0 : f 0 = rv := g0
 replace g6 : f 6 = .int .i64 0 := g6
 simp only [g0, g6]
 repeat' (first | (refine WO.opE (by intro; simp (disch := omega) only [go_sem]; rfl) (by simp only [pt8, pt0, pt5, pt6]; rfl) ?_) | (refine WO.opE (by intro; exact ev_lenS (by simp only [go_sem]; first | rfl | assumption)) (by simp only [pt8, pt7]; rfl) ?_) | (refine WC.seq ?_) | (refine WC.region ?_) | (refine WO.nil ?_) | (simp only [fl1, fl3, fl6, fl9]) | (refine WC.no rfl ?_) | (refine WC.exit ?_))
 exact ⟨_, rfl, rfl⟩
theorem icells_app (a : List Int) (x : Int) : icells (a ++ [x]) = icells a ++ [.int .i64 x] := by simp [icells]
theorem intPush {G : Hp} {L : List (Option ALoop)} {v : AV} {q : Nat} {w : List Int} (h : GS 1 G v q (icells w)) (hl : w.length < 1000000) (x : Int) (X : Hp) {id : Nat} (hid : Zz.look (G ++ X) id 0 = some [.int .i64 x]) :
  ∃ v' q' H', appendAV 1 8 ⟨G ++ X, L⟩ v (.sref id 0 0 1 1 (some 1)) = some (v', ⟨H', L⟩) ∧ GS 1 H' v' q' (icells (w ++ [x])) ∧ (q' = q ∨ q' = G.length + X.length) ∧ G.length + X.length ≤ H'.length ∧ ∀ j, j < G.length + X.length → j ≠ q → H'[j]? = (G ++ X)[j]? := by
 obtain ⟨v', q', H', a1, a2, a3, a4, a5⟩ := (h.more X).append (L := L) (bytes := 8) (n := 1) (cap := some 1) hid rfl Nat.one_pos (by decide) ⟨by rw [icells_len]; omega, by rw [icells_len]; omega⟩
 rw [List.length_append] at a3 a4 a5
 exact ⟨v', q', H', a1, by rw [icells_app]; exact a2, a3, a4, a5⟩
theorem RowM.of_gs {H : Hp} {v : AV} {q : Nat} {w : List Int} (h : GS 1 H v q (icells w)) (hw : 0 < w.length) : RowM H v q w := by
 have hl := icells_len w
 rcases h with ⟨rfl, h⟩ | ⟨g, rfl, h, _⟩ | ⟨g, n, rfl, h1, h2, h3⟩
 ·rw [h] at hl; simp at hl; omega
 ·rw [h] at hl; simp at hl; omega
 ·have hn : n = w.length := by omega
  subst hn
  exact ⟨g, 0, none, _, rfl, h3, by omega, by rw [List.drop_zero, List.take_of_length_le (by omega)], .inl rfl⟩
theorem f28 {l : AV} {rows : List (List Int)} (hl : RwL l rows) (hv : VM rows) : WF E17 (.func 28 [] []) [l] ⟨[], []⟩ fun y m' => ∃ v q, y = .tuple [v, .int .i64 0] ∧ GS 6 m'.heap v q (flatR (hermFR rows)) := by
 have hr8 := hv.1
 have hlen := hl.len
 have c12 := fun m => s26 (m := m) hl (by omega)
 rw [decide_eq_true hv] at c12
 obtain ⟨iv, jv, hiv, hjv, c37⟩ := s88 (l' := l) (ov' := .sref 0 0 0 1 6 (some 6)) (ov := .sval true 6 [.int .i64 0, .int .i64 1, .int .i64 2, .int .i64 3, .int .i64 4, .int .i64 5]) hl hv (.inr ⟨true, rfl⟩) okJ_fwd (by decide)
 obtain ⟨hok, _⟩ := s82 (ov := .sval true 6 [.int .i64 0, .int .i64 1, .int .i64 2, .int .i64 3, .int .i64 4, .int .i64 5]) hl hv (.inr ⟨true, rfl⟩) okJ_fwd (by decide)
 have c37' := c37 ⟨[some ⟨0, [.int .i64 0, .int .i64 1, .int .i64 2, .int .i64 3, .int .i64 4, .int .i64 5]⟩], []⟩ (hl.byVal _) rfl
 have hF : frame rows [0, 1, 2, 3, 4, 5] ([0, 1, 2, 3, 4, 5] : List Nat).length = fwdF rows := rfl
 rw [hF] at hok hiv hjv
 have hB := hok.toB hv (fun i hi => hl.six hi) okJ_fwd (by decide)
 clear hok hF c37
 have hherm : hermFR rows = (hermXR rows (fwdF rows)).map (outR rows (fwdF rows)) := rfl
 generalize fwdF rows = S at *
 obtain ⟨hd0, hd9⟩ := hB.abs
 have hn6 := hB.six
 have hil6 := hB.len
 have hjl := hjv.len
 have hil := hiv.len
 rw [hil6] at hil
 have c38 := fun m => s89 (m := m) (c := 1) hl hiv hjv hB.i (by decide) (hB.j.toW fun i hi => hl.six hi) (fun s hs => by
  have h1 := prodB_vol hv (is := s) (hB.nd.sublist hs.sublist) fun x hx => hB.i x (hs.subset hx)
  omega) hv.2.1 (by omega) (by omega) (by omega) (hl.byVal _) (hiv.byV _) (hjv.byV _)
 rw [← hB.d] at c38
 have hbd := hB.bd
 have hmx := absI_max S.d
 have hlc := hl.cells
 have hic := hiv.cells
 have hjc := hjv.cells
 unfold AV.cells at hlc hic hjc
 refine WF.fnE rfl (fn_of Try.func28 cir28) (by show 1 ≤ 118; decide) ?_
 unfold ir28
 simp only [padTo, List.replicate, zNA, zAN]
 repeat' (first | (refine WO.opE (by intro; simp (disch := omega) only [go_sem, Zz.look, fillP, Option.bind_eq_bind, zeros, ov_one0, ov_one1, ov_one2, ov_one3, hmx, Int.zero_sub]; rfl) (by simp only [pt8, pt0, pt1, pt2, pt3, pt4, pt5, pt6, pt7]; rfl) ?_) | (refine WO.opN (by intro; simp (disch := omega) only [go_sem, Zz.look, Option.bind_eq_bind, ov_all2, Nat.reduceAdd]; rfl) ?_) | (refine WO.opE (by intro; exact ev_lenS (by simp only [go_sem]; first | rfl | assumption)) (by simp only [pt8, pt4]; rfl) ?_) | (refine WO.specE rfl rfl (c12 _) (by simp only [pt8, pt1, pt4]; rfl) ?_) | (refine WO.specE rfl rfl (c37') (by simp only [pt8, pt1]; rfl) ?_) | (refine WO.specE rfl rfl (c38 _) (by simp only [pt8, pt1, pt2]; rfl) ?_) | (refine WC.seq ?_) | (refine WC.region ?_) | (refine WO.nil ?_) | (simp only [fl1]) | (refine WC.no rfl ?_) | (refine WC.skip ?_))
 refine WO.call rfl rfl ((f90 (E := E17) rfl (fn_of Try.func90 cir90) (n := S.js.length) (d := absI S.d) (by omega)).mono ?_)
 rintro rv m' ⟨_, q, xs, bs, G0, rfl, rfl, hlat, hext, hbs, _⟩
 have k00 : Zz.look G0 1 0 = some [iv, jv] := hext.look rfl
 obtain ⟨q, hlat, _, hqG⟩ := hlat.fit (a := 0) (by omega) (by have := look_lt k00; omega)
 simp only [pt8, pt1]
 repeat' (first | (refine WO.opE (by intro; simp (disch := omega) only [go_sem]; rfl) (by simp only [pt8, pt1, pt2]; rfl) ?_) | (refine WC.seq ?_) | (refine WC.region ?_) | (refine WO.nil ?_) | (simp only [fl1]) | (refine WC.block ?_))
 refine WC.loopI (fun m s => ∃ T G i, s = ⟨T, G, []⟩ ∧ T.length = 118 ∧ gt T 0 = l ∧ gt T 5 = .pref 1 0 0 ∧ gt T 6 = .int .i64 (S.js.length : Nat) ∧ gt T 7 = .int .i64 S.d ∧ gt T 8 = .int .i64 (absI S.d) ∧ gt T 9 = rv ∧ gt T 10 = .int .i64 (i : Nat) ∧ m + i = rows.length ∧ Zz.look G 1 0 = some [iv, jv] ∧ q < G.length ∧ LatM G rv q xs bs (insRows rows S.js (absI S.d) i)) ?_ rows.length _ ⟨_, G0, 0, rfl, rfl, rfl, rfl, rfl, rfl, rfl, rfl, rfl, by omega, k00, hqG, hlat⟩
 clear hlat k00 hqG hext
 rintro m _ ⟨T, G, i, rfl, hT, g0, g5, g6, g7, g8, g9, g10, hm, k1, hqG, hlat⟩
 obtain ⟨f, rfl⟩ := ex118 hT
 clear hT
 replace g0 : f 0 = l := g0
 replace g5 : f 5 = .pref 1 0 0 := g5
 replace g6 : f 6 = .int .i64 (S.js.length : Nat) := g6
 replace g7 : f 7 = .int .i64 S.d := g7
 replace g8 : f 8 = .int .i64 (absI S.d) := g8
 replace g9 : f 9 = rv := g9
 replace g10 : f 10 = .int .i64 (i : Nat) := g10
 simp only [g0, g5, g6, g7, g8, g9, g10]
 have hlb := insRows_LB (rows := rows) (js := S.js) hd0 (i := i)
 have l1 := look_lt k1
 have hrl := hlat.len
 rw [hlb.len] at hrl
 by_cases hin : i < rows.length
 ·have h6 := hl.six hin
  have hat := hl.at hin
  repeat' (first | (refine WO.opE (by intro; simp (disch := omega) only [go_sem]; rfl) (by simp only [pt8, pt2, pt3, pt4, pt5]; rfl) ?_) | (refine WO.opE (by intro; exact ev_lenS (by simp only [go_sem]; first | rfl | assumption)) (by simp only [pt8, pt4]; rfl) ?_) | (refine WC.seq ?_) | (refine WC.region ?_) | (refine WO.nil ?_) | (simp only [fl1]) | (refine WC.skip ?_) | (refine WC.block ?_) | (refine WC.em2 rfl (fun hp => ?_) (fun hp => ?_) <;> try (exfalso; first | omega | contradiction)))
  refine WC.loopI (fun m2 s => ∃ T G2 vv qv w k, s = ⟨T, G2, []⟩ ∧ T.length = 118 ∧ gt T 0 = l ∧ gt T 5 = .pref 1 0 0 ∧ gt T 6 = .int .i64 (S.js.length : Nat) ∧ gt T 7 = .int .i64 S.d ∧ gt T 8 = .int .i64 (absI S.d) ∧ gt T 9 = rv ∧ gt T 10 = .int .i64 (i : Nat) ∧ gt T 11 = vv ∧ gt T 12 = .int .i64 (k : Nat) ∧ m2 + k = S.js.length ∧ G.length ≤ G2.length ∧ GS 1 G2 vv qv (icells w) ∧ G.length ≤ qv ∧ (∀ b, b < G.length → G2[b]? = G[b]?) ∧ w.length = k ∧ ∀ t, t < k → w.getD t 0 = ent rows i (S.js.getD t 0) % absI S.d) ?_ S.js.length _ ⟨_, G, .snil, G.length, [], 0, rfl, rfl, rfl, rfl, rfl, rfl, rfl, rfl, rfl, rfl, rfl, by omega, Nat.le_refl _, .inl ⟨rfl, rfl⟩, Nat.le_refl _, fun b _ => rfl, rfl, fun t ht => by omega⟩
  clear g0 g5 g6 g7 g8 g9 g10 f
  rintro m2 _ ⟨T, G2, vv, qv, w, k, rfl, hT, g0, g5, g6, g7, g8, g9, g10, g11, g12, hm2, hG2, hgs, hqv, hk2, hwl, hw⟩
  obtain ⟨f, rfl⟩ := ex118 hT
  clear hT
  replace g0 : f 0 = l := g0
  replace g5 : f 5 = .pref 1 0 0 := g5
  replace g6 : f 6 = .int .i64 (S.js.length : Nat) := g6
  replace g7 : f 7 = .int .i64 S.d := g7
  replace g8 : f 8 = .int .i64 (absI S.d) := g8
  replace g9 : f 9 = rv := g9
  replace g10 : f 10 = .int .i64 (i : Nat) := g10
  replace g11 : f 11 = vv := g11
  replace g12 : f 12 = .int .i64 (k : Nat) := g12
  simp only [g0, g5, g6, g7, g8, g9, g10, g11, g12]
  have k1' : Zz.look G2 1 0 = some [iv, jv] := (look_of_get (hk2 1 l1)).trans k1
  by_cases hk : k < S.js.length
  ·obtain ⟨t2, hat2⟩ := hjv.at hk
   have hj6 : S.js.getD k 0 < 6 := by
    rw [List.getD_eq_getElem?_getD, List.getElem?_eq_getElem hk]
    exact hB.j.2 _ (List.getElem_mem hk)
   have hdr := dr_row (r := rw_ rows i) (t := tailr rows i) (j := S.js.getD k 0) (by omega)
   have hent : (rw_ rows i).getD (S.js.getD k 0) 0 = ent rows i (S.js.getD k 0) := rfl
   rw [hent] at hdr
   have heb := hv.2.1 i hin (S.js.getD k 0) hj6
   rw [hent] at heb
   have c40 := fun m => s91 (m := m) (d := absI S.d) (x := ent rows i (S.js.getD k 0)) hd0 (by omega) ⟨by omega, by omega⟩
   obtain ⟨v', q', H2, a1, a2, a3, a4, a5⟩ := intPush (L := []) hgs (by omega) (ent rows i (S.js.getD k 0) % absI S.d) [some ⟨0, [.int .i64 (ent rows i (S.js.getD k 0) % absI S.d)]⟩] (lk0 rfl)
   simp only [List.length_cons, List.length_nil, Nat.zero_add] at a3 a4 a5
   repeat' (first | (refine WO.opE (by intro; simp (disch := omega) only [go_sem]; rfl) (by simp only [pt8, pt0, pt1, pt2]; rfl) ?_) | (refine WT.spec rfl rfl (fun V => c40 _) (by simp only [pt8, pt1]; rfl) ?_) | (refine WC.seq ?_) | (refine WC.region ?_) | (refine WO.nil ?_) | (simp only [fl1, fl4]) | (refine WC.drawT ?_) | (refine WT.free rfl (by intro; simp (disch := omega) only [go_sem, fillP, Option.bind_eq_bind, zeros, ov_one0, hat2, hat, hdr, k1', Nat.mul_one]; rfl) rfl (by simp only [pt8, pt0, pt1, pt2, pt3, pt4, pt5, pt6, pt7]; rfl) ?_) | (refine WT.big rfl rfl (by intro; simp (disch := omega) only [go_sem, fillP, Option.bind_eq_bind, zeros, ov_one0, hdr, k1']; rfl) (by simp (disch := omega) only [go_sem, touch]; rfl) (by first | exact .inl rfl | exact .inr (apart_nil _) | exact .inr trivial | (right; apply apart_mk; simp only [apartL, zNA, zCA, List.getElem?_cons_succ, List.getElem?_cons_zero, Tch.free, and_true, true_and]; first | done | omega)) (by simp only [pt8, pt1, pt2, pt4, pt7]; rfl) ?_) | (refine WC.skip ?_) | (refine WC.block ?_) | (refine WC.em2 rfl (fun hp => ?_) (fun hp => ?_) <;> try (exfalso; first | omega | contradiction)))
   refine WT.append (sv := vv) (xv := .sref G2.length 0 0 1 1 (some 1)) rfl rfl a1 (apart_nil _) (apart_nil _) (by simp only [pt8, pt3]; rfl) ?_
   repeat' (first | (refine WO.opE (by intro; simp (disch := omega) only [go_sem]; rfl) (by simp only [pt8, pt3, pt4]; rfl) ?_) | (refine WC.region ?_) | (refine WO.nil ?_) | (simp only [fl10]) | (refine WT.nil ?_) | (refine WT.free rfl (by intro; simp (disch := omega) only [go_sem]; rfl) rfl (by simp only [pt8, pt3]; rfl) ?_))
   exact ⟨m2 - 1, by omega, _, H2, v', q', w ++ [ent rows i (S.js.getD k 0) % absI S.d], k + 1, rfl, rfl, rfl, rfl, rfl, rfl, rfl, rfl, rfl, rfl, rfl, by omega, by omega, a2, by omega, fun b hb => by rw [a5 b (by omega) (by omega), List.getElem?_append_left (by omega), hk2 b hb], by simp [hwl], fun t ht => by
    by_cases e : t = k
    ·subst e
     rw [List.getD_eq_getElem?_getD, List.getElem?_append_right (by omega), hwl, Nat.sub_self]
     rfl
    ·rw [List.getD_eq_getElem?_getD, List.getElem?_append_left (by omega), ← List.getD_eq_getElem?_getD]
     exact hw t (by omega)⟩
  ·have hke : k = S.js.length := by omega
   subst hke
   have hwe : w = vecM rows S.js (absI S.d) i := getD_ext (by simp [vecM, hwl]) fun t ht => by
    rw [hw t (by omega)]
    simp [vecM, List.getD_eq_getElem?_getD, show t < S.js.length by omega]
   have hlat1 : LatM G2 rv q xs bs (insRows rows S.js (absI S.d) i) := hlat.keep (hk2 q hqG) fun b hb => hk2 b (hlat.blt hb)
   have hs : insRows rows S.js (absI S.d) (i + 1) = (insI S.js.length (insRows rows S.js (absI S.d) i) w (absI S.d) S.js.length).1 := by rw [hwe]; rfl
   repeat' (first | (refine WO.opE (by intro; simp (disch := omega) only [go_sem]; rfl) (by simp only [pt8, pt0, pt1, pt2, pt4, pt5, pt6]; rfl) ?_) | (refine WC.seq ?_) | (refine WC.region ?_) | (refine WO.nil ?_) | (simp only [fl1, fl4]) | (refine WC.exit ?_) | (refine WC.em2 rfl (fun hp => ?_) (fun hp => ?_) <;> try (exfalso; first | omega | contradiction)))
   by_cases hn0 : S.js.length = 0
   ·rw [hn0] at hrl
    refine WO.call rfl rfl ((f92_nil (E := E17) rfl (fn_of Try.func92 cir92) hrl).mono ?_)
    rintro y m' rfl
    simp only [pt8, pt7]
    repeat' (first | (refine WO.opE (by intro; simp (disch := omega) only [go_sem]; rfl) (by simp only [pt8, pt2, pt6, pt7]; rfl) ?_) | (refine WC.region ?_) | (refine WO.nil ?_) | (simp only [fl10]))
    exact ⟨m - 1, by omega, _, G2, i + 1, rfl, rfl, rfl, rfl, rfl, rfl, rfl, rfl, rfl, by omega, k1', by omega, by rw [hs, hn0]; exact hlat1⟩
   ·have hrow : RowM G2 vv qv w := RowM.of_gs hgs (by omega)
    have hbv : qv ∉ q :: bs := fun hm => by
     rcases List.mem_cons.1 hm with h | h
     ·omega
     ·have := hlat.blt h; omega
    have hVB : VB w S.js.length (absI S.d) := by rw [hwe]; exact vecM_VB hd0
    refine WO.call rfl rfl ((f92 (E := E17) rfl (fn_of Try.func92 cir92) rfl rfl (by omega) hd0 hd9 hlat1 hlb (by omega) hrow hVB hbv).mono ?_)
    rintro y m' ⟨H', rfl, hlat2, _, hlen2, hkeep⟩
    simp only [pt8, pt7]
    have k1'' : Zz.look H' 1 0 = some [iv, jv] := (look_of_get (hkeep 1 (by omega) (fun h => by have := hbs 1 h; simp at this) (by omega))).trans k1'
    repeat' (first | (refine WO.opE (by intro; simp (disch := omega) only [go_sem]; rfl) (by simp only [pt8, pt2, pt6, pt7]; rfl) ?_) | (refine WC.region ?_) | (refine WO.nil ?_) | (simp only [fl10]))
    exact ⟨m - 1, by omega, _, H', i + 1, rfl, rfl, rfl, rfl, rfl, rfl, rfl, rfl, rfl, by omega, k1'', by omega, by rw [hs]; exact hlat2⟩
 ·have hie : i = rows.length := by omega
  subst hie
  repeat' (first | (refine WO.opE (by intro; simp (disch := omega) only [go_sem]; rfl) (by simp only [pt8, pt0, pt1, pt2, pt3, pt5]; rfl) ?_) | (refine WO.opE (by intro; exact ev_lenS (by simp only [go_sem]; first | rfl | assumption)) (by simp only [pt8, pt4]; rfl) ?_) | (refine WC.seq ?_) | (refine WC.region ?_) | (refine WO.nil ?_) | (simp only [fl1]) | (refine WC.exit ?_) | (refine WC.em2 rfl (fun hp => ?_) (fun hp => ?_) <;> try (exfalso; first | omega | contradiction)))
  refine WO.call rfl rfl ((f93 (E := E17) rfl (fn_of Try.func93 cir93) rfl (by omega) hd0 hd9 hlat hlb hqG).mono ?_)
  rintro y m' ⟨H', rfl, hlat2, hlen2, hkeep⟩
  simp only [pt8, pt2]
  have k1' : Zz.look H' 1 0 = some [iv, jv] := (look_of_get (hkeep 1 l1 (fun h => by have := hbs 1 h; simp at this))).trans k1
  have hX : hermXR rows S = redI S.js.length (insRows rows S.js (absI S.d) rows.length) (absI S.d) S.js.length := rfl
  rw [← hX] at hlat2
  have hXB : LB (hermXR rows S) S.js.length (absI S.d) := by rw [hX]; exact LB.redI hd0 hlb (Nat.le_refl _)
  generalize hermXR rows S = X at *
  repeat' (first | (refine WO.opE (by intro; simp (disch := omega) only [go_sem]; rfl) (by simp only [pt8, pt5, pt6]; rfl) ?_) | (refine WC.seq ?_) | (refine WC.region ?_) | (refine WO.nil ?_) | (simp only [fl1]) | (refine WC.block ?_))
  clear hlat k1 hkeep hX
  have hXl := hXB.len
  have hflat0 : flatR ((X.take 0).map (outR rows S)) = [] := rfl
  refine WC.loopI (fun m s => ∃ T G ov qo i, s = ⟨T, G, []⟩ ∧ T.length = 118 ∧ gt T 0 = l ∧ gt T 5 = .pref 1 0 0 ∧ gt T 6 = .int .i64 (S.js.length : Nat) ∧ gt T 7 = .int .i64 S.d ∧ gt T 9 = rv ∧ gt T 13 = ov ∧ gt T 14 = .int .i64 (i : Nat) ∧ m + i = S.js.length ∧ Zz.look G 1 0 = some [iv, jv] ∧ H'.length ≤ G.length ∧ LatM G rv q xs bs X ∧ GS 6 G ov qo (flatR ((X.take i).map (outR rows S))) ∧ H'.length ≤ qo) ?_ S.js.length _ ⟨_, H', .snil, H'.length, 0, rfl, rfl, rfl, rfl, rfl, rfl, rfl, rfl, rfl, by omega, k1', Nat.le_refl _, hlat2, .inl ⟨rfl, hflat0⟩, Nat.le_refl _⟩
  have hqH : q < H'.length := by omega
  have hbH : ∀ b ∈ bs, b < H'.length := fun b hb => hlat2.blt hb
  have h0H := look_lt k1'
  clear hlat2 k1' g0 g5 g6 g7 g8 g9 g10 f
  rintro m _ ⟨T, G, ov, qo, i, rfl, hT, g0, g5, g6, g7, g9, g13, g14, hm, k1, hGl, hlat, hgs, hqo⟩
  obtain ⟨f, rfl⟩ := ex118 hT
  clear hT
  replace g0 : f 0 = l := g0
  replace g5 : f 5 = .pref 1 0 0 := g5
  replace g6 : f 6 = .int .i64 (S.js.length : Nat) := g6
  replace g7 : f 7 = .int .i64 S.d := g7
  replace g9 : f 9 = rv := g9
  replace g13 : f 13 = ov := g13
  replace g14 : f 14 = .int .i64 (i : Nat) := g14
  simp only [g0, g5, g6, g7, g9, g13, g14]
  by_cases hin : i < S.js.length
  ·obtain ⟨gi, ai1, ai2, ai3, hRi⟩ := hlat.at (i := i) (by omega)
   have hxc := hRi.cell
   unfold AV.cells at hxc
   have hil' := hXB.row i hin
   have hlx := look_lt ai2
   generalize hxe : xs.getD i und = x at *
   have hz6 : ([.int .i64 0, .int .i64 0, .int .i64 0, .int .i64 0, .int .i64 0, .int .i64 0] : List AV) = icells (List.replicate 6 0) := rfl
   have k0G : ∀ c : List AV, Zz.look (G ++ [some ⟨0, c⟩]) 1 0 = some [iv, jv] := fun c => (look_left (by omega)).trans k1
   repeat' (first | (refine WO.opE (by intro; simp (disch := omega) only [go_sem, hz6]; rfl) (by simp only [pt8, pt0, pt3, pt4, pt5, pt7]; rfl) ?_) | (refine WC.seq ?_) | (refine WC.region ?_) | (refine WO.nil ?_) | (simp only [fl1]) | (refine WC.skip ?_) | (refine WC.block ?_) | (refine WC.em2 rfl (fun hp => ?_) (fun hp => ?_) <;> try (exfalso; first | omega | contradiction)))
   refine WC.loopI (fun m2 s => ∃ T w j, s = ⟨T, G ++ [some ⟨0, icells w⟩], []⟩ ∧ T.length = 118 ∧ gt T 0 = l ∧ gt T 5 = .pref 1 0 0 ∧ gt T 6 = .int .i64 (S.js.length : Nat) ∧ gt T 7 = .int .i64 S.d ∧ gt T 9 = rv ∧ gt T 13 = ov ∧ gt T 14 = .int .i64 (i : Nat) ∧ gt T 15 = .pref G.length 0 0 ∧ gt T 16 = .int .i64 (j : Nat) ∧ m2 + j = 6 ∧ w.length = 6 ∧ (∀ t, t < j → w.getD t 0 = outE rows S (X.getD i []) t)) ?_ 6 _ ⟨_, List.replicate 6 0, 0, rfl, rfl, rfl, rfl, rfl, rfl, rfl, rfl, rfl, rfl, rfl, by omega, rfl, fun t ht => by omega⟩
   clear g0 g5 g6 g7 g9 g13 g14 f
   rintro m2 _ ⟨T, w, j, rfl, hT, g0, g5, g6, g7, g9, g13, g14, g15, g16, hm2, hwl, hw1⟩
   obtain ⟨f, rfl⟩ := ex118 hT
   clear hT
   replace g0 : f 0 = l := g0
   replace g5 : f 5 = .pref 1 0 0 := g5
   replace g6 : f 6 = .int .i64 (S.js.length : Nat) := g6
   replace g7 : f 7 = .int .i64 S.d := g7
   replace g9 : f 9 = rv := g9
   replace g13 : f 13 = ov := g13
   replace g14 : f 14 = .int .i64 (i : Nat) := g14
   replace g15 : f 15 = .pref G.length 0 0 := g15
   replace g16 : f 16 = .int .i64 (j : Nat) := g16
   simp only [g0, g5, g6, g7, g9, g13, g14, g15, g16]
   have hxB : ∀ k, k < S.js.length → 0 ≤ (X.getD i []).getD k 0 ∧ (X.getD i []).getD k 0 ≤ 1000000000 := fun k hk => by
    have := hXB.el i k hin hk
    have e : ent X i k = (X.getD i []).getD k 0 := rfl
    rw [e] at this
    omega
   by_cases hj6 : j < 6
   ·have hrB : ∀ k, k < S.js.length → -1000000000 ≤ minorF (ent rows) S.is (S.js.set k j) ∧ minorF (ent rows) S.is (S.js.set k j) ≤ 1000000000 := fun k hk => by
     have h1 := rep_bnd (rows := rows) (fun i hi => hl.six hi) hB.i hB.j hB.len hk hj6
     have h2 := prodB_vol hv hB.nd hB.i
     omega
    have hsb := sumE_bd (j := j) hxB hrB
    repeat' (first | (refine WO.opE (by intro; simp (disch := omega) only [go_sem]; rfl) (by simp only [pt8, pt0, pt1, pt2]; rfl) ?_) | (refine WC.seq ?_) | (refine WC.region ?_) | (refine WO.nil ?_) | (simp only [fl1]) | (refine WC.skip ?_) | (refine WC.block ?_) | (refine WC.em2 rfl (fun hp => ?_) (fun hp => ?_) <;> try (exfalso; first | omega | contradiction)))
    refine WC.loopI (fun m3 s => ∃ T k, s = ⟨T, G ++ [some ⟨0, icells w⟩], []⟩ ∧ T.length = 118 ∧ gt T 0 = l ∧ gt T 5 = .pref 1 0 0 ∧ gt T 6 = .int .i64 (S.js.length : Nat) ∧ gt T 7 = .int .i64 S.d ∧ gt T 9 = rv ∧ gt T 13 = ov ∧ gt T 14 = .int .i64 (i : Nat) ∧ gt T 15 = .pref G.length 0 0 ∧ gt T 16 = .int .i64 (j : Nat) ∧ gt T 17 = .int .i64 (sumE rows S (X.getD i []) j k) ∧ gt T 18 = .int .i64 (k : Nat) ∧ m3 + k = S.js.length) ?_ S.js.length _ ⟨_, 0, rfl, rfl, rfl, rfl, rfl, rfl, rfl, rfl, rfl, rfl, rfl, rfl, rfl, by omega⟩
    clear g0 g5 g6 g7 g9 g13 g14 g15 g16 f
    rintro m3 _ ⟨T, k, rfl, hT, g0, g5, g6, g7, g9, g13, g14, g15, g16, g17, g18, hm3⟩
    obtain ⟨f, rfl⟩ := ex118 hT
    clear hT
    replace g0 : f 0 = l := g0
    replace g5 : f 5 = .pref 1 0 0 := g5
    replace g6 : f 6 = .int .i64 (S.js.length : Nat) := g6
    replace g7 : f 7 = .int .i64 S.d := g7
    replace g9 : f 9 = rv := g9
    replace g13 : f 13 = ov := g13
    replace g14 : f 14 = .int .i64 (i : Nat) := g14
    replace g15 : f 15 = .pref G.length 0 0 := g15
    replace g16 : f 16 = .int .i64 (j : Nat) := g16
    replace g17 : f 17 = .int .i64 (sumE rows S (X.getD i []) j k) := g17
    replace g18 : f 18 = .int .i64 (k : Nat) := g18
    simp only [g0, g5, g6, g7, g9, g13, g14, g15, g16, g17, g18]
    by_cases hk : k < S.js.length
    ·obtain ⟨g1', o1, c1, b1, b2, b3, _⟩ := hRi.at (i := k) (by omega)
     have hlb2 := look_lt b2
     have hxk := hxB k hk
     have hrk := hrB k hk
     have hmul := mul_bd hrk hxk
     rw [Int.mul_comm] at hmul
     have hsk := hsb k (by omega)
     have hsk1 := hsb (k + 1) (by omega)
     have hse : sumE rows S (X.getD i []) j (k + 1) = sumE rows S (X.getD i []) j k + (X.getD i []).getD k 0 * minorF (ent rows) S.is (S.js.set k j) := rfl
     obtain ⟨sv, hsv, c43⟩ := s94 (j := j) hjv (by omega) hk
     have c38 := fun m => s89 (m := m) (c := 2) hl hiv hsv hB.i (by decide) (okW_set (fun i hi => hl.six hi) hB.j k hj6) (okP_two hv hB.nd hB.i (by omega)) hv.2.1 (by omega) (by simp; omega) (by omega) (hl.byVal _) (hiv.byV _) (hsv.byV _)
     repeat' (first | (refine WO.opE (by intro; simp (disch := omega) only [go_sem]; rfl) (by simp only [pt8, pt0, pt2, pt4, pt5, pt6, pt7]; rfl) ?_) | (refine WT.spec rfl rfl (fun V => c43 _) (by simp only [pt8, pt0]; rfl) ?_) | (refine WT.spec rfl rfl (fun V => c38 _) (by simp only [pt8, pt1]; rfl) ?_) | (refine WC.seq ?_) | (refine WC.region ?_) | (refine WO.nil ?_) | (simp only [fl1, fl4, fl10]) | (refine WC.drawT ?_) | (refine WT.nil ?_) | (refine WT.free rfl (by intro; simp (disch := omega) only [go_sem, ai1, ai2, ai3, b1, b2, b3, look_left, k0G]; rfl) rfl (by simp only [pt8, pt0, pt1, pt2, pt3, pt4, pt5, pt6, pt7]; rfl) ?_) | (refine WT.big rfl rfl (by intro; simp (disch := omega) only [go_sem, ai2, ai3, b2, b3, look_left, k0G]; rfl) (by simp (disch := omega) only [go_sem, touch]; rfl) (by first | exact .inl rfl | exact .inr (apart_nil _) | exact .inr trivial | (right; apply apart_mk; simp only [apartL, zNA, zCA, List.getElem?_cons_succ, List.getElem?_cons_zero, Tch.free, and_true, true_and]; first | done | omega)) (by simp only [pt8, pt0, pt3, pt5]; rfl) ?_) | (refine WC.skip ?_) | (refine WC.block ?_) | (refine WC.em2 rfl (fun hp => ?_) (fun hp => ?_) <;> try (exfalso; first | omega | contradiction)))
     exact ⟨m3 - 1, by omega, _, k + 1, rfl, rfl, rfl, rfl, rfl, rfl, rfl, rfl, rfl, rfl, rfl, congrArg (AV.int .i64) hse.symm, rfl, by omega⟩
    ·have hke : k = S.js.length := by omega
     subst hke
     have hd0' : ¬ S.d = 0 := hB.ne
     have hsk := hsb S.js.length (Nat.le_refl _)
     have hout : (sumE rows S (X.getD i []) j S.js.length).tdiv S.d = outE rows S (X.getD i []) j := rfl
     have htb := tdiv_bd (a := sumE rows S (X.getD i []) j S.js.length) (M := 9000000000000000000) hd0' (by omega)
     rw [hout] at htb
     have hovw := icells_over (r := w) (j := j) (by omega) (outE rows S (X.getD i []) j)
     repeat' (first | (refine WO.opE (by intro; simp (disch := omega) only [go_sem, hd0', if_false, hout, Nat.mul_one]; rfl) (by simp only [pt8, pt0, pt2, pt3, pt4, pt5, pt6, pt7]; rfl) ?_) | (refine WO.opN (by intro; simp (disch := omega) only [go_sem, Option.bind_eq_bind, app_s0, hovw, lk0]; rfl) ?_) | (refine WC.seq ?_) | (refine WC.region ?_) | (refine WO.nil ?_) | (simp only [fl1, fl10]) | (refine WC.exit ?_) | (refine WC.em2 rfl (fun hp => ?_) (fun hp => ?_) <;> try (exfalso; first | omega | contradiction)))
     exact ⟨m2 - 1, by omega, _, w.set j (outE rows S (X.getD i []) j), j + 1, rfl, rfl, rfl, rfl, rfl, rfl, rfl, rfl, rfl, rfl, rfl, by omega, by simpa using hwl, fun t ht => by
      by_cases e : t = j
      ·subst e; rw [getD_set_self (by omega)]
      ·rw [getD_set_ne (by omega)]; exact hw1 t (by omega)⟩
   ·have hje : j = 6 := by omega
    subst hje
    have hwe : w = outR rows S (X.getD i []) := getD_ext (by simp [outR, hwl]) fun t ht => by
     rw [hw1 t (by omega)]
     simp [outR, List.getD_eq_getElem?_getD, show t < 6 by omega]
    have hnext : (X.take i).map (outR rows S) ++ [w] = (X.take (i + 1)).map (outR rows S) := by
     rw [hwe, List.take_add_one, List.map_append, List.getElem?_eq_getElem (by omega), List.getD_eq_getElem?_getD, List.getElem?_eq_getElem (by omega)]
     rfl
    have hmlw : (icells w).length = 6 := by rw [icells_len, hwl]
    have hcutw := icells_cut hwl
    have hovw := fun x0 x1 x2 x3 x4 x5 => icells_over6 hwl (x0 := x0) (x1 := x1) (x2 := x2) (x3 := x3) (x4 := x4) (x5 := x5)
    obtain ⟨ov', q', H2, a1, a2, a3, a4, a5⟩ := rowPush (L := []) hgs mapR_six hwl (by simp; omega) [some ⟨0, icells w⟩, some ⟨0, icells w⟩] (lk1 rfl)
    rw [hnext] at a2
    have hk5 : ∀ j, j < G.length → j ≠ qo → H2[j]? = G[j]? := fun j h1 h2 => by rw [a5 j (by omega) h2, List.getElem?_append_left h1]
    simp only [List.length_cons, List.length_nil, Nat.zero_add, Nat.reduceAdd] at a3 a4
    repeat' (first | (refine WO.opE (by intro; simp (disch := omega) only [go_sem, fillP, Option.bind_eq_bind, List.append_assoc, zeros, List.length_append, hcutw, hovw, hmlw, lk0]; rfl) (by simp only [pt8, pt0, pt1, pt2, pt3, pt5, pt6, pt7]; rfl) ?_) | (refine WO.opE (by intro; rw [ev_append]; exact a1) (by simp only [pt8, pt4]; rfl) ?_) | (refine WC.seq ?_) | (refine WC.region ?_) | (refine WO.nil ?_) | (simp only [fl1, fl10]) | (refine WC.no rfl ?_) | (refine WC.exit ?_))
    exact ⟨m - 1, by omega, _, H2, ov', q', i + 1, rfl, rfl, rfl, rfl, rfl, rfl, rfl, rfl, rfl, by omega, (look_of_get (hk5 1 (by omega) (by omega))).trans k1, by omega, hlat.keep (hk5 q (by omega) (by omega)) fun b hb => hk5 b (by have := hbH b hb; omega) (by have := hbH b hb; omega), a2, by omega⟩
  ·have hie : i = S.js.length := by omega
   subst hie
   rw [List.take_of_length_le (by omega), ← hherm] at hgs
   repeat' (first | (refine WO.opE (by intro; simp (disch := omega) only [go_sem]; rfl) (by simp only [pt8, pt2, pt3, pt4, pt5]; rfl) ?_) | (refine WC.seq ?_) | (refine WC.region ?_) | (refine WO.nil ?_) | (simp only [fl1]) | (refine WC.exit ?_) | (refine WC.ret ?_) | (refine WC.em2 rfl (fun hp => ?_) (fun hp => ?_) <;> try (exfalso; first | omega | contradiction)))
   exact ⟨_, rfl, ov, qo, rfl, hgs⟩
noncomputable def E18 : Env := E17.put 28 (borrowE E17 28)
theorem E18_ok : EnvOk Try.prog E18 := Env.put_ok E17_ok (borrowE_ok E17_ok (callable Try.func28 (by kernel_rfl)))
end Go.Proofs.Ytnilimjkibimcaa

