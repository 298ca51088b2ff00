import Derived.Test.YtnilimjkibimcaaDoorDMA
set_option linter.unusedSimpArgs false
set_option linter.unusedVariables false

namespace Go.Proofs.YtnilimjkibimcaaDoor
open Go.Zz
set_option maxRecDepth 100000
set_option maxHeartbeats 4000000
theorem JS.byVal {H : Hp} {x : AV} {l : List Nat} (h : JS H x l) : ∃ y, Zz.byVal H x = some y ∧ NatS y l := by
  rcases h with h | ⟨q, g, cap, rfl, h1, h2⟩
  · exact ⟨x, IntS.byVal h H, h⟩
  · have e1 : Zz.cut (ncells l) 0 (l.length * 1) = some (ncells l) := by
      unfold Zz.cut
      rw [if_pos (by rw [ncells_len]; omega), List.drop_zero, List.take_of_length_le (by rw [ncells_len]; omega)]
    have e2 : (ncells l).all flatAV = true := flat_ints _
    refine ⟨.sval (cap == some l.length) l.length (ncells l), ?_, .inr ⟨_, by rw [List.length_map]; rfl⟩⟩
    show Zz.byC H (.sref q g 0 1 l.length cap) = _
    simp only [Zz.byC, h1, e1, e2, if_true]
noncomputable def E5 : Env := E4
theorem E5_ok : EnvOk Tryd.prog E5 := E4_ok
theorem RwL.cells {x : AV} {rows : List (List Int)} (h : RwL x rows) : x.cells = some [x] := SL.cells h
theorem RwL.resC {x : AV} {rows : List (List Int)} (h : RwL x rows) (H : Hp) : Zz.resC H x = some x := by
  have this := h.byVal H
  obtain ⟨_, ⟨rfl, _⟩ | ⟨f, rfl⟩⟩ := h
  · rfl
  · skip
    simp only [Zz.byVal, Zz.byC] at this
    simp only [Zz.resC]
    exact this
theorem f131 {E : Env} (hE : E.spec 40 = none) (hF : E.fn 40 = some ir40) {x : AV} {l : List Nat} {H : Hp} {L : List (Option ALoop)} (hx : JS H x l) (hl : l.length < 1000000) : WF E (.func 40 [] []) [x] ⟨H, L⟩ fun v m' => ∃ q H', m' = ⟨H', L⟩ ∧ GS 1 H' v q (ncells l) ∧ Ext H H' ∧ H.length ≤ q := by
  have hxl := hx.len
  have hB : Ext H (H ++ [(some ⟨0, []⟩ : Option Blk)]) := Ext.app _ _
  have g0 : GS 1 (H ++ [(some ⟨0, []⟩ : Option Blk)]) (.sref H.length 0 0 1 0 (some 0)) H.length [] := .inr (.inl ⟨0, rfl, rfl, lk0 rfl⟩)
  have hsc : ∃ c, scells (H ++ [(some ⟨0, []⟩ : Option Blk)]) 1 x = some c ∧ c = ncells l := by
    rcases hx.ext hB with (⟨rfl, h⟩ | ⟨f, rfl⟩) | ⟨q, g, cap, rfl, h1, _⟩
    · have e : l = [] := by simpa using h
      subst e
      exact ⟨[], rfl, rfl⟩
    · refine ⟨_, ?_, rfl⟩
      simp only [scells, List.length_map, Nat.mul_one, if_true]
      rfl
    · refine ⟨_, ?_, rfl⟩
      simp only [scells, if_true, h1, Option.bind_some, Zz.cut]
      rw [if_pos (by rw [ncells_len]; omega), List.drop_zero, List.take_of_length_le (by rw [ncells_len]; omega)]
  obtain ⟨_, hsc, rfl⟩ := hsc
  obtain ⟨v1, q1, H1, a1, a2, a3, a4, a5⟩ := g0.appendX (L := L) (bytes := 8) (n := l.length) hsc hxl (by rw [ncells_len]; omega) Nat.one_pos ⟨by simp; omega, by simp; omega⟩
  rw [List.nil_append] at a2
  have hE1 : Ext H H1 := ⟨by simp at a4 ⊢; omega, fun j hj' => by rw [a5 j (by simp; omega) (by omega), hB.2 j hj']⟩
  have hq1 : H.length ≤ q1 := by rcases a3 with rfl | rfl; exact Nat.le_refl _; exact (by simp)
  by_cases hn : x = .snil
  · subst hn
    have e : l = [] := by
      rcases hx with (⟨_, h⟩ | ⟨f, h⟩) | ⟨q, g, cap, h, _⟩
      · simpa using h
      · cases h
      · cases h
    subst e
    refine WF.fnE hE hF (by show 1 ≤ 8; decide) ?_
    unfold ir40; dsimp only [k0, kI, mV, oO, oG]
    simp only [padTo, List.replicate, List.nil_append, List.append_nil]
    repeat' (first | (refine WO.opE (by intro; simp (disch := omega) only [go_sem, nilEqAV]; rfl) (by simp only [pt2, pt3, pt4]; rfl) ?_) | (refine WC.seq ?_) | (refine WC.region ?_) | (refine WO.nil ?_) | (simp only [fl1, fl2]) | (refine WC.yes rfl ?_) | (refine WC.ret ?_))
    exact ⟨_, rfl, H.length, H, rfl, .inl ⟨rfl, rfl⟩, Ext.refl _, Nat.le_refl _⟩
  · have hne : nilEqAV 0 x .snil = some false := by
      rcases hx with (⟨rfl, h⟩ | ⟨f, rfl⟩) | ⟨q, g, cap, rfl, _⟩
      · exact absurd rfl hn
      · rfl
      · rfl
    refine WF.fnE hE hF (by show 1 ≤ 8; decide) ?_
    unfold ir40; dsimp only [k0, kI, mV, oO, oG]
    simp only [padTo, List.replicate, List.nil_append, List.append_nil]
    repeat' (first | (refine WO.opE (by intro; simp (disch := omega) only [go_sem, zeros, hne]; rfl) (by simp only [pt2, pt3, pt4, pt5, pt6]; rfl) ?_) | (refine WO.opE (by intro; rw [ev_append]; exact a1) (by simp only [pt7]; rfl) ?_) | (refine WC.seq ?_) | (refine WC.region ?_) | (refine WO.nil ?_) | (simp only [fl1]) | (refine WC.no rfl ?_) | (refine WC.skip ?_) | (refine WC.ret ?_))
    exact ⟨_, rfl, q1, H1, rfl, a2, hE1, hq1⟩
set_option maxRecDepth 100000
set_option maxHeartbeats 8000000
def tryAt (rows : List (List Int)) (is js : List Nat) (i : Nat) : Int := minorF (ent rows) (is ++ [i]) js
def firstRow (rows : List (List Int)) (is js : List Nat) : Option Nat := (List.range rows.length).find? fun i => decide (tryAt rows is js i ≠ 0)
structure Fr where
  is : List Nat
  js : List Nat
  d : Int
def frStep (rows : List (List Int)) (s : Fr) (j : Nat) : Fr := match firstRow rows s.is (s.js ++ [j]) with
  | some i => ⟨s.is ++ [i], s.js ++ [j], tryAt rows s.is (s.js ++ [j]) i⟩
  | none => s
def frame (rows : List (List Int)) (ord : List Nat) (k : Nat) : Fr := (ord.take k).foldl (frStep rows) ⟨[], [], 1⟩
theorem frame_succ {rows : List (List Int)} {ord : List Nat} {k : Nat} (h : k < ord.length) : frame rows ord (k + 1) = frStep rows (frame rows ord k) (ord.getD k 0) := by
  unfold frame
  rw [List.take_add_one, List.getD_eq_getElem?_getD, List.getElem?_eq_getElem h]
  show List.foldl _ _ (ord.take k ++ [ord[k]]) = _
  rw [List.foldl_append]
  rfl
theorem firstRow_some {rows : List (List Int)} {is js : List Nat} {i : Nat} (hi : i < rows.length) (hn : ∀ k, k < i → tryAt rows is js k = 0) (h : tryAt rows is js i ≠ 0) : firstRow rows is js = some i := by
  unfold firstRow
  rw [List.find?_range_eq_some]
  exact ⟨by simpa using h, by simpa using hi, fun j hj => by simpa using hn j hj⟩
theorem firstRow_none {rows : List (List Int)} {is js : List Nat} (hn : ∀ k, k < rows.length → tryAt rows is js k = 0) : firstRow rows is js = none := by
  unfold firstRow
  rw [List.find?_eq_none]
  intro x hx
  simpa using hn x (by simpa using hx)
structure FrOk (rows : List (List Int)) (ord : List Nat) (k : Nat) (s : Fr) : Prop where
  d : s.d = minorF (ent rows) s.is s.js
  ne : s.d ≠ 0
  i : okI rows s.is
  len : s.is.length = s.js.length
  sub : s.js.Sublist (ord.take k)
theorem take_succN {ord : List Nat} {k : Nat} (h : k < ord.length) : ord.take (k + 1) = ord.take k ++ [ord.getD k 0] := by
  rw [List.take_add_one, List.getD_eq_getElem?_getD, List.getElem?_eq_getElem h]
  rfl
theorem FrOk.none {rows : List (List Int)} {ord : List Nat} {k : Nat} {s : Fr} (h : FrOk rows ord k s) (hk : k < ord.length) : FrOk rows ord (k + 1) s :=
  ⟨h.d, h.ne, h.i, h.len, h.sub.trans (by rw [take_succN hk]; exact List.sublist_append_left _ _)⟩
theorem FrOk.some {rows : List (List Int)} {ord : List Nat} {k i : Nat} {s : Fr} (h : FrOk rows ord k s) (hk : k < ord.length) (hi : i < rows.length) (hd : tryAt rows s.is (s.js ++ [ord.getD k 0]) i ≠ 0) :
    FrOk rows ord (k + 1) ⟨s.is ++ [i], s.js ++ [ord.getD k 0], tryAt rows s.is (s.js ++ [ord.getD k 0]) i⟩ := by
  refine ⟨rfl, hd, fun x hx => ?_, by simp [h.len], ?_⟩
  · rw [List.mem_append, List.mem_singleton] at hx
    rcases hx with hx | rfl
    · exact h.i x hx
    · exact hi
  · show (s.js ++ [ord.getD k 0]).Sublist _
    rw [take_succN hk]
    exact h.sub.append (List.Sublist.refl _)
theorem FrOk.cols {rows : List (List Int)} {ord : List Nat} {k : Nat} {s : Fr} (h : FrOk rows ord k s) (ho : okJ ord) (hk : k < ord.length) : okJ (s.js ++ [ord.getD k 0]) := by
  refine ho.sub ?_
  have h1 : (s.js ++ [ord.getD k 0]).Sublist (ord.take (k + 1)) := by
    rw [take_succN hk]
    exact h.sub.append (List.Sublist.refl _)
  exact h1.trans (List.take_sublist _ _)
theorem FrOk.nodup {rows : List (List Int)} {ord : List Nat} {k : Nat} {s : Fr} (h : FrOk rows ord k s) : s.is.Nodup := minor_nodup (e := ent rows) (us := s.js) (by rw [← h.d]; exact h.ne)
theorem FrOk.zero (rows : List (List Int)) (ord : List Nat) : FrOk rows ord 0 ⟨[], [], 1⟩ := ⟨rfl, by decide, fun x hx => (by cases hx), rfl, by simp⟩
theorem frStep_some {rows : List (List Int)} {s : Fr} {j i : Nat} (h : firstRow rows s.is (s.js ++ [j]) = some i) : frStep rows s j = ⟨s.is ++ [i], s.js ++ [j], tryAt rows s.is (s.js ++ [j]) i⟩ := by
  unfold frStep
  rw [h]
theorem frStep_none {rows : List (List Int)} {s : Fr} {j : Nat} (h : firstRow rows s.is (s.js ++ [j]) = none) : frStep rows s j = s := by
  unfold frStep
  rw [h]
def far (N : Nat) : AV → Prop
  | .sref q _ _ _ _ _ => N ≤ q
  | .sval _ _ _ => False
  | _ => True
theorem JS.set {H : Hp} {x : AV} {l : List Nat} (h : JS H x l) {b : Nat} (hf : far (b + 1) x) (c : Option Blk) : JS (H.set b c) x l := by
  rcases h with h | ⟨q, g, cap, rfl, h1, h2⟩
  · exact .inl h
  · have : b + 1 ≤ q := hf
    exact .inr ⟨q, g, cap, rfl, (look_of_get (List.getElem?_set_ne (by omega))).trans h1, h2⟩
theorem JS.cell {H : Hp} {x : AV} {l : List Nat} (h : JS H x l) : x.cells = some [x] := by
  rcases h with h | ⟨q, g, cap, rfl, _⟩
  · exact h.cells
  · rfl
theorem push {H H1 : Hp} {L : List (Option ALoop)} {v : AV} {q : Nat} {l : List Nat} (h : GS 1 H1 v q (ncells l)) (he : Ext H H1) (hq : H.length ≤ q) (x : Nat) (hl : l.length < 1000000) :
    ∃ v' H2, appendAV 1 8 ⟨H1 ++ [some ⟨0, [.int .i64 (x : Int)]⟩], L⟩ v (.sref H1.length 0 0 1 1 (some 1)) = some (v', ⟨H2, L⟩) ∧ JS H2 v' (l ++ [x]) ∧ Ext H H2 ∧ far H.length v' := by
  obtain ⟨v', q', H2, a1, a2, a3, a4, a5⟩ := (h.more [some ⟨0, [.int .i64 (x : Int)]⟩]).append (L := L) (bytes := 8) (n := 1) (cap := some 1) (id := H1.length) (lk0 rfl) rfl Nat.one_pos Nat.one_pos ⟨by rw [ncells_len, Nat.div_one]; omega, by rw [ncells_len, Nat.div_one]; omega⟩
  have e : ncells l ++ [.int .i64 (x : Int)] = ncells (l ++ [x]) := by rw [ncells_app]; rfl
  rw [e] at a2
  have hl1 := he.1
  refine ⟨v', H2, a1, JS.of_gs a2, ⟨by simp at a4; omega, fun j hj => ?_⟩, ?_⟩
  · rw [a5 j (by simp; omega) (by omega), List.getElem?_append_left (by omega), he.2 j hj]
  · have hq' : H.length ≤ q' := by
      rcases a3 with rfl | rfl
      · exact hq
      · simp; omega
    rcases a2 with ⟨rfl, _⟩ | ⟨g, rfl, _⟩ | ⟨g, n, rfl, _⟩
    · trivial
    · exact hq'
    · exact hq'
theorem far.mono {a b : Nat} {x : AV} (h : far b x) (hab : a ≤ b) : far a x := by
  cases x <;> first | exact Nat.le_trans hab h | trivial | exact h
set_option maxRecDepth 100000
set_option maxHeartbeats 8000000
theorem cut4z {a b c d : AV} : Zz.cut [a, b, c, d] 0 4 = some [a, b, c, d] := by simp [Zz.cut]
theorem f82 {l ov : AV} {rows : List (List Int)} {ord : List Nat} (hl : RwL l rows) (hv : VM rows) (hov : NatS ov ord) (ho : okJ ord) (hol : ord.length ≤ 6) :
    WF E5 (.func 30 [] []) [l, ov] ⟨[], []⟩ fun y m' => ∃ iv jv, y = .agg [l, iv, jv, .int .i64 (frame rows ord ord.length).d] ∧ JS m'.heap iv (frame rows ord ord.length).is ∧ JS m'.heap jv (frame rows ord ord.length).js ∧ FrOk rows ord ord.length (frame rows ord ord.length) := by
  have hlen := hl.len
  have hlc := hl.cells
  unfold AV.cells at hlc
  have hovl := hov.len
  have hr8 := hv.1
  refine WF.fnE rfl (fn_of Tryd.func30 cir30) (by show 2 ≤ 52; decide) ?_
  unfold ir30; dsimp only [k0, kI, mV, oO, oG]
  simp only [padTo, List.replicate, List.nil_append, List.append_nil]
  repeat' (first | (refine WO.opE (by intro; simp (disch := omega) only [go_sem, ov_one0, ov_one3, hlc, fillP, Option.bind_eq_bind]; rfl) (by simp only [pt8, pt0, pt4, pt5, pt6]; rfl) ?_) | (refine WO.opN (by intro; simp (disch := omega) only [go_sem, Zz.look, ov_all4, Nat.reduceAdd, Option.bind_eq_bind]; rfl) ?_) | (refine WO.opE (by intro; exact ev_lenS (by simp only [go_sem]; first | rfl | assumption)) (by simp only [pt8, pt7]; rfl) ?_) | (refine WC.seq ?_) | (refine WC.region ?_) | (refine WO.nil ?_) | (simp only [fl1]) | (refine WC.block ?_))
  refine WC.loopI (fun m s => ∃ T H iv jv k, ∃ S : Fr, s = ⟨T, H, []⟩ ∧ T.length = 52 ∧ gt T 0 = l ∧ gt T 4 = .pref 0 0 0 ∧ gt T 5 = .pref 1 0 0 ∧ gt T 14 = ov ∧ gt T 15 = .int .i64 (ord.length : Nat) ∧ gt T 16 = .int .i64 (k : Nat) ∧ m + k = ord.length ∧ Zz.look H 0 0 = some [.snil, .snil, .snil, .int .i64 0] ∧ Zz.look H 1 0 = some [l, iv, jv, .int .i64 S.d] ∧ JS H iv S.is ∧ JS H jv S.js ∧ far 2 iv ∧ far 2 jv ∧ S = frame rows ord k ∧ FrOk rows ord k S) ?_ ord.length _ ⟨_, _, .snil, .snil, 0, ⟨[], [], 1⟩, rfl, rfl, rfl, rfl, rfl, rfl, rfl, rfl, by omega, rfl, rfl, .inl IntS.nil, .inl IntS.nil, trivial, trivial, rfl, FrOk.zero _ _⟩
  rintro m _ ⟨T, H, iv, jv, k, S, rfl, hT, g0, g4, g5, g14, g15, g16, hm, k0, k1, hi, hj, fi, fj, hS, hok⟩
  obtain ⟨f, rfl⟩ := ex52 hT
  clear hT
  replace g0 : f 0 = l := g0
  replace g4 : f 4 = .pref 0 0 0 := g4
  replace g5 : f 5 = .pref 1 0 0 := g5
  replace g14 : f 14 = ov := g14
  replace g15 : f 15 = .int .i64 (ord.length : Nat) := g15
  replace g16 : f 16 = .int .i64 (k : Nat) := g16
  simp only [g0, g4, g5, g14, g15, g16]
  by_cases hk : k < ord.length
  · obtain ⟨t1, hat⟩ := hov.at hk
    have hsl : S.is.length ≤ 6 ∧ S.js.length ≤ 6 := by
      have h1 := hok.sub.length_le
      rw [List.length_take] at h1
      have := hok.len
      omega
    have hfs := frame_succ (rows := rows) hk
    rw [← hS] at hfs
    repeat' (first | (refine WO.opE (by intro; simp (disch := omega) only [go_sem, hat, k1]; rfl) (by simp only [pt8, pt1, pt2, pt3, pt4, pt5, pt7]; rfl) ?_) | (refine WC.seq ?_) | (refine WC.region ?_) | (refine WO.nil ?_) | (simp only [fl1]) | (refine WC.skip ?_) | (refine WC.block ?_) | (refine WC.em2 rfl (fun hp => ?_) (fun hp => ?_) <;> try (exfalso; first | omega | contradiction)))
    refine WO.call rfl rfl ((f131 (E := E5) rfl (fn_of Tryd.func40 cir40) hj (by omega)).mono ?_)
    rintro v m' ⟨q, H1, rfl, hg, he1, hq⟩
    simp only [pt8, pt6]
    obtain ⟨v8, H2, a1, hj2, he2, f8⟩ := push (L := []) hg he1 hq (ord.getD k 0) (by omega)
    repeat' (first | (refine WO.opE (by intro; simp (disch := omega) only [go_sem, zeros, ov_one0]; rfl) (by simp only [pt8, pt0, pt2, pt4, pt7]; rfl) ?_) | (refine WO.opE (by intro; exact ev_lenS (by simp only [go_sem]; first | rfl | assumption)) (by simp only [pt8, pt3]; rfl) ?_) | (refine WO.opE (by intro; rw [ev_append]; exact a1) (by simp only [pt8, pt1]; rfl) ?_) | (refine WC.seq ?_) | (refine WC.region ?_) | (refine WO.nil ?_) | (simp only [fl1]) | (refine WC.block ?_))
    refine WC.loopI (fun m1 s => ∃ T R i, s = ⟨T, H2 ++ R, []⟩ ∧ T.length = 52 ∧ gt T 0 = l ∧ gt T 4 = .pref 0 0 0 ∧ gt T 5 = .pref 1 0 0 ∧ gt T 8 = v8 ∧ gt T 14 = ov ∧ gt T 15 = .int .i64 (ord.length : Nat) ∧ gt T 16 = .int .i64 (k : Nat) ∧ gt T 27 = .int .i64 (rows.length : Nat) ∧ gt T 28 = .int .i64 (i : Nat) ∧ m1 + i = rows.length ∧ ∀ i', i' < i → tryAt rows S.is (S.js ++ [ord.getD k 0]) i' = 0) ?_ rows.length _ ⟨_, [], 0, by rw [List.append_nil], rfl, rfl, rfl, rfl, rfl, rfl, rfl, rfl, rfl, rfl, by omega, fun i' hi' => by omega⟩
    clear g0 g4 g5 g14 g15 g16 f
    rintro m1 _ ⟨T, R, i, rfl, hT, g0, g4, g5, g8, g14, g15, g16, g27, g28, hm1, hprev⟩
    obtain ⟨f, rfl⟩ := ex52 hT
    clear hT
    replace g0 : f 0 = l := g0
    replace g4 : f 4 = .pref 0 0 0 := g4
    replace g5 : f 5 = .pref 1 0 0 := g5
    replace g8 : f 8 = v8 := g8
    replace g14 : f 14 = ov := g14
    replace g15 : f 15 = .int .i64 (ord.length : Nat) := g15
    replace g16 : f 16 = .int .i64 (k : Nat) := g16
    replace g27 : f 27 = .int .i64 (rows.length : Nat) := g27
    replace g28 : f 28 = .int .i64 (i : Nat) := g28
    simp only [g0, g4, g5, g8, g14, g15, g16, g27, g28]
    have hE := he2.trans (Ext.app H2 R)
    have k1' := hE.look k1
    have k0' := hE.look k0
    have hl2 := look_lt k1
    by_cases hin : i < rows.length
    · have hcols := hok.cols ho hk
      repeat' (first | (refine WO.opE (by intro; simp (disch := omega) only [go_sem, k1']; rfl) (by simp only [pt8, pt0, pt1, pt5, pt6, pt7]; rfl) ?_) | (refine WC.seq ?_) | (refine WC.region ?_) | (refine WO.nil ?_) | (simp only [fl1]) | (refine WC.skip ?_) | (refine WC.block ?_) | (refine WC.em2 rfl (fun hp => ?_) (fun hp => ?_) <;> try (exfalso; first | omega | contradiction)))
      refine WO.call rfl rfl ((f131 (E := E5) rfl (fn_of Tryd.func40 cir40) (hi.ext hE) (by omega)).mono ?_)
      rintro v m' ⟨q3, H3, rfl, hg3, he3, hq3⟩
      simp only [pt8, pt1]
      obtain ⟨v10, H4, a4, hi4, he4, f10⟩ := push (L := []) hg3 he3 hq3 i (by omega)
      have hj4 := (hj2.ext (Ext.app H2 R)).ext he4
      obtain ⟨y10, y10b, y10n⟩ := hi4.byVal
      obtain ⟨y8, y8b, y8n⟩ := hj4.byVal
      have c53 := s104 (m := ⟨H4, []⟩) hl y10n y8n (fun x hx => by
        rw [List.mem_append, List.mem_singleton] at hx
        rcases hx with hx | rfl
        · exact hok.i x hx
        · exact hin) (by decide) (hcols.toW fun i hi => hl.six hi) (okP_one hv hok.nodup hok.i hin) hv.2.1 (by simp; omega) (by simp; omega) (by omega) (hl.byVal H4) y10b y8b
      have htry : minorF (ent rows) (S.is ++ [i]) (S.js ++ [ord.getD k 0]) = tryAt rows S.is (S.js ++ [ord.getD k 0]) i := rfl
      rw [htry] at c53
      obtain ⟨R', hR'⟩ := ((Ext.app H2 R).trans he4).split
      have hc10 := hi4.cell
      have hc8 := hj4.cell
      unfold AV.cells at hc10 hc8
      have k1f := he4.look k1'
      have k0f := he4.look k0'
      have hk1s : ∀ c : List AV, Zz.look (H4.set 1 (some ⟨0, c⟩)) 1 0 = some c := fun c => look_set (look_lt k1f)
      by_cases hd : tryAt rows S.is (S.js ++ [ord.getD k 0]) i = 0
      · rw [hd] at c53
        repeat' (first | (refine WO.opE (by intro; simp (disch := omega) only [go_sem, zeros, ov_one0]; rfl) (by simp only [pt8, pt1, pt2, pt3, pt4, pt5, pt6, pt7]; rfl) ?_) | (refine WO.specE rfl rfl (c53) (by simp only [pt8, pt0]; rfl) ?_) | (refine WO.opE (by intro; rw [ev_append]; exact a4) (by simp only [pt8, pt4]; rfl) ?_) | (refine WC.seq ?_) | (refine WC.region ?_) | (refine WO.nil ?_) | (simp only [fl1, fl10]) | (refine WC.no rfl ?_) | (refine WC.skip ?_))
        exact ⟨m1 - 1, by omega, _, R', i + 1, by rw [← hR'], rfl, rfl, rfl, rfl, rfl, rfl, rfl, rfl, rfl, rfl, by omega, fun i' hi' => by
          by_cases e : i' = i
          · subst e; exact hd
          · exact hprev i' (by omega)⟩
      · have hFr := hok.some hk hin hd
        have hfst := frStep_some (firstRow_some hin hprev hd)
        have hlen2 : 2 ≤ H.length := by omega
        have f10' := f10.mono (show 2 ≤ (H2 ++ R).length by have := hE.1; omega)
        have f8' := f8.mono hlen2
        rw [hfst] at hfs
        generalize tryAt rows S.is (S.js ++ [ord.getD k 0]) i = d at *
        repeat' (first | (refine WO.opE (by intro; simp (disch := omega) only [go_sem, zeros, ov_one0]; rfl) (by simp only [pt8, pt0, pt1, pt2, pt3, pt4, pt5, pt6, pt7]; rfl) ?_) | (refine WO.opN (by intro; simp (disch := omega) only [go_sem, ov_one1, ov_one2, ov_one3, k1f, hk1s, hc10, hc8, List.set_set]; rfl) ?_) | (refine WO.specE rfl rfl (c53) (by simp only [pt8, pt0]; rfl) ?_) | (refine WO.opE (by intro; rw [ev_append]; exact a4) (by simp only [pt8, pt4]; rfl) ?_) | (refine WC.seq ?_) | (refine WC.region ?_) | (refine WO.nil ?_) | (simp only [fl1, fl10]) | (refine WC.exit ?_) | (refine WC.em2 rfl (fun hp => ?_) (fun hp => ?_) <;> try (exfalso; first | omega | contradiction)))
        exact ⟨m - 1, by omega, _, _, v10, v8, k + 1, ⟨S.is ++ [i], S.js ++ [ord.getD k 0], d⟩, rfl, rfl, rfl, rfl, rfl, rfl, rfl, rfl, by omega, (look_of_get (List.getElem?_set_ne (by omega))).trans k0f, hk1s _, hi4.set f10' _, hj4.set f8' _, f10', f8', hfs.symm, hFr⟩
    · have hie : i = rows.length := by omega
      subst hie
      rw [frStep_none (firstRow_none hprev)] at hfs
      repeat' (first | (refine WO.opE (by intro; simp (disch := omega) only [go_sem]; rfl) (by simp only [pt8, pt0, pt2, pt5]; rfl) ?_) | (refine WC.seq ?_) | (refine WC.region ?_) | (refine WO.nil ?_) | (simp only [fl10]) | (refine WC.exit ?_) | (refine WC.em2 rfl (fun hp => ?_) (fun hp => ?_) <;> try (exfalso; first | omega | contradiction)))
      exact ⟨m - 1, by omega, _, _, iv, jv, k + 1, S, rfl, rfl, rfl, rfl, rfl, rfl, rfl, rfl, by omega, k0', k1', hi.ext hE, hj.ext hE, fi, fj, hfs.symm, hok.none hk⟩
  · have hke : k = ord.length := by omega
    subst hke
    have hl2 := look_lt k1
    have hk0s : ∀ c : List AV, Zz.look (H.set 0 (some ⟨0, c⟩)) 0 0 = some c := fun c => look_set (by omega)
    repeat' (first | (refine WO.opE (by intro; simp (disch := omega) only [go_sem, k1, cut4z]; rfl) (by simp only [pt8, pt1, pt3]; rfl) ?_) | (refine WO.opN (by intro; simp (disch := omega) only [go_sem, ov_all4, Nat.reduceAdd, k0]; rfl) ?_) | (refine WC.seq ?_) | (refine WC.region ?_) | (refine WO.nil ?_) | (simp only [fl1]) | (refine WC.exit ?_) | (refine WC.ret ?_) | (refine WC.em2 rfl (fun hp => ?_) (fun hp => ?_) <;> try (exfalso; first | omega | contradiction)))
    rw [← hS]
    refine ⟨_, by simp only [evRes, gt4, loadCs, hk0s, cut4z, if_true, Option.bind_some, Option.map_some]; rfl, iv, jv, rfl, hi.set (b := 0) (fi.mono (by omega)) _, hj.set (b := 0) (fj.mono (by omega)) _, hok⟩
set_option maxRecDepth 100000
set_option maxHeartbeats 8000000
theorem JS.resC {H : Hp} {x : AV} {l : List Nat} (h : JS H x l) : ∃ y, Zz.resC H x = some y ∧ NatS y l := by
  rcases h with (⟨rfl, h⟩ | ⟨f, rfl⟩) | ⟨q, g, cap, rfl, h1, h2⟩
  · exact ⟨.snil, rfl, .inl ⟨rfl, h⟩⟩
  · refine ⟨_, ?_, .inr ⟨f, rfl⟩⟩
    simp only [Zz.resC, flat_ints, if_true]
  · have e1 : Zz.cut (ncells l) 0 (l.length * 1) = some (ncells l) := by
      unfold Zz.cut
      rw [if_pos (by rw [ncells_len]; omega), List.drop_zero, List.take_of_length_le (by rw [ncells_len]; omega)]
    have e2 : (ncells l).all flatAV = true := flat_ints _
    refine ⟨.sval (cap == some l.length) l.length (ncells l), ?_, .inr ⟨_, by rw [List.length_map]; rfl⟩⟩
    simp only [Zz.resC, h1, e1, e2, if_true]
theorem JS.newC {H : Hp} {x : AV} {l : List Nat} (h : JS H x l) {N : Nat} (hf : far N x) : ∃ y, Zz.newC H x = some y ∧ NatS y l := by
  rcases h with (⟨rfl, h⟩ | ⟨f, rfl⟩) | ⟨q, g, cap, rfl, h1, h2⟩
  · exact ⟨.snil, rfl, .inl ⟨rfl, h⟩⟩
  · exact hf.elim
  · have e1 : Zz.cut (ncells l) 0 (l.length * 1) = some (ncells l) := by
      unfold Zz.cut
      rw [if_pos (by rw [ncells_len]; omega), List.drop_zero, List.take_of_length_le (by rw [ncells_len]; omega)]
    have e2 : (ncells l).all flatAV = true := flat_ints _
    refine ⟨.sval (cap == some l.length) l.length (ncells l), ?_, .inr ⟨_, by rw [List.length_map]; rfl⟩⟩
    simp only [Zz.newC, h1, e1, e2, if_true]
theorem NatS.pureA {x : AV} {l : List Nat} (h : NatS x l) : Zz.pureA x = true := IntS.pureA h
theorem s82 {l ov : AV} {rows : List (List Int)} {ord : List Nat} (hl : RwL l rows) (hv : VM rows) (hov : NatS ov ord) (ho : okJ ord) (hol : ord.length ≤ 6) :
    FrOk rows ord ord.length (frame rows ord ord.length) ∧ ∃ iv jv, NatS iv (frame rows ord ord.length).is ∧ NatS jv (frame rows ord ord.length).js ∧ ∀ m, borrowE E5 30 [l, ov] m = some (.agg [l, iv, jv, .int .i64 (frame rows ord ord.length).d], m) := by
  obtain ⟨n, y, m', h1, iv, jv, rfl, h2, h3, h4⟩ := (f82 hl hv hov ho hol).ex
  obtain ⟨iv', e1, e2⟩ := h2.resC
  obtain ⟨jv', e3, e4⟩ := h3.resC
  refine ⟨h4, iv', jv', e2, e4, fun m => borrowE_of (pures_cons hl.pureA (pures_cons hov.pureA rfl)) ⟨⟨n, _, m', h1, ?_⟩⟩⟩
  have hi : ∀ (H : Hp) (k : IntKind) (n : Int), Zz.resC H (.int k n) = some (.int k n) := fun _ _ _ => rfl
  simp only [resV, resA, resL, hl.resC, e1, e3, hi]
noncomputable def E6 : Env := E5.put 30 (borrowE E5 30)
theorem E6_ok : EnvOk Tryd.prog E6 := Env.put_ok E5_ok (borrowE_ok E5_ok (callable Tryd.func30 (by kernel_rfl)))
theorem f83 : WF E6 (.func 33 [] []) [] ⟨[], []⟩ fun y m' => ∃ x, resV m'.heap y = some x ∧ NatS x [0, 1, 2, 3, 4, 5] := by
  refine WF.fnE rfl (fn_of Tryd.func33 cir33) (by show 0 ≤ 2; decide) ?_
  unfold ir33; dsimp only [k0, kI, mV, oO, oG]
  simp only [padTo, List.replicate, List.append_nil]
  repeat' (first | (refine WO.opE (by intro; simp (disch := omega) only [go_sem, zeros, ov_one0, ov_one1, ov_one2, ov_one3, fillP, Option.bind_eq_bind]; rfl) (by simp only [pt0, pt1]; rfl) ?_) | (refine WC.seq ?_) | (refine WC.region ?_) | (refine WO.nil ?_) | (simp only [fl1]) | (refine WC.ret ?_))
  exact ⟨_, rfl, .sval true 6 [.int .i64 0, .int .i64 1, .int .i64 2, .int .i64 3, .int .i64 4, .int .i64 5], rfl, .inr ⟨true, rfl⟩⟩
theorem s83 : ∃ x, NatS x [0, 1, 2, 3, 4, 5] ∧ ∀ m, borrowE E6 33 [] m = some (x, m) := by
  obtain ⟨n, y, m', h1, x, h2, h3⟩ := f83.ex
  exact ⟨x, h3, fun m => borrowE_of rfl ⟨⟨n, y, m', h1, h2⟩⟩⟩
theorem f95 : WF E6 (.func 31 [] []) [] ⟨[], []⟩ fun y m' => ∃ x, resV m'.heap y = some x ∧ NatS x [5, 4, 3, 2, 1, 0] := by
  refine WF.fnE rfl (fn_of Tryd.func31 cir31) (by show 0 ≤ 2; decide) ?_
  unfold ir31; dsimp only [k0, kI, mV, oO, oG]
  simp only [padTo, List.replicate, List.append_nil]
  repeat' (first | (refine WO.opE (by intro; simp (disch := omega) only [go_sem, zeros, ov_one0, ov_one1, ov_one2, ov_one3, fillP, Option.bind_eq_bind]; rfl) (by simp only [pt0, pt1]; rfl) ?_) | (refine WC.seq ?_) | (refine WC.region ?_) | (refine WO.nil ?_) | (simp only [fl1]) | (refine WC.ret ?_))
  exact ⟨_, rfl, .sval true 6 [.int .i64 5, .int .i64 4, .int .i64 3, .int .i64 2, .int .i64 1, .int .i64 0], rfl, .inr ⟨true, rfl⟩⟩
theorem s95 : ∃ x, NatS x [5, 4, 3, 2, 1, 0] ∧ ∀ m, borrowE E6 31 [] m = some (x, m) := by
  obtain ⟨n, y, m', h1, x, h2, h3⟩ := f95.ex
  exact ⟨x, h3, fun m => borrowE_of rfl ⟨⟨n, y, m', h1, h2⟩⟩⟩
noncomputable def E7 : Env := E6.put 33 (borrowE E6 33)
theorem E7_ok : EnvOk Tryd.prog E7 := Env.put_ok E6_ok (borrowE_ok E6_ok (callable Tryd.func33 (by kernel_rfl)))
noncomputable def E8 : Env := E7.put 31 (borrowE E6 31)
theorem E8_ok : EnvOk Tryd.prog E8 := Env.put_ok E7_ok (borrowE_ok E6_ok (callable Tryd.func31 (by kernel_rfl)))
theorem okJ_fwd : okJ [0, 1, 2, 3, 4, 5] := ⟨by decide, by decide⟩
theorem okJ_bwd : okJ [5, 4, 3, 2, 1, 0] := ⟨by decide, by decide⟩
def rankF (rows : List (List Int)) : Nat := (frame rows [0, 1, 2, 3, 4, 5] 6).is.length
theorem f35 {l : AV} {rows : List (List Int)} (hl : RwL l rows) (hmax : rows.length < 9223372036854775807) : WF E8 (.func 39 [] []) [l] ⟨[], []⟩ fun y m' => y = .tuple [.int .i64 (if VM rows then (rankF rows : Int) else 0), .int .i64 (if VM rows then 0 else 1)] := by
  have c11 := fun m => s25 (m := m) hl hmax
  by_cases hv : VM rows
  · rw [if_pos hv, if_pos hv]
    rw [decide_eq_true hv] at c11
    obtain ⟨ov, hov, c32⟩ := s83
    obtain ⟨_, iv, jv, hiv, hjv, c31⟩ := s82 hl hv hov okJ_fwd (by decide)
    have hivl := hiv.len
    have hr : (frame rows [0, 1, 2, 3, 4, 5] ([0, 1, 2, 3, 4, 5] : List Nat).length).is.length = rankF rows := rfl
    rw [hr] at hivl
    refine WF.fnE rfl (fn_of Tryd.func39 cir39) (by show 1 ≤ 12; decide) ?_
    unfold ir39; dsimp only [k0, kI, mV, oO, oG]
    simp only [padTo, List.replicate, List.nil_append, List.append_nil]
    repeat' (first | (refine WO.opE (by intro; simp (disch := omega) only [go_sem, Nat.reduceAdd]; rfl) (by simp only [pt8, pt2, pt3, pt4, pt6, pt7]; rfl) ?_) | (refine WO.opE (by intro; exact ev_lenS (by simp only [go_sem]; first | rfl | assumption)) (by simp only [pt8, pt3]; rfl) ?_) | (refine WO.specE rfl rfl (c11 _) (by simp only [pt5]; rfl) ?_) | (refine WO.specE rfl rfl (c32 _) (by simp only [pt8, pt0]; rfl) ?_) | (refine WO.specE rfl rfl (c31 _) (by simp only [pt8, pt1]; rfl) ?_) | (refine WC.seq ?_) | (refine WC.region ?_) | (refine WO.nil ?_) | (simp only [fl1]) | (refine WC.no rfl ?_) | (refine WC.skip ?_) | (refine WC.ret ?_))
    exact ⟨_, rfl, rfl⟩
  · rw [if_neg hv, if_neg hv]
    rw [decide_eq_false hv] at c11
    refine WF.fnE rfl (fn_of Tryd.func39 cir39) (by show 1 ≤ 12; decide) ?_
    unfold ir39; dsimp only [k0, kI, mV, oO, oG]
    simp only [padTo, List.replicate, List.nil_append, List.append_nil]
    repeat' (first | (refine WO.opE (by intro; simp (disch := omega) only [go_sem]; rfl) (by simp only [pt2, pt3, pt4, pt6]; rfl) ?_) | (refine WO.specE rfl rfl (c11 _) (by simp only [pt5]; rfl) ?_) | (refine WC.seq ?_) | (refine WC.region ?_) | (refine WO.nil ?_) | (simp only [fl1, fl2]) | (refine WC.yes rfl ?_) | (refine WC.ret ?_))
    exact ⟨_, rfl, rfl⟩
noncomputable def E9 : Env := E8.put 39 (borrowE E8 39)
theorem E9_ok : EnvOk Tryd.prog E9 := Env.put_ok E8_ok (borrowE_ok E8_ok (callable Tryd.func39 (by kernel_rfl)))
end Go.Proofs.YtnilimjkibimcaaDoor

