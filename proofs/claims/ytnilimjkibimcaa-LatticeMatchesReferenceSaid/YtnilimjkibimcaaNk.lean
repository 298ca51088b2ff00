import Derived.Test.YtnilimjkibimcaaND
import Derived.Test.YtnilimjkibimcaaIrO

set_option linter.unusedSimpArgs false
set_option linter.unusedVariables false

namespace Go.Proofs.Ytnilimjkibimcaa
open Go.Zz
set_option maxRecDepth 100000
set_option maxHeartbeats 8000000
theorem newV_two {H : Hp} {v x : AV} {c : Int} (h : Zz.newA H v = some x) : newV H (.tuple [v, .int .i64 c]) = some (.tuple [x, .int .i64 c]) := by
 simp only [newV, newT, h]
 rfl
theorem GS.newA {sz : Nat} {H : Hp} {v : AV} {q : Nat} {c : List AV} (h : GS sz H v q c) : Zz.newA H v = Zz.resC H v := by
 rcases h with ⟨rfl, _⟩ | ⟨g, rfl, _⟩ | ⟨g, n, rfl, _⟩ <;> rfl
theorem intS_ne {a b : List Int} : (a = b) ↔ a.length = b.length ∧ ∀ i, i < a.length → a.getD i 0 = b.getD i 0 := ⟨fun h => by subst h; exact ⟨rfl, fun _ _ => rfl⟩, fun h => getD_ext h.1 h.2⟩
theorem f34 {x y : AV} {a b : List Int} (hx : IntS x a) (hy : IntS y b) (ha : a.length < 1000000) : WF E24 (.func 34 [] []) [x, y] ⟨[], []⟩ fun v m' => v = .bool (decide (a = b)) := by
 have hxl := hx.len
 have hyl := hy.len
 by_cases hl : a.length = b.length
 ·have hl1 : (a.length : Int) = (b.length : Int) := by omega
  refine WF.fnE rfl (fn_of Try.func34 cir34) (by show 2 ≤ 26; decide) ?_
  unfold ir34
  simp only [padTo, List.replicate, zNA, zAN]
  repeat' (first | (refine WO.opE (by intro; simp (disch := omega) only [go_sem, hl1]; rfl) (by simp only [pt8, pt0, pt2, pt4, pt5, pt6]; rfl) ?_) | (refine WO.opE (by intro; exact ev_lenS (by simp only [go_sem]; first | rfl | assumption)) (by simp only [pt8, pt1, pt7]; rfl) ?_) | (refine WC.seq ?_) | (refine WC.region ?_) | (refine WO.nil ?_) | (simp only [fl1]) | (refine WC.no rfl ?_) | (refine WC.skip ?_) | (refine WC.block ?_))
  refine WC.loopI (fun m s => ∃ T i, s = ⟨T, [], []⟩ ∧ T.length = 26 ∧ gt T 0 = x ∧ gt T 1 = y ∧ gt T 5 = .int .i64 (i : Nat) ∧ m + i = a.length ∧ ∀ t, t < i → a.getD t 0 = b.getD t 0) ?_ a.length _ ⟨_, 0, rfl, rfl, rfl, rfl, rfl, by omega, fun t ht => by omega⟩
  rintro m _ ⟨T, i, rfl, hT, g0, g1, g5, hm, hi⟩
  obtain ⟨f, rfl⟩ := ex26 hT
  clear hT
  replace g0 : f 0 = x := g0
  replace g1 : f 1 = y := g1
  replace g5 : f 5 = .int .i64 (i : Nat) := g5
  simp only [g0, g1, g5]
  by_cases hin : i < a.length
  ·have hat := hx.atI (i := (i : Int)) (by omega) (by omega)
   have hbt := hy.atI (i := (i : Int)) (by omega) (by omega)
   rw [toNat_cast] at hat hbt
   by_cases he : a.getD i 0 = b.getD i 0
   ·rw [← he] at hbt
    repeat' (first | (refine WO.opE (by intro; simp (disch := omega) only [go_sem, hat, hbt]; rfl) (by simp only [pt8, pt0, pt1, pt2, pt3, pt4, pt5, pt6, pt7]; rfl) ?_) | (refine WO.opE (by intro; exact ev_lenS (by simp only [go_sem]; first | rfl | assumption)) (by simp only [pt8, pt5]; rfl) ?_) | (refine WC.seq ?_) | (refine WC.region ?_) | (refine WO.nil ?_) | (simp only [fl1, fl10]) | (refine WC.calm rfl ?_) | (refine WC.no rfl ?_) | (refine WC.skip ?_) | (refine WC.block ?_) | (refine WC.em2 rfl (fun hp => ?_) (fun hp => ?_) <;> try (exfalso; first | omega | contradiction)))
    exact ⟨m - 1, by omega, _, i + 1, rfl, rfl, rfl, rfl, rfl, by omega, fun t ht => by
     by_cases e : t = i
     ·subst e; exact he
     ·exact hi t (by omega)⟩
   ·have hd : a ≠ b := fun h => he (by rw [h])
    repeat' (first | (refine WO.opE (by intro; simp (disch := omega) only [go_sem, hat, hbt]; rfl) (by simp only [pt8, pt0, pt1, pt2, pt3, pt4, pt5, pt6, pt7]; rfl) ?_) | (refine WO.opE (by intro; exact ev_lenS (by simp only [go_sem]; first | rfl | assumption)) (by simp only [pt8, pt5]; rfl) ?_) | (refine WC.seq ?_) | (refine WC.region ?_) | (refine WO.nil ?_) | (simp only [fl1, fl2, fl5, fl8]) | (refine WC.calm rfl ?_) | (refine WC.skip ?_) | (refine WC.ret ?_) | (refine WC.block ?_) | (refine WC.em2 rfl (fun hp => ?_) (fun hp => ?_) <;> try (exfalso; first | omega | contradiction)))
    exact ⟨_, rfl, by simp only [oneRes, gt4]; rw [decide_eq_false hd]⟩
  ·have hie : i = a.length := by omega
   subst hie
   repeat' (first | (refine WO.opE (by intro; simp (disch := omega) only [go_sem]; rfl) (by simp only [pt8, pt3, pt4, pt6]; rfl) ?_) | (refine WO.opE (by intro; exact ev_lenS (by simp only [go_sem]; first | rfl | assumption)) (by simp only [pt8, pt5]; rfl) ?_) | (refine WC.seq ?_) | (refine WC.region ?_) | (refine WO.nil ?_) | (simp only [fl1]) | (refine WC.exit ?_) | (refine WC.ret ?_) | (refine WC.em2 rfl (fun hp => ?_) (fun hp => ?_) <;> try (exfalso; first | omega | contradiction)))
   exact ⟨_, rfl, by simp only [oneRes, gt4]; rw [decide_eq_true (intS_ne.2 ⟨hl, hi⟩)]⟩
 ·have hd : a ≠ b := fun h => hl (by rw [h])
  refine WF.fnE rfl (fn_of Try.func34 cir34) (by show 2 ≤ 26; decide) ?_
  unfold ir34
  simp only [padTo, List.replicate, zNA, zAN]
  repeat' (first | (refine WO.opE (by intro; simp (disch := omega) only [go_sem]; rfl) (by simp only [pt8, pt0, pt2, pt4, pt6]; rfl) ?_) | (refine WO.opE (by intro; exact ev_lenS (by simp only [go_sem]; first | rfl | assumption)) (by simp only [pt8, pt1, pt7]; rfl) ?_) | (refine WC.seq ?_) | (refine WC.region ?_) | (refine WO.nil ?_) | (simp only [fl1, fl2]) | (refine WC.ret ?_) | (refine WC.em2 rfl (fun hp => ?_) (fun hp => ?_) <;> try (exfalso; first | omega | contradiction)))
  exact ⟨_, rfl, by simp only [oneRes, gt4]; rw [decide_eq_false hd]⟩
theorem cellsEq_int : ∀ {r r' : List Int}, r.length = r'.length → cellsEq (List.replicate r.length true) (r.map (.int .i64)) (r'.map (.int .i64)) = some (decide (r = r'))
 | [], [], _ => rfl
 | [], _ :: _, h => by simp at h
 | _ :: _, [], h => by simp at h
 | a :: r, b :: r', h => by
  have ih := cellsEq_int (r := r) (r' := r') (by simpa using h)
  simp only [List.map_cons, List.length_cons, List.replicate_succ, cellsEq, ih, cellEq, Option.map_some]
  by_cases e1 : a = b
  ·subst e1
   by_cases e2 : r = r'
   ·subst e2; simp
   ·simp [e2]
  ·simp [e1]
theorem f29 {x y : AV} {a b : List (List Int)} (hx : RwL x a) (hy : RwL y b) (ha : a.length < 1000000) : WF E24 (.func 29 [] []) [x, y] ⟨[], []⟩ fun v m' => v = .bool (decide (a = b)) := by
 have hxl := hx.len
 have hyl := hy.len
 by_cases hl : a.length = b.length
 ·have hl1 : (a.length : Int) = (b.length : Int) := by omega
  refine WF.fnE rfl (fn_of Try.func29 cir29) (by show 2 ≤ 26; decide) ?_
  unfold ir29
  simp only [padTo, List.replicate, zNA, zAN]
  repeat' (first | (refine WO.opE (by intro; simp (disch := omega) only [go_sem, hl1]; rfl) (by simp only [pt8, pt0, pt2, pt4, pt5, pt6]; rfl) ?_) | (refine WO.opE (by intro; exact ev_lenS (by simp only [go_sem]; first | rfl | assumption)) (by simp only [pt8, pt1, pt7]; rfl) ?_) | (refine WC.seq ?_) | (refine WC.region ?_) | (refine WO.nil ?_) | (simp only [fl1]) | (refine WC.no rfl ?_) | (refine WC.skip ?_) | (refine WC.block ?_))
  refine WC.loopI (fun m s => ∃ T i, s = ⟨T, [], []⟩ ∧ T.length = 26 ∧ gt T 0 = x ∧ gt T 1 = y ∧ gt T 5 = .int .i64 (i : Nat) ∧ m + i = a.length ∧ ∀ t, t < i → rw_ a t = rw_ b t) ?_ a.length _ ⟨_, 0, rfl, rfl, rfl, rfl, rfl, by omega, fun t ht => by omega⟩
  rintro m _ ⟨T, i, rfl, hT, g0, g1, g5, hm, hi⟩
  obtain ⟨f, rfl⟩ := ex26 hT
  clear hT
  replace g0 : f 0 = x := g0
  replace g1 : f 1 = y := g1
  replace g5 : f 5 = .int .i64 (i : Nat) := g5
  simp only [g0, g1, g5]
  by_cases hin : i < a.length
  ·have hat := hx.at hin
   have hbt := hy.at (show i < b.length by omega)
   have h6 := hx.six hin
   have h6' := hy.six (show i < b.length by omega)
   have hc1 := cut_row (t := tailr a i) h6
   have hc2 := cut_row (t := tailr b i) h6'
   have hce := cellsEq_int (r := rw_ a i) (r' := rw_ b i) (by omega)
   rw [h6] at hce
   have hce' : cellsEq [true, true, true, true, true, true] ((rw_ a i).map (.int .i64)) ((rw_ b i).map (.int .i64)) = some (decide (rw_ a i = rw_ b i)) := hce
   by_cases he : rw_ a i = rw_ b i
   ·rw [decide_eq_true he] at hce'
    repeat' (first | (refine WO.opE (by intro; simp (disch := omega) only [go_sem, hat, hbt, hc1, hc2, hce', Option.map_some, Bool.not_true]; rfl) (by simp only [pt8, pt0, pt1, pt2, pt3, pt4, pt5, pt6, pt7]; rfl) ?_) | (refine WO.opE (by intro; exact ev_lenS (by simp only [go_sem]; first | rfl | assumption)) (by simp only [pt8, pt5]; rfl) ?_) | (refine WC.seq ?_) | (refine WC.region ?_) | (refine WO.nil ?_) | (simp only [fl1, fl10]) | (refine WC.calm rfl ?_) | (refine WC.no rfl ?_) | (refine WC.skip ?_) | (refine WC.block ?_) | (refine WC.em2 rfl (fun hp => ?_) (fun hp => ?_) <;> try (exfalso; first | omega | contradiction)))
    exact ⟨m - 1, by omega, _, i + 1, rfl, rfl, rfl, rfl, rfl, by omega, fun t ht => by
     by_cases e : t = i
     ·subst e; exact he
     ·exact hi t (by omega)⟩
   ·rw [decide_eq_false he] at hce'
    have hd : a ≠ b := fun h => he (by rw [h])
    repeat' (first | (refine WO.opE (by intro; simp (disch := omega) only [go_sem, hat, hbt, hc1, hc2, hce', Option.map_some, Bool.not_false]; rfl) (by simp only [pt8, pt0, pt1, pt2, pt3, pt4, pt5, pt6, pt7]; rfl) ?_) | (refine WO.opE (by intro; exact ev_lenS (by simp only [go_sem]; first | rfl | assumption)) (by simp only [pt8, pt5]; rfl) ?_) | (refine WC.seq ?_) | (refine WC.region ?_) | (refine WO.nil ?_) | (simp only [fl1, fl2, fl5, fl8]) | (refine WC.calm rfl ?_) | (refine WC.yes rfl ?_) | (refine WC.skip ?_) | (refine WC.ret ?_) | (refine WC.block ?_) | (refine WC.em2 rfl (fun hp => ?_) (fun hp => ?_) <;> try (exfalso; first | omega | contradiction)))
    exact ⟨_, rfl, by simp only [oneRes, gt4]; rw [decide_eq_false hd]⟩
  ·have hie : i = a.length := by omega
   subst hie
   have hd : a = b := List.ext_getElem hl fun t h1 h2 => by have := hi t h1; rwa [rw_lt h1, rw_lt h2] at this
   repeat' (first | (refine WO.opE (by intro; simp (disch := omega) only [go_sem]; rfl) (by simp only [pt8, pt3, pt4, pt6]; rfl) ?_) | (refine WO.opE (by intro; exact ev_lenS (by simp only [go_sem]; first | rfl | assumption)) (by simp only [pt8, pt5]; rfl) ?_) | (refine WC.seq ?_) | (refine WC.region ?_) | (refine WO.nil ?_) | (simp only [fl1]) | (refine WC.exit ?_) | (refine WC.ret ?_) | (refine WC.em2 rfl (fun hp => ?_) (fun hp => ?_) <;> try (exfalso; first | omega | contradiction)))
   exact ⟨_, rfl, by simp only [oneRes, gt4]; rw [decide_eq_true hd]⟩
 ·have hd : a ≠ b := fun h => hl (by rw [h])
  refine WF.fnE rfl (fn_of Try.func29 cir29) (by show 2 ≤ 26; decide) ?_
  unfold ir29
  simp only [padTo, List.replicate, zNA, zAN]
  repeat' (first | (refine WO.opE (by intro; simp (disch := omega) only [go_sem]; rfl) (by simp only [pt8, pt0, pt2, pt4, pt6]; rfl) ?_) | (refine WO.opE (by intro; exact ev_lenS (by simp only [go_sem]; first | rfl | assumption)) (by simp only [pt8, pt1, pt7]; rfl) ?_) | (refine WC.seq ?_) | (refine WC.region ?_) | (refine WO.nil ?_) | (simp only [fl1, fl2]) | (refine WC.ret ?_) | (refine WC.em2 rfl (fun hp => ?_) (fun hp => ?_) <;> try (exfalso; first | omega | contradiction)))
  exact ⟨_, rfl, by simp only [oneRes, gt4]; rw [decide_eq_false hd]⟩
theorem x34 {x y x' y' : AV} {a b : List Int} (hx : IntS x a) (hy : IntS y b) (ha : a.length < 1000000) {m : Mem} (h0 : Zz.byVal m.heap x' = some x) (h1 : Zz.byVal m.heap y' = some y) : borrowX E24 34 [x', y'] m = some (.bool (decide (a = b)), m) :=
 borrowX_of (byVals_cons h0 (byVals_cons h1 rfl)) ((f34 hx hy ha).mono fun y m' h => by rw [h]; rfl)
theorem x29 {x y x' y' : AV} {a b : List (List Int)} (hx : RwL x a) (hy : RwL y b) (ha : a.length < 1000000) {m : Mem} (h0 : Zz.byVal m.heap x' = some x) (h1 : Zz.byVal m.heap y' = some y) : borrowX E24 29 [x', y'] m = some (.bool (decide (a = b)), m) :=
 borrowX_of (byVals_cons h0 (byVals_cons h1 rfl)) ((f29 hx hy ha).mono fun y m' h => by rw [h]; rfl)
theorem x26 {l l' : AV} {rows : List (List Int)} (hl : RwL l rows) (hmax : rows.length < 9223372036854775807) {m : Mem} (h0 : Zz.byVal m.heap l' = some l) : borrowX E2 26 [l'] m = some (.bool (decide (VM rows)), m) :=
 borrowX_of (byVals_cons h0 rfl) ((f26 hl hmax).mono fun y m' h => by rw [h]; rfl)
theorem gs_newR {H : Hp} {v : AV} {q : Nat} {rows : List (List Int)} (h : GS 6 H v q (flatR rows)) (h6 : ∀ r ∈ rows, r.length = 6) : ∃ x, RwL x rows ∧ Zz.newA H v = some x := by
 obtain ⟨x, e1, e2⟩ := GS.rows h h6
 refine ⟨x, e1, ?_⟩
 rw [← e2]
 rcases h with ⟨rfl, _⟩ | ⟨g, rfl, _⟩ | ⟨g, n, rfl, _⟩ <;> rfl
theorem gs_newI {H : Hp} {v : AV} {q : Nat} {l : List Int} (h : GS 1 H v q (icells l)) : ∃ x, IntS x l ∧ Zz.newA H v = some x := by
 obtain ⟨x, e1, e2⟩ := GS.ints h
 refine ⟨x, e1, ?_⟩
 rw [← e2]
 rcases h with ⟨rfl, _⟩ | ⟨g, rfl, _⟩ | ⟨g, n, rfl, _⟩ <;> rfl
theorem rows_x {E : Env} {g : Nat} {l : AV} {R : List (List Int)} {c : Int} (h6 : ∀ r ∈ R, r.length = 6) (h : WF E (.func g [] []) [l] ⟨[], []⟩ fun y m' => ∃ v q, y = .tuple [v, .int .i64 c] ∧ GS 6 m'.heap v q (flatR R)) : ∃ x, RwL x R ∧ ∀ m l', Zz.byVal m.heap l' = some l → borrowX E g [l'] m = some (.tuple [x, .int .i64 c], m) := by
 obtain ⟨n, y, m', h1, v, q, rfl, h2⟩ := h.ex
 obtain ⟨x, e1, e2⟩ := gs_newR h2 h6
 exact ⟨x, e1, fun m l' h0 => borrowX_of (byVals_cons h0 rfl) ⟨⟨n, _, m', h1, newV_two e2⟩⟩⟩
theorem nil_x {E : Env} {g : Nat} {l : AV} (h : WF E (.func g [] []) [l] ⟨[], []⟩ fun y m' => y = .tuple [.snil, .int .i64 1]) : ∀ m l', Zz.byVal m.heap l' = some l → borrowX E g [l'] m = some (.tuple [.snil, .int .i64 1], m) :=
 fun m l' h0 => borrowX_of (byVals_cons h0 rfl) (h.mono fun y m' h => by rw [h]; rfl)
theorem rwl_nil : RwL .snil [] := ⟨fun c hc => (by cases hc), .inl ⟨rfl, rfl⟩⟩
theorem x27 {l : AV} {rows : List (List Int)} (hl : RwL l rows) (hmax : rows.length < 9223372036854775807) : ∃ x, RwL x (hermR rows) ∧ ∀ m l', Zz.byVal m.heap l' = some l → borrowX E16 27 [l'] m = some (.tuple [x, .int .i64 (errC rows)], m) := by
 by_cases hv : VM rows
 ·unfold hermR errC
  rw [if_pos hv, if_pos hv]
  exact rows_x mapR_six (f27 hl hv)
 ·unfold hermR errC
  rw [if_neg hv, if_neg hv]
  refine ⟨.snil, rwl_nil, nil_x ?_⟩
  have c25 := fun m => s25 (m := m) hl hmax
  rw [decide_eq_false hv] at c25
  have hlc := hl.cells
  unfold AV.cells at hlc
  refine WF.fnE rfl (fn_of Try.func27 cir27) (by show 1 ≤ 107; decide) ?_
  unfold ir27
  simp only [padTo, List.replicate, zNA, zAN]
  repeat' (first | (refine WO.opE (by intro; simp (disch := omega) only [go_sem]; rfl) (by simp only [pt8, pt2, pt3, pt4]; rfl) ?_) | (refine WO.specE rfl rfl (c25 _) (by simp only [pt8, pt3]; rfl) ?_) | (refine WC.seq ?_) | (refine WC.region ?_) | (refine WO.nil ?_) | (simp only [fl1, fl2]) | (refine WC.yes rfl ?_) | (refine WC.ret ?_))
  exact ⟨_, rfl, rfl⟩
theorem x28 {l : AV} {rows : List (List Int)} (hl : RwL l rows) (hmax : rows.length < 9223372036854775807) : ∃ x, RwL x (hermRR rows) ∧ ∀ m l', Zz.byVal m.heap l' = some l → borrowX E17 28 [l'] m = some (.tuple [x, .int .i64 (errC rows)], m) := by
 by_cases hv : VM rows
 ·unfold hermRR errC
  rw [if_pos hv, if_pos hv]
  exact rows_x mapR_six (f28 hl hv)
 ·unfold hermRR errC
  rw [if_neg hv, if_neg hv]
  refine ⟨.snil, rwl_nil, nil_x ?_⟩
  have c26 := fun m => s26 (m := m) hl hmax
  rw [decide_eq_false hv] at c26
  have hlc := hl.cells
  unfold AV.cells at hlc
  refine WF.fnE rfl (fn_of Try.func28 cir28) (by show 1 ≤ 118; decide) ?_
  unfold ir28
  simp only [padTo, List.replicate, zNA, zAN]
  repeat' (first | (refine WO.opE (by intro; simp (disch := omega) only [go_sem]; rfl) (by simp only [pt8, pt2, pt3, pt4, pt5, pt6]; rfl) ?_) | (refine WO.specE rfl rfl (c26 _) (by simp only [pt8, pt4]; rfl) ?_) | (refine WC.seq ?_) | (refine WC.region ?_) | (refine WO.nil ?_) | (simp only [fl1, fl2]) | (refine WC.yes rfl ?_) | (refine WC.ret ?_))
  exact ⟨_, rfl, rfl⟩
noncomputable def E30 : Env := E24.put 25 (borrowX E1 25)
noncomputable def E31 : Env := E30.put 26 (borrowX E2 26)
noncomputable def E32 : Env := E31.put 27 (borrowX E16 27)
noncomputable def E33 : Env := E32.put 28 (borrowX E17 28)
noncomputable def E34 : Env := E33.put 29 (borrowX E24 29)
noncomputable def E35 : Env := E34.put 30 (borrowX E19 30)
noncomputable def E36 : Env := E35.put 31 (borrowX E21 31)
noncomputable def E37 : Env := E36.put 32 (borrowX E23 32)
noncomputable def E38 : Env := E37.put 34 (borrowX E24 34)
noncomputable def E39 : Env := E38.put 35 (borrowX E8 35)
noncomputable def E40 : Env := E39.put 36 (borrowX E12 36)
def lit (rows : List (List Int)) : AV := .sval true rows.length (flatR rows)
theorem lit_rw {rows : List (List Int)} (h : ∀ r ∈ rows, r.length = 6) : RwL (lit rows) rows := ⟨fun c hc => by
 obtain ⟨r, hr, rfl⟩ := List.mem_map.1 hc
 rw [icells_len]
 exact h r hr, .inr ⟨true, by rw [List.length_map]; rfl⟩⟩
theorem hd1 : hermR [[4,0,0,0,0,0],[6,0,0,0,0,0]] = [[2,0,0,0,0,0]] := by kernel_rfl
theorem hd2 : hermR [[12,19,28,0,0,0],[19,30,44,0,0,0]] = [[1,0,-4,0,0,0],[0,1,4,0,0,0]] := by kernel_rfl
theorem hv1 : VM [[-4,4,-1,0,0,0],[8,-8,2,0,0,0]] := by decide +kernel
theorem hv2 : ¬ VM [[1000000000,1,0,0,0,0]] := by decide +kernel
noncomputable def E41 : Env := E40.put 24 (borrowE E40 24)
end Go.Proofs.Ytnilimjkibimcaa

