import Derived.Test.YtnilimjkibimcaaDoorDTa
set_option linter.unusedSimpArgs false
set_option linter.unusedVariables false

namespace Go.Proofs.YtnilimjkibimcaaDoor
open Go.Zz
set_option maxRecDepth 100000
set_option maxHeartbeats 8000000
theorem s116 {r : List Int} (h6 : r.length = 6) {m : Mem} : borrowE T6 7 [.agg (icells r)] m = some (.tuple [.agg (icells (ofP r)), .int .i64 (if okB 48 r then 0 else 1)], m) :=
  borrowE_of (pures_cons (pureI r) rfl) ((f116 h6).mono fun y m' h => by
    rw [h]
    simp only [Zz.resV, Zz.resT, Zz.resA, resA_icells]
    rfl)
noncomputable def T16 : Env := T15.put 7 (borrowE T6 7)
theorem T16_ok : EnvOk Tryd.prog T16 := Env.put_ok T15_ok (borrowE_ok T6_ok (callable Tryd.func7 (by kernel_rfl)))
def pureR (rows gens : List (List Int)) (v : List Int) : Bool := decide (errTu rows gens v = 0 ∧ tunP rows gens v = mul12 v)
theorem tun_len {rows gens : List (List Int)} {v : List Int} : (tunP rows gens v).length = 6 := by
  unfold tunP
  split
  · simp [tuneF]
  · rfl
theorem err_ok {rows gens : List (List Int)} {v : List Int} (h : errTu rows gens v = 0) : tunOK rows gens v ∧ okB 576 (tuneF rows gens v) ∧ tunP rows gens v = tuneF rows gens v := by
  unfold errTu at h
  split at h
  · rename_i h1
    split at h
    · rename_i h2; exact ⟨h1, h2, if_pos ⟨h1, h2⟩⟩
    · cases h
  · cases h
theorem f59 {l gx : AV} {rows gens : List (List Int)} {v : List Int} (hl : RwL l rows) (hmax : rows.length < 9223372036854775807) (hgx : RwL gx gens) (hgm : gens.length < 9223372036854775807) (hv6 : v.length = 6) : WF T16 (.func 14 [] []) [.agg [l], gx, .agg (icells v)] ⟨[], []⟩ fun y m' => y = .tuple [.bool (pureR rows gens v), .int .i64 (errTu rows gens v)] := by
  have hlc := hl.cells
  unfold AV.cells at hlc
  have hmv : (icells v).length = 6 := by rw [icells_len, hv6]
  have hcv := icells_cut hv6
  have c57 := fun m => x57 (m := m) hl hmax hgx hgm hv6 (hl.byC _) (hgx.byVal _)
  have h6 : (tunP rows gens v).length = 6 := tun_len
  have hov := fun x0 x1 x2 x3 x4 x5 => icells_over6 h6 (x0 := x0) (x1 := x1) (x2 := x2) (x3 := x3) (x4 := x4) (x5 := x5)
  have hml : (icells (tunP rows gens v)).length = 6 := by rw [icells_len, h6]
  have hcut0 := icells_cut h6
  have c116 := fun m => s116 (m := m) hv6
  by_cases he : errTu rows gens v = 0
  · obtain ⟨hok, _, _⟩ := err_ok he
    rw [he] at c57 ⊢
    rw [if_pos hok.2.2.1] at c116
    have eo : ofP v = mul12 v := if_pos hok.2.2.1
    rw [eo] at c116
    have g6 : (mul12 v).length = 6 := by simp [mul12, hv6]
    have gov := fun x0 x1 x2 x3 x4 x5 => icells_over6 g6 (x0 := x0) (x1 := x1) (x2 := x2) (x3 := x3) (x4 := x4) (x5 := x5)
    have gml : (icells (mul12 v)).length = 6 := by rw [icells_len, g6]
    have gcut0 := icells_cut g6
    have hce := cellsEq_int (r := tunP rows gens v) (r' := mul12 v) (by omega)
    rw [h6] at hce
    have hce' : cellsEq [true, true, true, true, true, true] (icells (tunP rows gens v)) (icells (mul12 v)) = some (decide (tunP rows gens v = mul12 v)) := hce
    have hp : pureR rows gens v = decide (tunP rows gens v = mul12 v) := by
      unfold pureR
      rw [decide_eq_decide]
      exact ⟨fun h => h.2, fun h => ⟨he, h⟩⟩
    rw [hp]
    refine WF.fnE rfl (fn_of Tryd.func14 cir14) (by show 3 ≤ 34; decide) ?_
    unfold ir14; dsimp only [k0, kI, mV, oO, oG]
    simp only [padTo, List.replicate, List.nil_append, List.append_nil]
    repeat' (first | (refine WO.yes rfl ?_) | (refine WO.opE (by intro; simp (disch := omega) only [go_sem, Zz.look, List.cons_append, List.nil_append, Nat.reduceAdd, hcv, hcut0, gcut0, hce', Option.map_some]; rfl) (by simp only [pt8, pt0, pt1, pt2, pt3, pt4, pt5, pt6, pt7]; rfl) ?_) | (refine WO.opN (by intro; simp (disch := omega) only [go_sem, Zz.look, Option.bind_eq_bind, hov, hml, gov, gml, Option.map_some, setBlk, List.set_cons_zero, List.set_cons_succ]; rfl) ?_) | (refine WO.specE rfl rfl (c57 _) (by simp only [pt8, pt7]; rfl) ?_) | (refine WO.specE rfl rfl (c116 _) (by simp only [pt8, pt7]; rfl) ?_) | (refine WC.seq ?_) | (refine WC.region ?_) | (refine WO.nil ?_) | (simp only [fl1]) | (refine WC.no rfl ?_) | (refine WC.skip ?_) | (refine WC.ret ?_))
    exact ⟨_, rfl, rfl⟩
  · have hp : pureR rows gens v = false := decide_eq_false fun h => he h.1
    rw [hp]
    generalize errTu rows gens v = er at *
    refine WF.fnE rfl (fn_of Tryd.func14 cir14) (by show 3 ≤ 34; decide) ?_
    unfold ir14; dsimp only [k0, kI, mV, oO, oG]
    simp only [padTo, List.replicate, List.nil_append, List.append_nil]
    repeat' (first | (refine WO.opE (by intro; simp (disch := omega) only [go_sem, Zz.look, List.cons_append, List.nil_append, Nat.reduceAdd, hcv]; rfl) (by simp only [pt8, pt0, pt1, pt2, pt3, pt4, pt5, pt6, pt7]; rfl) ?_) | (refine WO.opN (by intro; simp (disch := omega) only [go_sem, Zz.look, Option.bind_eq_bind, hov, hml, setBlk, List.set_cons_zero, List.set_cons_succ]; rfl) ?_) | (refine WO.specE rfl rfl (c57 _) (by simp only [pt8, pt7]; rfl) ?_) | (refine WC.seq ?_) | (refine WC.region ?_) | (refine WO.nil ?_) | (simp only [fl1, fl2]) | (refine WC.ret ?_) | (refine WC.em2 rfl (fun hp => ?_) (fun hp => ?_) <;> try (exfalso; first | omega | contradiction)))
    exact ⟨_, rfl, rfl⟩
theorem x59 {l l' gx gx' : AV} {rows gens : List (List Int)} {v : List Int} (hl : RwL l rows) (hmax : rows.length < 9223372036854775807) (hgx : RwL gx gens) (hgm : gens.length < 9223372036854775807) (hv6 : v.length = 6) {m : Mem} (h0 : Zz.byC m.heap l' = some l) (h1 : Zz.byVal m.heap gx' = some gx) :
    borrowX T16 14 [.agg [l'], gx', .agg (icells v)] m = some (.tuple [.bool (pureR rows gens v), .int .i64 (errTu rows gens v)], m) :=
  borrowX_of (byVals_cons (byMap h0) (byVals_cons h1 (byVals_cons (byI _ _) rfl))) ((f59 hl hmax hgx hgm hv6).mono fun y m' h => by rw [h]; rfl)
noncomputable def T17 : Env := T16.put 14 (borrowX T16 14)
theorem T17_ok : EnvOk Tryd.prog T17 := Env.put_ok T16_ok (borrowX_ok T16_ok (callable Tryd.func14 (by kernel_rfl)))
def fromC (rows : List (List Int)) : Prop := VM rows ∧ ∀ i, i < rows.length → okB 48 (rw_ rows i)
instance (rows : List (List Int)) : Decidable (fromC rows) := by unfold fromC; infer_instance
def fromR (rows : List (List Int)) : List (List Int) := if fromC rows ∧ VT (kerF rows) then kerF rows else []
def errF (rows : List (List Int)) : Int := if fromC rows then (if (kerF rows).length = 0 ∨ (kerF rows).length > 3 then 4 else if VT (kerF rows) then 0 else 3) else 1
theorem gs_byC {sz : Nat} {H : Hp} {v : AV} {q : Nat} {c : List AV} (h : GS sz H v q c) : Zz.byC H v = Zz.resC H v := by
  rcases h with ⟨rfl, _⟩ | ⟨g, rfl, _⟩ | ⟨g, n, rfl, _⟩ <;> rfl
theorem gs_set {sz : Nat} {H : Hp} {v : AV} {q b : Nat} {c : List AV} {x : Option Blk} (h : GS sz H v q c) (hb : b ≠ q) : GS sz (H.set b x) v q c := by
  have hk : ∀ g, Zz.look (H.set b x) q g = Zz.look H q g := fun g => look_of_get (List.getElem?_set_ne hb)
  rcases h with h | ⟨g, h1, h2, h3⟩ | ⟨g, n, h1, h2, h3, h4⟩
  · exact .inl h
  · exact .inr (.inl ⟨g, h1, h2, (hk g).trans h3⟩)
  · exact .inr (.inr ⟨g, n, h1, h2, h3, (hk g).trans h4⟩)
theorem gs_cells {sz : Nat} {H : Hp} {v : AV} {q : Nat} {c : List AV} (h : GS sz H v q c) : v.cells = some [v] := by
  rcases h with ⟨rfl, _⟩ | ⟨g, rfl, _⟩ | ⟨g, n, rfl, _⟩ <;> rfl
theorem newM {H : Hp} {v x : AV} {c : Int} (h : Zz.newC H v = some x) : newV H (.tuple [.agg [v], .int .i64 c]) = some (.tuple [.agg [x], .int .i64 c]) := by
  refine newV_two ?_
  simp only [Zz.newA, Zz.newL, h]
theorem gs_newC {H : Hp} {v : AV} {q : Nat} {rows : List (List Int)} (h : GS 6 H v q (flatR rows)) (h6 : ∀ r ∈ rows, r.length = 6) {x : AV} (hx : Zz.resC H v = some x) : Zz.newC H v = some x := by
  rw [← hx]
  rcases h with ⟨rfl, _⟩ | ⟨g, rfl, _⟩ | ⟨g, n, rfl, _⟩ <;> rfl
theorem gs_res {sz : Nat} {H H' : Hp} {v : AV} {q : Nat} {c : List AV} (h : GS sz H v q c) (h' : GS sz H' v q c) : Zz.resC H v = Zz.resC H' v := by
  rcases h with ⟨rfl, _⟩ | ⟨g, rfl, rfl, hk⟩ | ⟨g, n, rfl, h1, h2, hk⟩
  · rfl
  · rcases h' with ⟨h, _⟩ | ⟨g', h, _, hk'⟩ | ⟨g', n', h, _, _, _⟩
    · cases h
    · cases h; simp only [Zz.resC, hk, hk']
    · cases h
  · rcases h' with ⟨h, _⟩ | ⟨g', h, _, hk'⟩ | ⟨g', n', h, _, _, hk'⟩
    · cases h
    · cases h
    · cases h; simp only [Zz.resC, hk, hk']
theorem cut1 {x : AV} : Zz.cut [x] 0 1 = some [x] := rfl
theorem x55 {l : AV} {rows : List (List Int)} (hl : RwL l rows) (hmax : rows.length < 9223372036854775807) : ∃ x, RwL x (fromR rows) ∧ ∀ m l', Zz.byVal m.heap l' = some l → borrowX T17 12 [l'] m = some (.tuple [.agg [x], .int .i64 (errF rows)], m) := by
  have hll := hl.len
  have hlc := hl.cells
  unfold AV.cells at hlc
  have h6r : Six rows := fun i hi => hl.six hi
  have c25 := fun m => x25 (m := m) (l' := l) hl hmax (hl.byVal _)
  suffices h : ∃ x, RwL x (fromR rows) ∧ WF T17 (.func 12 [] []) [l] ⟨[], []⟩ fun y m' => newV m'.heap y = some (.tuple [.agg [x], .int .i64 (errF rows)]) by
    obtain ⟨x, hx, hw⟩ := h
    exact ⟨x, hx, fun m l' h0 => borrowX_of (byVals_cons h0 rfl) hw⟩
  by_cases hv : VM rows
  · rw [decide_eq_true hv] at c25
    have hk0 : Zz.look ([some ⟨0, [.snil]⟩] : Hp) 0 0 = some [.snil] := rfl
    have e3 : kernR rows = kerF rows := if_pos hv
    have e4 : errC rows = 0 := if_pos hv
    have hK6 : ∀ r ∈ kerF rows, r.length = 6 := (ker_lat hv h6r).six
    obtain ⟨x, hx, hB⟩ := r30 hl hmax
    rw [e3] at hx
    have hkl : (kerF rows).length < 1000000 := by have h1 := (ker_lat hv h6r).len; have h2 := free_all (bwd_B hv h6r).j; omega
    have c45 := fun (m : Mem) (v' : AV) (h : Zz.byC m.heap v' = some x) => x45 (m := m) hx (by omega) h
    refine ⟨if fromC rows ∧ VT (kerF rows) then x else .snil, by unfold fromR; split; exact hx; exact rwl_nil, ?_⟩
    refine WF.fnE rfl (fn_of Tryd.func12 cir12) (by show 1 ≤ 52; decide) ?_
    unfold ir12; dsimp only [k0, kI, mV, oO, oG]
    simp only [padTo, List.replicate, List.nil_append, List.append_nil]
    repeat' (first | (refine WO.opE (by intro; simp (disch := omega) only [go_sem]; rfl) (by simp only [pt8, pt1, pt2, pt3, pt5, pt7]; rfl) ?_) | (refine WO.opE (by intro; exact ev_lenS (by simp only [go_sem]; first | rfl | assumption)) (by simp only [pt8, pt6]; rfl) ?_) | (refine WO.specE rfl rfl (c25 _) (by simp only [pt8, pt2]; rfl) ?_) | (refine WC.seq ?_) | (refine WC.region ?_) | (refine WO.nil ?_) | (simp only [fl1]) | (refine WC.no rfl ?_) | (refine WC.skip ?_) | (refine WC.block ?_))
    refine WC.loopI (fun m s => ∃ T G i, s = ⟨T, G, []⟩ ∧ T.length = 52 ∧ gt T 0 = l ∧ gt T 2 = .pref 0 0 0 ∧ gt T 13 = l ∧ gt T 14 = .int .i64 (rows.length : Nat) ∧ gt T 15 = .int .i64 (i : Nat) ∧ m + i = rows.length ∧ Zz.look G 0 0 = some [.snil] ∧ ∀ t, t < i → okB 48 (rw_ rows t)) ?_ rows.length _ ⟨_, _, 0, rfl, rfl, rfl, rfl, rfl, rfl, rfl, by omega, hk0, fun t ht => by omega⟩
    rintro m _ ⟨T, G, i, rfl, hT, g0, g2, g13, g14, g15, hm, k0, hz⟩
    obtain ⟨f, rfl⟩ := ex52 hT
    clear hT
    replace g0 : f 0 = l := g0
    replace g2 : f 2 = .pref 0 0 0 := g2
    replace g13 : f 13 = l := g13
    replace g14 : f 14 = .int .i64 (rows.length : Nat) := g14
    replace g15 : f 15 = .int .i64 (i : Nat) := g15
    simp only [g0, g2, g13, g14, g15]
    have l0 := look_lt k0
    by_cases hi : i < rows.length
    · have h6 := hl.six hi
      have hat := hl.at hi
      have hcut := cut_row (t := tailr rows i) h6
      have hcr : (rw_ rows i).map (AV.int .i64) = icells (rw_ rows i) := rfl
      rw [hcr] at hat hcut
      have c61 := fun m => s61 (m := m) h6
      have hov := fun x0 x1 x2 x3 x4 x5 => icells_over6 h6 (x0 := x0) (x1 := x1) (x2 := x2) (x3 := x3) (x4 := x4) (x5 := x5)
      have hml : (icells (rw_ rows i)).length = 6 := by rw [icells_len, h6]
      have hcut0 := icells_cut h6
      have kk : Zz.look (G ++ [some ⟨0, icells (rw_ rows i)⟩]) 0 0 = some [.snil] := (look_left l0).trans k0
      by_cases hg : okB 48 (rw_ rows i)
      · rw [decide_eq_true hg] at c61
        repeat' (first | (refine WO.opE (by intro; simp (disch := omega) only [go_sem, hat, hcut, hcut0, lk0]; rfl) (by simp only [pt8, pt0, pt1, pt2, pt3, pt5, pt7]; rfl) ?_) | (refine WO.opN (by intro; simp (disch := omega) only [go_sem, Option.bind_eq_bind, app_s0, hov, hml, lk0]; rfl) ?_) | (refine WO.specE rfl rfl (c61 _) (by simp only [pt8, pt4]; rfl) ?_) | (refine WC.seq ?_) | (refine WC.region ?_) | (refine WO.nil ?_) | (simp only [fl1, fl10]) | (refine WC.no rfl ?_) | (refine WC.skip ?_) | (refine WC.block ?_) | (refine WC.em2 rfl (fun hp => ?_) (fun hp => ?_) <;> try (exfalso; first | omega | contradiction)))
        exact ⟨m - 1, by omega, _, _, i + 1, rfl, rfl, rfl, rfl, rfl, rfl, rfl, by omega, kk, fun t ht => by
          by_cases e : t = i
          · rw [e]; exact hg
          · exact hz t (by omega)⟩
      · rw [decide_eq_false hg] at c61
        have hno : ¬ fromC rows := fun h => hg (h.2 i hi)
        rw [if_neg fun h => hno h.1, show errF rows = 1 from if_neg hno]
        have hres : Zz.look (((G ++ [some ⟨0, icells (rw_ rows i)⟩]) : Hp).set 0 (some ⟨0, [.snil]⟩)) 0 0 = some [.snil] := look_set (by simp)
        repeat' (first | (refine WO.opE (by intro; simp (disch := omega) only [go_sem, fillP, hat, hcut, hcut0, lk0]; rfl) (by simp only [pt8, pt0, pt1, pt2, pt3, pt5, pt6]; rfl) ?_) | (refine WO.opN (by intro; simp (disch := omega) only [go_sem, Option.bind_eq_bind, app_s0, ov_one0, hov, hml, lk0, kk, setBlk]; rfl) ?_) | (refine WO.specE rfl rfl (c61 _) (by simp only [pt8, pt4]; rfl) ?_) | (refine WC.seq ?_) | (refine WC.region ?_) | (refine WO.nil ?_) | (simp only [fl1, fl2, fl5, fl8]) | (refine WC.yes rfl ?_) | (refine WC.skip ?_) | (refine WC.ret ?_) | (refine WC.block ?_) | (refine WC.em2 rfl (fun hp => ?_) (fun hp => ?_) <;> try (exfalso; first | omega | contradiction)))
        exact ⟨_, by simp only [evRes, gt2, gt3, loadCs, hres, cut1, if_true, Option.bind_some, Option.map_some]; rfl, rfl⟩
    · have hie : i = rows.length := by omega
      subst hie
      have hc : fromC rows := ⟨hv, hz⟩
      obtain ⟨new, v', c30, g30, hrx⟩ := hB G []
      have c30 := c30 l (hl.byVal _)
      rw [e3] at g30
      rw [e4] at c30
      repeat' (first | (refine WO.opE (by intro; simp (disch := omega) only [go_sem]; rfl) (by simp only [pt8, pt0, pt1]; rfl) ?_) | (refine WC.seq ?_) | (refine WC.region ?_) | (refine WO.nil ?_) | (simp only [fl1]) | (refine WC.exit ?_) | (refine WC.em2 rfl (fun hp => ?_) (fun hp => ?_) <;> try (exfalso; first | omega | contradiction)))
      refine WO.specE rfl rfl c30 (by simp only [pt8, pt2]; rfl) ?_
      have k0' : Zz.look (G ++ new) 0 0 = some [.snil] := (look_left l0).trans k0
      have hG0 : 0 < G.length := l0
      generalize hqe : G.length = q0 at *
      generalize (G ++ new : Hp) = G2 at *
      have l02 := look_lt k0'
      have hvc := gs_cells g30
      unfold AV.cells at hvc
      have hgl : slen v' = some (kerF rows).length := by
        rw [GS.len g30 (by decide), flatR_len hK6, Nat.mul_div_cancel _ (by decide)]
      have hlk : Zz.look (G2 ++ [some ⟨0, [v']⟩]) 0 0 = some [.snil] := (look_left l02).trans k0'
      have hby : Zz.byC (G2 ++ [some ⟨0, [v']⟩]) v' = some x := (gs_byC (g30.more _)).trans ((gs_res (g30.more _) g30).trans hrx)
      have hres : ∀ y, Zz.look ((G2 ++ [some ⟨0, [v']⟩] : Hp).set 0 (some ⟨0, [y]⟩)) 0 0 = some [y] := fun y => look_set (by simp)
      have hres2 : ∀ y, Zz.look ((G2 : Hp).set 0 (some ⟨0, [y]⟩)) 0 0 = some [y] := fun y => look_set l02
      by_cases hok : VT (kerF rows)
      · have h13 := hok.1
        have e2 : errF rows = 0 := by unfold errF; rw [if_pos hc, if_neg (by omega), if_pos hok]
        rw [decide_eq_true hok] at c45
        rw [if_pos ⟨hc, hok⟩, e2]
        repeat' (first | (refine WO.yes rfl ?_) | (refine WO.opE (by intro; simp (disch := omega) only [go_sem, fillP, Option.bind_eq_bind, ov_one0, hvc, lk0, cut1]; rfl) (by simp only [pt8, pt0, pt1, pt2, pt3, pt4, pt5, pt6, pt7]; rfl) ?_) | (refine WO.opN (by intro; simp (disch := omega) only [go_sem, Option.bind_eq_bind, app_s0, ov_one0, hlk, lk0, setBlk]; rfl) ?_) | (refine WO.opE (by intro; exact ev_lenS (by simp only [go_sem]; first | rfl | assumption)) (by simp only [pt8, pt3, pt7]; rfl) ?_) | (refine WO.specE rfl rfl (c45 _ _ hby) (by simp only [pt8, pt1]; rfl) ?_) | (refine WC.seq ?_) | (refine WC.region ?_) | (refine WO.nil ?_) | (simp only [fl1, fl5]) | (refine WC.no rfl ?_) | (refine WC.ret ?_) | (refine WC.block ?_) | (refine WO.em2 rfl (by intro hp; simp only [hp, decide_true]; rfl) (by intro hp; simp only [hp, decide_false]; rfl) (fun hp => ?_) (fun hp => ?_) <;> try (exfalso; first | omega | contradiction)) | (refine WC.em2 rfl (fun hp => ?_) (fun hp => ?_) <;> try (exfalso; first | omega | contradiction)))
        have hgs := gs_set (b := 0) (x := some ⟨0, [v']⟩) (g30.more [some ⟨0, [v']⟩]) (show 0 ≠ q0 by omega)
        have hfin := newM (c := 0) (gs_newC hgs hK6 ((gs_res hgs g30).trans hrx))
        refine ⟨_, by simp only [evRes, gt2, gt3, loadCs, hres, cut1, if_true, Option.bind_some, Option.map_some]; rfl, ?_⟩
        exact hfin
      · rw [decide_eq_false hok] at c45
        rw [if_neg fun h => hok h.2]
        by_cases h13 : (kerF rows).length = 0 ∨ (kerF rows).length > 3
        · rw [show errF rows = 4 by unfold errF; rw [if_pos hc, if_pos h13]]
          repeat' (first | (refine WO.yes rfl ?_) | (refine WO.noE rfl (by simp only [pt8, pt2, pt3, pt4]; rfl) ?_) | (refine WO.opE (by intro; simp (disch := omega) only [go_sem, fillP, Option.bind_eq_bind, ov_one0, hvc]; rfl) (by simp only [pt8, pt0, pt1, pt2, pt3, pt4, pt5, pt6, pt7]; rfl) ?_) | (refine WO.opN (by intro; simp (disch := omega) only [go_sem, Option.bind_eq_bind, app_s0, ov_one0, hlk, lk0, setBlk]; rfl) ?_) | (refine WO.opE (by intro; exact ev_lenS (by simp only [go_sem]; first | rfl | assumption)) (by simp only [pt8, pt3, pt7]; rfl) ?_) | (refine WC.seq ?_) | (refine WC.region ?_) | (refine WO.nil ?_) | (simp only [fl1, fl5]) | (refine WC.yes rfl ?_) | (refine WC.no rfl ?_) | (refine WC.ret ?_) | (refine WC.block ?_) | (refine WO.em2 rfl (by intro hp; simp only [hp, decide_true]; rfl) (by intro hp; simp only [hp, decide_false]; rfl) (fun hp => ?_) (fun hp => ?_) <;> try (exfalso; first | omega | contradiction)) | (refine WC.em2 rfl (fun hp => ?_) (fun hp => ?_) <;> try (exfalso; first | omega | contradiction)))
          all_goals exact ⟨_, by simp only [evRes, gt2, gt3, loadCs, hres, cut1, if_true, Option.bind_some, Option.map_some]; rfl, rfl⟩
        · rw [show errF rows = 3 by unfold errF; rw [if_pos hc, if_neg h13, if_neg hok]]
          repeat' (first | (refine WO.yes rfl ?_) | (refine WO.opE (by intro; simp (disch := omega) only [go_sem, fillP, Option.bind_eq_bind, ov_one0, hvc, lk0, cut1]; rfl) (by simp only [pt8, pt0, pt1, pt2, pt3, pt4, pt5, pt6, pt7]; rfl) ?_) | (refine WO.opN (by intro; simp (disch := omega) only [go_sem, Option.bind_eq_bind, app_s0, ov_one0, hlk, lk0, setBlk]; rfl) ?_) | (refine WO.opE (by intro; exact ev_lenS (by simp only [go_sem]; first | rfl | assumption)) (by simp only [pt8, pt3, pt7]; rfl) ?_) | (refine WO.specE rfl rfl (c45 _ _ hby) (by simp only [pt8, pt1]; rfl) ?_) | (refine WC.seq ?_) | (refine WC.region ?_) | (refine WO.nil ?_) | (simp only [fl1, fl5]) | (refine WC.yes rfl ?_) | (refine WC.no rfl ?_) | (refine WC.ret ?_) | (refine WC.block ?_) | (refine WO.em2 rfl (by intro hp; simp only [hp, decide_true]; rfl) (by intro hp; simp only [hp, decide_false]; rfl) (fun hp => ?_) (fun hp => ?_) <;> try (exfalso; first | omega | contradiction)) | (refine WC.em2 rfl (fun hp => ?_) (fun hp => ?_) <;> try (exfalso; first | omega | contradiction)))
          exact ⟨_, by simp only [evRes, gt2, gt3, loadCs, hres, cut1, if_true, Option.bind_some, Option.map_some]; rfl, rfl⟩
  · rw [decide_eq_false hv] at c25
    have hno : ¬ fromC rows := fun h => hv h.1
    rw [show fromR rows = [] from if_neg fun h => hno h.1, show errF rows = 1 from if_neg hno]
    refine ⟨.snil, rwl_nil, ?_⟩
    refine WF.fnE rfl (fn_of Tryd.func12 cir12) (by show 1 ≤ 52; decide) ?_
    unfold ir12; dsimp only [k0, kI, mV, oO, oG]
    simp only [padTo, List.replicate, List.nil_append, List.append_nil]
    repeat' (first | (refine WO.opE (by intro; simp (disch := omega) only [go_sem, fillP]; rfl) (by simp only [pt8, pt1, pt2, pt3, pt4]; rfl) ?_) | (refine WO.opN (by intro; simp (disch := omega) only [go_sem, Zz.look, Zz.over, Option.bind_eq_bind, Nat.reduceLeDiff, setBlk, List.set_cons_zero]; rfl) ?_) | (refine WO.specE rfl rfl (c25 _) (by simp only [pt8, pt2]; rfl) ?_) | (refine WC.seq ?_) | (refine WC.region ?_) | (refine WO.nil ?_) | (simp only [fl1, fl2]) | (refine WC.yes rfl ?_) | (refine WC.ret ?_))
    exact ⟨_, rfl, rfl⟩
noncomputable def T18 : Env := T17.put 12 (borrowX T17 12)
theorem T18_ok : EnvOk Tryd.prog T18 := Env.put_ok T17_ok (borrowX_ok T17_ok (callable Tryd.func12 (by kernel_rfl)))
theorem r108 {m : Mem} : borrowR T18 9 [] m = some (.tuple [.agg [.sref m.heap.length 0 0 6 2 (some 2)], .sref (m.heap.length + 1) 0 0 6 2 (some 2)], ⟨m.heap ++ [some ⟨0, flatR [[1,0,-4,0,0,0],[0,1,4,0,0,0]]⟩, some ⟨0, flatR [[12,0,0,0,0,0],[12,0,3,0,0,0]]⟩], m.loops⟩) := by
  have hw : WF T18 (.func 9 [] []) [] ⟨[], []⟩ fun y m' => ∃ a b, y = .tuple [.agg [.sref a 0 0 6 2 (some 2)], .sref b 0 0 6 2 (some 2)] ∧ a ≠ b ∧ Zz.look m'.heap a 0 = some (flatR [[1,0,-4,0,0,0],[0,1,4,0,0,0]]) ∧ Zz.look m'.heap b 0 = some (flatR [[12,0,0,0,0,0],[12,0,3,0,0,0]]) := by
    refine WF.fnE rfl (fn_of Tryd.func9 cir9) (by show 0 ≤ 9; decide) ?_
    unfold ir9; dsimp only [k0, kI, mV, oO, oG]
    simp only [padTo, List.replicate, List.append_nil]
    repeat' (first | (refine WO.opE (by intro; simp (disch := omega) only [go_sem, Zz.over, fillP, Option.bind_eq_bind, List.append_assoc, zeros, Nat.reduceAdd, Nat.reduceLeDiff, Int.reduceNeg, Int.reduceAdd]; rfl) (by simp only [pt8, pt0, pt1, pt2, pt3, pt4, pt5, pt6, pt7]; rfl) ?_) | (refine WO.opN (by intro; simp (disch := omega) only [go_sem, Zz.look, Zz.over, Option.bind_eq_bind, Nat.reduceLeDiff, Int.reduceNeg, setBlk, List.set_cons_zero]; rfl) ?_) | (refine WC.seq ?_) | (refine WC.region ?_) | (refine WO.nil ?_) | (simp only [fl1]) | (refine WC.ret ?_))
    exact ⟨_, rfl, _, _, rfl, by decide, rfl, rfl⟩
  refine borrowR_of rfl (hw.mono ?_)
  rintro y m' ⟨a, b, rfl, hab, h1, h2⟩
  have b1 := look_eq_iff.1 h1
  have b2 := look_eq_iff.1 h2
  have f1 : (flatR [[1,0,-4,0,0,0],[0,1,4,0,0,0]]).all flatAV = true := rfl
  have f2 : (flatR [[12,0,0,0,0,0],[12,0,3,0,0,0]]).all flatAV = true := rfl
  refine ⟨[some ⟨0, flatR [[1,0,-4,0,0,0],[0,1,4,0,0,0]]⟩, some ⟨0, flatR [[12,0,0,0,0,0],[12,0,3,0,0,0]]⟩], _, ?_, ?_, rfl⟩
  · simp [refs, refsT, refsA, refsL, refsC, uniq, Ne.symm hab, takeBlks, b1, b2, f1, f2]
  · simp [refs, refsT, refsA, refsL, refsC, uniq, hab, Ne.symm hab, renV, renT, renA, renL, renC, findIdx, h1, h2]
noncomputable def T19 : Env := T18.put 9 (borrowR T18 9)
theorem T19_ok : EnvOk Tryd.prog T19 := Env.put_ok T18_ok (borrowR_ok T18_ok (callable Tryd.func9 (by kernel_rfl)))
end Go.Proofs.YtnilimjkibimcaaDoor

