import Derived.Test.YtnilimjkibimcaaPb
import Derived.Test.YtnilimjkibimcaaPg
import Derived.Test.YtnilimjkibimcaaQh
set_option linter.unusedSimpArgs false
set_option linter.unusedVariables false

namespace Go.Proofs.Ytnilimjkibimcaa
open Go.Zz
set_option maxRecDepth 100000
set_option maxHeartbeats 8000000
theorem sub_1 {rows : List (List Int)} (hv : VM rows) (h6 : Six rows) {k : Nat} {is js : List Nat} (hi : is ∈ subs rows.length k) (hj : js ∈ subs 6 k) : okI rows is ∧ okW rows 1 js ∧ okP rows 1 is ∧ -1000000000 ≤ minorF (ent rows) is js ∧ minorF (ent rows) is js ≤ 1000000000 := minor_1 hv h6 (subs_mem.1 hi).1 (subs_mem.1 hj).1
theorem s40 {l : AV} {rows : List (List Int)} {k : Nat} (hl : RwL l rows) (hv : VM rows) (hk : k ≤ 6) {m : Mem} : borrowE C2 40 [l, .int .i64 (k : Nat)] m = some (.int .u64 (divRK rows k : Nat), m) := by
  have h6 : Six rows := fun i hi => hl.six hi
  refine borrowE_of (pures_cons hl.pureA rfl) ((f40 hl hv.1 (by omega) (fun is js hi hj m iv jv iv' jv' n1 n2 b1 b2 => ?_) fun is js hi hj => ?_).mono fun y m' h => by rw [h]; rfl)
  · obtain ⟨a1, a2, a3, _⟩ := sub_1 hv h6 hi hj
    have l1 := (subs_mem.1 hi).2
    have l2 := (subs_mem.1 hj).2
    exact s89 hl n1 n2 a1 (by decide) a2 a3 hv.2.1 (by omega) (by omega) (by have := hv.1; omega) (hl.byVal _) b1 b2
  · obtain ⟨_, _, _, a4, a5⟩ := sub_1 hv h6 hi hj
    exact ⟨by omega, by omega⟩
noncomputable def C3 : Env := C2.put 40 (borrowE C2 40)
theorem C3_ok : EnvOk Try.prog C3 := Env.put_ok C2_ok (borrowE_ok C2_ok (callable Try.func40 (by kernel_rfl)))
theorem foldl_ind2 {α : Type} {I : Nat → Prop} {f : Nat → α → Nat} : ∀ {l : List α} {a : Nat}, I a → (∀ a x, x ∈ l → I a → I (f a x)) → I (l.foldl f a)
  | [], a, h, _ => h
  | x :: l, a, h, hf => foldl_ind2 (l := l) (hf a x (by simp) h) fun a y hy => hf a y (by simp [hy])
theorem divRK_bd {rows : List (List Int)} (hv : VM rows) (h6 : Six rows) (k : Nat) : divRK rows k ≤ 1000000000 := by
  refine foldl_ind2 (I := fun a => a ≤ 1000000000) (by omega) fun a is hi ha => foldl_ind2 (I := fun a => a ≤ 1000000000) ha fun a js hj ha => gcd_bd ha ?_
  obtain ⟨_, _, _, a4, a5⟩ := sub_1 hv h6 hi hj
  unfold absI
  split <;> omega
def divFR (rows : List (List Int)) : List Int := (List.range (rankF rows)).map fun i => ((divRK rows (i + 1) : Nat) : Int)
theorem divF_eq {rows : List (List Int)} (hv : VM rows) (h6 : Six rows) : divF rows = divFR rows := by
  have hr := rank_le (fwd_B hv h6)
  unfold divF divFR
  refine List.map_congr_left fun i hi => ?_
  have := List.mem_range.1 hi
  rw [div_eq hv.1 (by omega) (by omega)]
theorem f33 {l : AV} {rows : List (List Int)} (hl : RwL l rows) (hv : VM rows) : WF C3 (.func 33 [] []) [l] ⟨[], []⟩ fun y m' => ∃ v q, y = .tuple [v, .int .i64 0] ∧ GS 1 m'.heap v q (icells (divFR rows)) := by
  have hr8 := hv.1
  have h6 : Six rows := fun i hi => hl.six hi
  have c36 := fun m => x36 (m := m) (l' := l) hl (by omega) (hl.byVal _)
  rw [if_pos hv, if_pos hv] at c36
  have hr := rank_le (fwd_B hv h6)
  have hdf : divFR rows = (List.range (rankF rows)).map fun i => ((divRK rows (i + 1) : Nat) : Int) := rfl
  refine WF.fnE rfl (fn_of Try.func33 cir33) (by show 1 ≤ 29; decide) ?_
  unfold ir33; dsimp only [k0, kI, mV, oO, oG]
  simp only [padTo, List.replicate, List.nil_append, List.append_nil]
  repeat' (first | (refine WO.opE (by intro; simp (disch := omega) only [go_sem]; rfl) (by simp only [pt8, pt0, pt1, pt2, pt3, pt4, pt5, pt6, pt7]; rfl) ?_) | (refine WO.specE rfl rfl (c36 _) (by simp only [pt8, pt2]; rfl) ?_) | (refine WC.seq ?_) | (refine WC.region ?_) | (refine WO.nil ?_) | (simp only [fl1]) | (refine WC.no rfl ?_) | (refine WC.skip ?_) | (refine WC.block ?_))
  refine WC.loopI (fun m s => ∃ T G v q k, s = ⟨T, G, []⟩ ∧ T.length = 29 ∧ gt T 0 = l ∧ gt T 4 = .int .i64 (rankF rows : Nat) ∧ gt T 6 = v ∧ gt T 7 = .int .i64 ((k + 1 : Nat) : Int) ∧ m + k = rankF rows ∧ GS 1 G v q (icells ((List.range k).map fun i => ((divRK rows (i + 1) : Nat) : Int)))) ?_ (rankF rows) _ ⟨_, [], .snil, 0, 0, rfl, rfl, rfl, rfl, rfl, rfl, by omega, .inl ⟨rfl, rfl⟩⟩
  rintro m _ ⟨T, G, v, q, k, rfl, hT, g0, g4, g6, g7, hm, hgs⟩
  obtain ⟨f, rfl⟩ := ex29 hT
  clear hT
  replace g0 : f 0 = l := g0
  replace g4 : f 4 = .int .i64 (rankF rows : Nat) := g4
  replace g6 : f 6 = v := g6
  replace g7 : f 7 = .int .i64 ((k + 1 : Nat) : Int) := g7
  simp only [g0, g4, g6, g7]
  by_cases hk : k < rankF rows
  · have c40 := fun m => s40 (m := m) (k := k + 1) hl hv (by omega)
    have hd9 := divRK_bd hv h6 (k + 1)
    have hln : (icells ((List.range k).map fun i => ((divRK rows (i + 1) : Nat) : Int))).length = k := by rw [icells_len]; simp
    obtain ⟨v2, q2, G2, b1, g2, _, _, _⟩ := (hgs.more [some ⟨0, [.int .i64 ((divRK rows (k + 1) : Nat) : Int)]⟩]).append (L := []) (bytes := 8) (n := 1) (cap := some 1) (id := G.length) (lk0 rfl) rfl Nat.one_pos (by decide) ⟨by rw [Nat.div_one, hln]; omega, by rw [Nat.div_one, hln]; omega⟩
    have e1 : icells ((List.range k).map fun i => ((divRK rows (i + 1) : Nat) : Int)) ++ [.int .i64 ((divRK rows (k + 1) : Nat) : Int)] = icells ((List.range (k + 1)).map fun i => ((divRK rows (i + 1) : Nat) : Int)) := by
      rw [List.range_succ, List.map_append]
      simp [icells]
    rw [e1] at g2
    repeat' (first | (refine WO.opE (by intro; simp (disch := omega) only [go_sem, fillP, Option.bind_eq_bind, zeros, ov_one0]; rfl) (by simp only [pt8, pt0, pt1, pt2, pt3, pt4, pt5, pt6, pt7]; rfl) ?_) | (refine WO.specE rfl rfl (c40 _) (by simp only [pt8, pt0]; rfl) ?_) | (refine WO.opE (by intro; rw [ev_append]; exact b1) (by simp only [pt8, pt3]; rfl) ?_) | (refine WC.seq ?_) | (refine WC.region ?_) | (refine WO.nil ?_) | (simp only [fl1, fl10]) | (refine WC.skip ?_) | (refine WC.block ?_) | (refine WC.em2 rfl (fun hp => ?_) (fun hp => ?_) <;> try (exfalso; first | omega | contradiction)))
    exact ⟨m - 1, by omega, _, G2, v2, q2, k + 1, rfl, rfl, rfl, rfl, rfl, rfl, by omega, g2⟩
  · have hke : k = rankF rows := by omega
    subst hke
    repeat' (first | (refine WO.opE (by intro; simp (disch := omega) only [go_sem]; rfl) (by simp only [pt8, pt0, pt1, pt2, pt3, pt4]; rfl) ?_) | (refine WC.seq ?_) | (refine WC.region ?_) | (refine WO.nil ?_) | (simp only [fl1]) | (refine WC.exit ?_) | (refine WC.ret ?_) | (refine WC.em2 rfl (fun hp => ?_) (fun hp => ?_) <;> try (exfalso; first | omega | contradiction)))
    exact ⟨_, rfl, v, q, rfl, hgs⟩
def divRR (rows : List (List Int)) : List Int := if VM rows then divFR rows else []
theorem x33 {l : AV} {rows : List (List Int)} (hl : RwL l rows) (hmax : rows.length < 9223372036854775807) : ∃ x, IntS x (divRR rows) ∧ ∀ m l', Zz.byVal m.heap l' = some l → borrowX C3 33 [l'] m = some (.tuple [x, .int .i64 (errC rows)], m) := by
  by_cases hv : VM rows
  · unfold divRR errC
    rw [if_pos hv, if_pos hv]
    obtain ⟨n, y, m', h1, v, q, rfl, h2⟩ := (f33 hl hv).ex
    obtain ⟨x, e1, e2⟩ := gs_newI h2
    exact ⟨x, e1, fun m l' h0 => borrowX_of (byVals_cons h0 rfl) ⟨⟨n, _, m', h1, newV_two e2⟩⟩⟩
  · unfold divRR errC
    rw [if_neg hv, if_neg hv]
    refine ⟨.snil, IntS.nil, nil_x ?_⟩
    have c36 := fun m => x36 (m := m) (l' := l) hl hmax (hl.byVal _)
    rw [if_neg hv, if_neg hv] at c36
    refine WF.fnE rfl (fn_of Try.func33 cir33) (by show 1 ≤ 29; decide) ?_
    unfold ir33; dsimp only [k0, kI, mV, oO, oG]
    simp only [padTo, List.replicate, List.nil_append, List.append_nil]
    repeat' (first | (refine WO.opE (by intro; simp (disch := omega) only [go_sem]; rfl) (by simp only [pt8, pt0, pt1, pt2, pt3, pt4, pt5, pt6, pt7]; rfl) ?_) | (refine WO.specE rfl rfl (c36 _) (by simp only [pt8, pt2]; rfl) ?_) | (refine WC.seq ?_) | (refine WC.region ?_) | (refine WO.nil ?_) | (simp only [fl1, fl2]) | (refine WC.yes rfl ?_) | (refine WC.ret ?_))
    exact ⟨_, rfl, rfl⟩
noncomputable def C4 : Env := C3.put 33 (borrowX C3 33)
theorem C4_ok : EnvOk Try.prog C4 := Env.put_ok C3_ok (borrowX_ok C3_ok (callable Try.func33 (by kernel_rfl)))
theorem run3 {l : AV} {rows : List (List Int)} (hl : RwL l rows) (hmax : rows.length < 9223372036854775807) : WF C4 (.func 3 [] []) [l] ⟨[], []⟩ fun y m' => y = .bool true := by
  have h6 : Six rows := fun i hi => hl.six hi
  have c24 := fun m => s24 (m := m)
  have c25 := fun m => x25 (m := m) (l' := l) hl hmax (hl.byVal _)
  have c26 := fun m => x26 (m := m) (l' := l) hl hmax (hl.byVal _)
  obtain ⟨x1, hx1, c27⟩ := x27 hl hmax
  obtain ⟨y1, hy1, c28⟩ := x28 hl hmax
  obtain ⟨x2, hx2, c32⟩ := x32 hl hmax
  obtain ⟨y2, hy2, c33⟩ := x33 hl hmax
  obtain ⟨x3, hx3, c30⟩ := x30 hl hmax
  obtain ⟨y3, hy3, c31⟩ := x31 hl hmax
  have c27 := fun m => c27 m l (hl.byVal _)
  have c28 := fun m => c28 m l (hl.byVal _)
  have c32 := fun m => c32 m l (hl.byVal _)
  have c33 := fun m => c33 m l (hl.byVal _)
  have c30 := fun m => c30 m l (hl.byVal _)
  have c31 := fun m => c31 m l (hl.byVal _)
  have c35 := fun m => x35 (m := m) (l' := l) hl hmax (hl.byVal _)
  have c36 := fun m => x36 (m := m) (l' := l) hl hmax (hl.byVal _)
  have e1 : hermR rows = hermRR rows := by
    unfold hermR hermRR
    split
    · rename_i hv; exact hermF_eq hv h6
    · rfl
  have e2 : divR rows = divRR rows := by
    unfold divR divRR
    split
    · rename_i hv; exact divF_eq hv h6
    · rfl
  have e3 : kernR rows = kernRR rows := by
    unfold kernR kernRR
    split
    · rename_i hv; exact kerF_eq hv h6
    · rfl
  have l1 : (hermR rows).length < 1000000 := by
    by_cases hv : VM rows
    · rw [herm_len hv h6]; have := rank_le (fwd_B hv h6); omega
    · unfold hermR; rw [if_neg hv]; decide
  have l2 : (divR rows).length < 1000000 := by
    by_cases hv : VM rows
    · rw [div_len hv]; have := rank_le (fwd_B hv h6); omega
    · unfold divR; rw [if_neg hv]; decide
  have l3 : (kernR rows).length < 1000000 := by
    by_cases hv : VM rows
    · have := kern_len hv h6; omega
    · unfold kernR; rw [if_neg hv]; decide
  have c29a := fun m => x29 (m := m) (x' := x1) (y' := y1) hx1 hy1 l1 (hx1.byVal _) (hy1.byVal _)
  have c29b := fun m => x29 (m := m) (x' := x3) (y' := y3) hx3 hy3 l3 (hx3.byVal _) (hy3.byVal _)
  have c34 := fun m => x34 (m := m) (x' := x2) (y' := y2) hx2 hy2 l2 (IntS.byVal hx2 _) (IntS.byVal hy2 _)
  rw [decide_eq_true e1] at c29a
  rw [decide_eq_true e3] at c29b
  rw [decide_eq_true e2] at c34
  generalize errC rows = er at *
  generalize (if VM rows then (rankF rows : Int) else 0) = rk at *
  generalize (if VM rows then (0 : Int) else 1) = ek at *
  generalize decide (VM rows) = dv at *
  clear e1 e2 e3 l1 l2 l3 hx1 hy1 hx2 hy2 hx3 hy3
  cases dv
  all_goals
    refine WF.fnE rfl (fn_of Try.func3 cir3) (by show 1 ≤ 105; decide) ?_
    unfold ir3; dsimp only [k0, kI, mV, oO, oG]
    simp only [padTo, List.replicate, List.nil_append, List.append_nil]
    repeat' (first | (refine WO.yes rfl ?_) | (refine WO.opE (by intro; simp (disch := omega) only [go_sem]; rfl) (by simp only [pt8, pt0, pt1, pt2, pt3, pt4, pt5, pt6, pt7]; rfl) ?_) | (refine WO.specE rfl rfl (c24 _) (by simp only [pt8, pt4]; rfl) ?_) | (refine WO.specE rfl rfl (c25 _) (by simp only [pt8, pt0]; rfl) ?_) | (refine WO.specE rfl rfl (c26 _) (by simp only [pt8, pt2]; rfl) ?_) | (refine WO.specE rfl rfl (c27 _) (by simp only [pt8, pt7]; rfl) ?_) | (refine WO.specE rfl rfl (c28 _) (by simp only [pt8, pt4]; rfl) ?_) | (refine WO.specE rfl rfl (c30 _) (by simp only [pt8, pt4]; rfl) ?_) | (refine WO.specE rfl rfl (c31 _) (by simp only [pt8, pt1]; rfl) ?_) | (refine WO.specE rfl rfl (c32 _) (by simp only [pt8, pt1]; rfl) ?_) | (refine WO.specE rfl rfl (c33 _) (by simp only [pt8, pt6]; rfl) ?_) | (refine WO.specE rfl rfl (c35 _) (by simp only [pt8, pt6]; rfl) ?_) | (refine WO.specE rfl rfl (c36 _) (by simp only [pt8, pt3]; rfl) ?_) | (refine WO.specE rfl rfl (c29a _) (by simp only [pt8, pt3]; rfl) ?_) | (refine WO.specE rfl rfl (c29b _) (by simp only [pt8, pt0]; rfl) ?_) | (refine WO.specE rfl rfl (c34 _) (by simp only [pt8, pt5]; rfl) ?_) | (refine WC.seq ?_) | (refine WC.region ?_) | (refine WO.nil ?_) | (simp only [fl1]) | (refine WC.ret ?_))
    exact ⟨_, rfl, rfl⟩
end Go.Proofs.Ytnilimjkibimcaa

