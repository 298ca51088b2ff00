import Derived.Test.YtgchabldcnmccacGreatDoorHE

set_option linter.unusedSimpArgs false
set_option linter.unusedVariables false

namespace Go.Proofs.YtgchabldcnmccacGreatDoor
open Go.Zz
set_option maxRecDepth 100000
set_option maxHeartbeats 8000000
theorem WT.ispec {Γ : Env} {rd : List DOper} {ms : List Nat} {tch : List Tch} {T T' : List AV} {H : Hp} {L : List (Option ALoop)} {Q : St → Prop} {d g : Nat} {f : Opd} {args : List Opd} {v : AV} {aa : List AV} {S : List AV → Mem → Option (AV × Mem)} (hf : f.ev T = .func g [] []) (ha : args.map (·.ev T) = aa) (hS : Γ.spec g = some S) (h : ∀ V, S aa ⟨V, L⟩ = some (v, ⟨V, L⟩)) (ht : pt T d v = T')
  (k : WT Γ rd ⟨T', H, L⟩ (tch ++ [.all]) Q) : WT Γ (⟨⟨none, some d, .call f args⟩, ms⟩ :: rd) ⟨T, H, L⟩ tch Q := by
 refine ⟨fun seen hs => ?_⟩
 have hp := PartL.strikes hs.le ms (PartL.refl H)
 refine WD.call rfl ?_
 rw [ha, hf]
 refine WF.spec hS (by simpa using h _) ?_
 refine ⟨dead_self _, ?_⟩
 simp only [St.put, hp.back, hp.len, ht]
 exact k.run _ (hs.app (Nat.le_refl _) (Nat.le_refl _) fun j hj => hj.elim)
theorem g82 {x : Int} : WF Y1 (.func 82 [] []) [.int .i64 x] ⟨[], []⟩ fun y m' => y = .bool false := by
 refine WF.fnE rfl (fn_of Tryz.func82 cir82) (by show 1 ≤ 6; decide) ?_
 unfold ir82; dsimp only [k0, kI, mV, oO, oG]
 simp only [padTo, List.replicate, List.nil_append, List.append_nil]
 repeat' (first | (refine WO.opE (by intro; simp (disch := omega) only [go_sem]; rfl) (by simp only [pt2, pt3, pt4, pt5]; rfl) ?_) | (refine WC.seq ?_) | (refine WC.region ?_) | (refine WO.nil ?_) | (simp only [fl1]) | (refine WC.ret ?_))
 all_goals first | exact ⟨_, rfl, rfl⟩ | exact ⟨_, rfl, by simp⟩
theorem s82 {x : Int} {m : Mem} : borrowE Y1 82 [.int .i64 x] m = some (.bool false, m) :=
 borrowE_of rfl (g82.mono fun y m' h => by rw [h]; rfl)
noncomputable def Y2 : Env := Y1.put 82 (borrowE Y1 82)
theorem Y2_ok : EnvOk Tryz.prog Y2 := Env.put_ok Y1_ok (borrowE_ok Y1_ok (callable Tryz.func82 (by kernel_rfl)))
def cmpI (x y : Int) : Int := if x < y then -1 else if y < x then 1 else 0
theorem g63 {x y : Int} : WF Y2 (.func 63 [] []) [.int .i64 x, .int .i64 y] ⟨[], []⟩ fun z m' => z = .int .i64 (cmpI x y) := by
 refine WF.fnE rfl (fn_of Tryz.func63 cir63) (by show 2 ≤ 20; decide) ?_
 unfold ir63; dsimp only [k0, kI, mV, oO, oG]
 simp only [padTo, List.replicate, List.nil_append, List.append_nil]
 repeat' (first | (refine WO.opE (by intro; simp (disch := omega) only [go_sem, Int.reduceNeg, Int.reduceAdd]; rfl) (by simp only [pt8, pt0, pt1, pt2, pt3, pt4, pt5, pt6, pt7]; rfl) ?_) | (refine WO.specE rfl rfl (s82) (by simp only [pt8, pt0, pt2]; rfl) ?_) | (refine WC.seq ?_) | (refine WC.region ?_) | (refine WO.nil ?_) | (simp only [fl1, fl2]) | (refine WC.no rfl ?_) | (refine WC.skip ?_) | (refine WC.ret ?_) | (refine WC.em2 rfl (fun hp => ?_) (fun hp => ?_) <;> try (exfalso; first | omega | contradiction)))
 all_goals refine ⟨_, rfl, ?_⟩
 all_goals simp only [cmpI]
 all_goals first
  | rfl
  | (rw [if_pos (by omega)]; rfl)
  | (rw [if_neg (by omega), if_pos (by omega)]; rfl)
  | (rw [if_neg (by omega), if_neg (by omega)]; rfl)
theorem s63 {x y : Int} {m : Mem} : borrowE Y2 63 [.int .i64 x, .int .i64 y] m = some (.int .i64 (cmpI x y), m) :=
 borrowE_of rfl (g63.mono fun y m' h => by rw [h]; rfl)
noncomputable def Y3 : Env := Y2.put 63 (borrowE Y2 63)
theorem Y3_ok : EnvOk Tryz.prog Y3 := Env.put_ok Y2_ok (borrowE_ok Y2_ok (callable Tryz.func63 (by kernel_rfl)))
theorem g62 {x y : Int × Tk} : WF Y3 (.func 62 [] []) [.agg [.int .i64 x.1, .int .i64 x.2.s, .int .i64 x.2.c, .int .i64 x.2.n, .int .i64 x.2.d], .agg [.int .i64 y.1, .int .i64 y.2.s, .int .i64 y.2.c, .int .i64 y.2.n, .int .i64 y.2.d]] ⟨[], []⟩ fun z m' => z = .int .i64 (cmpI x.1 y.1) := by
 refine WF.fnE rfl (fn_of Tryz.func62 cir62) (by show 2 ≤ 10; decide) ?_
 unfold ir62; dsimp only [k0, kI, mV, oO, oG]
 simp only [padTo, List.replicate, List.nil_append, List.append_nil]
 repeat' (first | (refine WO.opE (by intro; simp (disch := omega) only [go_sem, Zz.cut, Zz.look]; rfl) (by simp only [pt8, pt0, pt2, pt3, pt4, pt5, pt6, pt7]; rfl) ?_) | (refine WO.specE rfl rfl (s63) (by simp only [pt8, pt1]; rfl) ?_) | (refine WC.seq ?_) | (refine WC.region ?_) | (refine WO.nil ?_) | (simp only [fl1]) | (refine WC.ret ?_))
 all_goals exact ⟨_, rfl, rfl⟩
theorem s62 {x y : Int × Tk} {m : Mem} : borrowE Y3 62 [.agg [.int .i64 x.1, .int .i64 x.2.s, .int .i64 x.2.c, .int .i64 x.2.n, .int .i64 x.2.d], .agg [.int .i64 y.1, .int .i64 y.2.s, .int .i64 y.2.c, .int .i64 y.2.n, .int .i64 y.2.d]] m = some (.int .i64 (cmpI x.1 y.1), m) :=
 borrowE_of rfl (g62.mono fun y m' h => by rw [h]; rfl)
noncomputable def Y4 : Env := Y3.put 62 (borrowE Y3 62)
theorem Y4_ok : EnvOk Tryz.prog Y4 := Env.put_ok Y3_ok (borrowE_ok Y3_ok (callable Tryz.func62 (by kernel_rfl)))
theorem stF_cons (x : Int × Tk) (r : List (Int × Tk)) : stF (x :: r) = stC x ++ stF r := rfl
theorem stC_len (x : Int × Tk) : (stC x).length = 5 := rfl
theorem stF_len (l : List (Int × Tk)) : (stF l).length = l.length * 5 := by
 induction l with
 | nil => rfl
 | cons x r ih => rw [stF_cons, List.length_append, stC_len, ih, List.length_cons]; omega
theorem stF_cut : ∀ {l : List (Int × Tk)} {i : Nat} (h : i < l.length), Zz.cut (stF l) (i * 5) 5 = some (stC l[i])
 | [], i, h => by simp at h
 | x :: r, 0, _ => by simp [stF, stC, Tk.cells, Zz.cut]
 | x :: r, i + 1, h => by
  have hr : i < r.length := by simpa using h
  have ih := stF_cut (l := r) (i := i) hr
  have hb : i * 5 + 5 ≤ (stF r).length := by rw [stF_len]; omega
  unfold Zz.cut at ih ⊢
  rw [if_pos hb] at ih
  rw [if_pos (by rw [stF_len, List.length_cons]; omega), stF_cons, show (i + 1) * 5 = (stC x).length + i * 5 by rw [stC_len]; omega, List.drop_length_add_append, List.getElem_cons_succ]
  exact ih
theorem stF_over : ∀ {l : List (Int × Tk)} {i : Nat} (y : Int × Tk) (h : i < l.length), Zz.over (stF l) (i * 5) (stC y) = some (stF (l.set i y))
 | [], i, _, h => by simp at h
 | x :: r, 0, y, _ => by simp [stF, stC, Tk.cells, Zz.over]
 | x :: r, i + 1, y, h => by
  have hr : i < r.length := by simpa using h
  have ih := stF_over (l := r) (i := i) y hr
  have hb : i * 5 + (stC y).length ≤ (stF r).length := by rw [stF_len, stC_len]; omega
  unfold Zz.over at ih ⊢
  rw [if_pos hb] at ih
  have ih := Option.some.inj ih
  rw [if_pos (by rw [stF_len, stC_len, List.length_cons]; omega), List.set_cons_succ, stF_cons, stF_cons, ← ih, show (i + 1) * 5 = (stC x).length + i * 5 by rw [stC_len]; omega, List.take_length_add_append, show (stC x).length + i * 5 + (stC y).length = (stC x).length + (i * 5 + (stC y).length) by omega, List.drop_length_add_append]
  simp only [List.append_assoc]
theorem f91 {H : Hp} {L : List (Option ALoop)} {id g n a b : Nat} {V : Tk} {l0 : List (Int × Tk)} (hl : Zz.look H id g = some (stF l0)) (hn : l0.length = n) (hV : ∀ x ∈ l0, x.2 = V) (hb : b ≤ n) (hbig : n ≤ 1000000) (ha : a ≤ n) :
  WF Y4 (.func 91 [] []) [.sref id g 0 5 n none, .int .i64 (a : Nat), .int .i64 (b : Nat), .func 62 [] []] ⟨H, L⟩ fun y m' => ∃ l, l.length = n ∧ (∀ x ∈ l, x.2 = V) ∧ m' = ⟨H.set id (some ⟨g, stF l⟩), L⟩ := by
 have hid := look_ltR hl
 have hw0 : IntKind.i64.wrap ((a : Int) + 1) = ((a + 1 : Nat) : Int) := by rw [wrap_id (by omega) (by omega)]; omega
 refine WF.fnE rfl (fn_of Tryz.func91 cir91) (by show 4 ≤ 53; decide) ?_
 unfold ir91; dsimp only [k0, kI, mV, oO, oG]
 simp only [padTo, List.replicate, List.nil_append, List.append_nil]
 repeat' (first | (refine WO.opE (by intro; simp (disch := omega) only [go_sem, hw0]; rfl) (by simp only [pt8, pt0, pt2, pt3]; rfl) ?_) | (refine WC.seq ?_) | (refine WC.region ?_) | (refine WO.nil ?_) | (simp only [fl1]) | (refine WC.block ?_))
 refine WC.loopI (fun m st => ∃ T i l, st = ⟨T, H.set id (some ⟨g, stF l⟩), L⟩ ∧ T.length = 53 ∧ gt T 0 = .sref id g 0 5 n none ∧ gt T 1 = .int .i64 (a : Nat) ∧ gt T 2 = .int .i64 (b : Nat) ∧ gt T 3 = .func 62 [] [] ∧ gt T 8 = .int .i64 (i : Nat) ∧ m = b - i ∧ a + 1 ≤ i ∧ i ≤ 1000001 ∧ l.length = n ∧ (∀ x ∈ l, x.2 = V)) ?_ (b - (a + 1)) _ ⟨_, a + 1, l0, by rw [set_sameR hl], rfl, rfl, rfl, rfl, rfl, rfl, rfl, Nat.le_refl _, by omega, hn, hV⟩
 rintro m _ ⟨T, i, l, rfl, hT, g0, g1, g2, g3, g8, hm, hai, hi6, hll, hlV⟩
 obtain ⟨f, rfl⟩ := ex53 hT
 clear hT
 replace g0 : f 0 = .sref id g 0 5 n none := g0
 replace g1 : f 1 = .int .i64 (a : Nat) := g1
 replace g2 : f 2 = .int .i64 (b : Nat) := g2
 replace g3 : f 3 = .func 62 [] [] := g3
 replace g8 : f 8 = .int .i64 (i : Nat) := g8
 simp only [g0, g1, g2, g3, g8]
 have hw1 : IntKind.i64.wrap ((i : Int) + 1) = ((i + 1 : Nat) : Int) := by rw [wrap_id (by omega) (by omega)]; omega
 by_cases hib : i < b
 ·
  repeat' (first | (refine WO.opE (by intro; simp (disch := omega) only [go_sem]; rfl) (by simp only [pt8, pt1, pt4, pt5, pt6]; rfl) ?_) | (refine WC.seq ?_) | (refine WC.region ?_) | (refine WO.nil ?_) | (simp only [fl1]) | (refine WC.skip ?_) | (refine WC.block ?_) | (refine WC.em2 rfl (fun hp => ?_) (fun hp => ?_) <;> try (exfalso; first | omega | contradiction)))
  refine WC.loopI (fun m st => ∃ T j l, st = ⟨T, H.set id (some ⟨g, stF l⟩), L⟩ ∧ T.length = 53 ∧ gt T 0 = .sref id g 0 5 n none ∧ gt T 1 = .int .i64 (a : Nat) ∧ gt T 2 = .int .i64 (b : Nat) ∧ gt T 3 = .func 62 [] [] ∧ gt T 8 = .int .i64 (i : Nat) ∧ gt T 9 = .int .i64 (j : Nat) ∧ m = j ∧ j ≤ i ∧ a ≤ j ∧ l.length = n ∧ (∀ x ∈ l, x.2 = V)) ?_ i _ ⟨_, i, l, rfl, rfl, rfl, rfl, rfl, rfl, rfl, rfl, rfl, Nat.le_refl _, by omega, hll, hlV⟩
  clear hll hlV
  rintro m2 _ ⟨T, j, l, rfl, hT, g0, g1, g2, g3, g8, g9, hm2, hji, haj, hll, hlV⟩
  obtain ⟨f, rfl⟩ := ex53 hT
  clear hT
  replace g0 : f 0 = .sref id g 0 5 n none := g0
  replace g1 : f 1 = .int .i64 (a : Nat) := g1
  replace g2 : f 2 = .int .i64 (b : Nat) := g2
  replace g3 : f 3 = .func 62 [] [] := g3
  replace g8 : f 8 = .int .i64 (i : Nat) := g8
  replace g9 : f 9 = .int .i64 (j : Nat) := g9
  simp only [g0, g1, g2, g3, g8, g9]
  by_cases hja : a < j
  ·obtain ⟨k, rfl⟩ : ∃ k, j = k + 1 := ⟨j - 1, by omega⟩
   have hk1 : k + 1 < l.length := by omega
   have hk0 : k < l.length := by omega
   have hX : ∀ c, Zz.look (H.set id (some ⟨g, c⟩)) id g = some c := fun c => look_set hid
   have hc1 : Zz.cut (stF l) ((k + 1) * 5) 5 = some (stC l[k + 1]) := stF_cut hk1
   have hc0 : Zz.cut (stF l) (k * 5) 5 = some (stC l[k]) := stF_cut hk0
   have ho1 := stF_over (l := l) (i := k + 1) l[k] hk1
   have ho0 := stF_over (l := l.set (k + 1) l[k]) (i := k) l[k + 1] (by simpa using hk0)
   have hlV2 : ∀ x ∈ (l.set (k + 1) l[k]).set k l[k + 1], x.2 = V := fun x hx => by
    rcases List.mem_or_eq_of_mem_set hx with hx | rfl
    ·rcases List.mem_or_eq_of_mem_set hx with hx | rfl
     ·exact hlV x hx
     ·exact hlV _ (List.getElem_mem hk0)
    ·exact hlV _ (List.getElem_mem hk1)
   have hll2 : ((l.set (k + 1) l[k]).set k l[k + 1]).length = n := by simpa using hll
   generalize hl' : (l.set (k + 1) l[k]).set k l[k + 1] = l' at *
   generalize l.set (k + 1) l[k] = lm at *
   generalize l[k + 1] = x1 at *
   generalize l[k] = x0 at *
   have hs62 := fun m => s62 (x := x1) (y := x0) (m := m)
   simp only [stC, Tk.cells] at hc1 hc0 ho1 ho0
   have hwk : IntKind.i64.wrap (((k + 1 : Nat) : Int) - 1) = ((k : Nat) : Int) := by rw [wrap_id (by omega) (by omega)]; omega
   have hkn : k < n := by omega
   have hkn1 : k + 1 < n := by omega
   clear hl'
   have hi1 : indexAddrAV 5 (.sref id g 0 5 n none) (.int .i64 ((k + 1 : Nat) : Int)) = some (.pref id g ((k + 1) * 5)) := by
    simp only [indexAddrAV, idx_nat hkn1, Option.map_some, Nat.zero_add]
    rfl
   have hi0 : indexAddrAV 5 (.sref id g 0 5 n none) (.int .i64 ((k : Nat) : Int)) = some (.pref id g (k * 5)) := by
    simp only [indexAddrAV, idx_nat hkn, Option.map_some, Nat.zero_add]
    rfl
   repeat' (first | (refine WO.opE (by intro; simp (disch := omega) only [go_sem, hi1, hi0, hX, hc1, hc0, hwk, hw1]; rfl) (by simp only [pt8, pt0, pt1, pt2, pt3, pt4, pt5, pt6, pt7]; rfl) ?_) | (refine WO.opN (by intro; simp (disch := omega) only [go_sem, Option.bind_eq_bind, Nat.reduceAdd, hX, ho1, ho0, setBlk, List.set_set]; rfl) ?_) | (refine WT.ispec rfl rfl rfl (fun V => hs62 _) (by simp only [pt8, pt0]; rfl) ?_) | (refine WC.seq ?_) | (refine WC.region ?_) | (refine WO.nil ?_) | (simp only [fl1, fl10]) | (refine WC.calm rfl ?_) | (refine WC.drawT ?_) | (refine WT.nil ?_) | (refine WT.yes rfl ?_) | (refine WT.free rfl (by intro; simp (disch := omega) only [go_sem, hi1, hi0, hX, hc1, hc0, hwk]; rfl) rfl (by simp only [pt8, pt0, pt1, pt2, pt3, pt4, pt5, pt6, pt7]; rfl) ?_) | (refine WT.big rfl rfl (by intro; simp (disch := omega) only [go_sem, hX, hc1, hc0]; rfl) (by simp (disch := omega) only [go_sem, touch]; rfl) (by first | exact .inl rfl | exact .inr (apart_nil _) | exact .inr trivial | (right; apply apart_mk; simp only [apartL, List.nil_append, List.cons_append, List.getElem?_cons_succ, List.getElem?_cons_zero, Tch.free, and_true, true_and]; first | done | omega)) (by simp only [pt8, pt2, pt7]; rfl) ?_) | (refine WC.skip ?_) | (refine WC.exit ?_) | (refine WC.block ?_) | (refine WT.em2 rfl (by intro hp; simp only [hp, decide_true]; rfl) (by intro hp; simp only [hp, decide_false]; rfl) (fun hp => ?_) (fun hp => ?_) <;> try (exfalso; first | omega | contradiction)) | (refine WC.em2 rfl (fun hp => ?_) (fun hp => ?_) <;> try (exfalso; first | omega | contradiction)))
   ·exact ⟨k, by omega, _, k, l', rfl, rfl, rfl, rfl, rfl, rfl, rfl, rfl, rfl, by omega, by omega, hll2, hlV2⟩
   ·exact ⟨m - 1, by omega, _, i + 1, l, rfl, rfl, rfl, rfl, rfl, rfl, rfl, by omega, by omega, by omega, hll, hlV⟩
  ·
   repeat' (first | (refine WO.opE (by intro; simp (disch := omega) only [go_sem, hw1]; rfl) (by simp only [pt8, pt0, pt7]; rfl) ?_) | (refine WC.seq ?_) | (refine WC.region ?_) | (refine WO.nil ?_) | (simp only [fl1, fl10]) | (refine WC.drawT ?_) | (refine WT.nil ?_) | (refine WT.no rfl (by simp only [pt8, pt0, pt1, pt2, pt3, pt4, pt5, pt6, pt7]; rfl) ?_) | (refine WT.free rfl (by intro; simp (disch := omega) only [go_sem]; rfl) rfl (by simp only [pt8, pt2, pt3, pt4, pt5]; rfl) ?_) | (refine WC.no rfl ?_) | (refine WC.exit ?_) | (refine WT.em2 rfl (by intro hp; simp only [hp, decide_true]; rfl) (by intro hp; simp only [hp, decide_false]; rfl) (fun hp => ?_) (fun hp => ?_) <;> try (exfalso; first | omega | contradiction)) | fail)
   exact ⟨m - 1, by omega, _, i + 1, l, rfl, rfl, rfl, rfl, rfl, rfl, rfl, by omega, by omega, by omega, hll, hlV⟩
 ·
  repeat' (first | (refine WO.opE (by intro; simp (disch := omega) only [go_sem]; rfl) (by simp only [pt8, pt4, pt5, pt6]; rfl) ?_) | (refine WC.seq ?_) | (refine WC.region ?_) | (refine WO.nil ?_) | (simp only [fl1, fl3, fl6, fl9]) | (refine WC.exit ?_) | (refine WC.em2 rfl (fun hp => ?_) (fun hp => ?_) <;> try (exfalso; first | omega | contradiction)))
  exact ⟨_, rfl, l, hll, hlV, rfl⟩
theorem f81 {H : Hp} {L : List (Option ALoop)} {id g n : Nat} {V : Tk} {l0 : List (Int × Tk)} (hl : Zz.look H id g = some (stF l0)) (hn : l0.length = n) (hV : ∀ x ∈ l0, x.2 = V) (h20 : n ≤ 20) :
  WF Y4 (.func 81 [] []) [.sref id g 0 5 n none, .int .i64 (n : Nat), .func 62 [] []] ⟨H, L⟩ fun y m' => ∃ l, l.length = n ∧ (∀ x ∈ l, x.2 = V) ∧ m' = ⟨H.set id (some ⟨g, stF l⟩), L⟩ := by
 have hid := look_ltR hl
 by_cases he : n = 20
 ·subst he
  refine WF.fnE rfl (fn_of Tryz.func81 cir81) (by show 3 ≤ 63; decide) ?_
  unfold ir81; dsimp only [k0, kI, mV, oO, oG]
  simp only [padTo, List.replicate, List.nil_append, List.append_nil]
  repeat' (first | (refine WO.opE (by intro; simp (disch := omega) only [go_sem]; rfl) (by simp only [pt8, pt0, pt2, pt6, pt7]; rfl) ?_) | (refine WC.seq ?_) | (refine WC.region ?_) | (refine WO.nil ?_) | (refine WC.block ?_))
  refine WC.loop ?_
  repeat' (first | (refine WO.opE (by intro; simp (disch := omega) only [go_sem]; rfl) (by simp only [pt8, pt0, pt1, pt3, pt4, pt5, pt6, pt7]; rfl) ?_) | (refine WC.seq ?_) | (refine WC.region ?_) | (refine WO.nil ?_) | (simp only [fl1]) | (refine WC.yes rfl ?_) | (refine WC.skip ?_) | (refine WC.block ?_))
  refine WO.call rfl rfl ((f91 (a := 0) (b := 20) hl hn hV (Nat.le_refl _) (by omega) (by omega)).mono ?_)
  rintro y _ ⟨l1, h1, h2, rfl⟩
  simp only [pt8, pt2]
  repeat' (first | (refine WO.opE (by intro; simp (disch := omega) only [go_sem, Int.reduceAdd]; rfl) (by simp only [pt8, pt0, pt3, pt4, pt5, pt6, pt7]; rfl) ?_) | (refine WC.seq ?_) | (refine WC.region ?_) | (refine WO.nil ?_) | (simp only [fl1, fl4]))
  refine WC.loop ?_
  repeat' (first | (refine WO.opE (by intro; simp (disch := omega) only [go_sem]; rfl) (by simp only [pt8, pt0, pt1, pt2, pt3, pt4, pt5, pt7]; rfl) ?_) | (refine WC.seq ?_) | (refine WC.region ?_) | (refine WO.nil ?_) | (simp only [fl1]) | (refine WC.no rfl ?_) | (refine WC.exit ?_))
  refine WO.call rfl rfl ((f91 (a := 20) (b := 20) (look_set hid) h1 h2 (Nat.le_refl _) (by omega) (by omega)).mono ?_)
  rintro y _ ⟨l2, h3, h4, rfl⟩
  simp only [pt8, pt3, List.set_set]
  repeat' (first | (refine WO.nil ?_) | (refine WC.block ?_))
  refine WC.loop ?_
  repeat' (first | (refine WO.opE (by intro; simp (disch := omega) only [go_sem]; rfl) (by simp only [pt8, pt4, pt5, pt6]; rfl) ?_) | (refine WC.seq ?_) | (refine WC.region ?_) | (refine WO.nil ?_) | (simp only [fl1, fl3, fl6]) | (refine WC.no rfl ?_) | (refine WC.exit ?_))
  exact ⟨_, rfl, l2, h3, h4, rfl⟩
 ·
  refine WF.fnE rfl (fn_of Tryz.func81 cir81) (by show 3 ≤ 63; decide) ?_
  unfold ir81; dsimp only [k0, kI, mV, oO, oG]
  simp only [padTo, List.replicate, List.nil_append, List.append_nil]
  repeat' (first | (refine WO.opE (by intro; simp (disch := omega) only [go_sem]; rfl) (by simp only [pt8, pt0, pt2, pt6, pt7]; rfl) ?_) | (refine WC.seq ?_) | (refine WC.region ?_) | (refine WO.nil ?_) | (refine WC.block ?_))
  refine WC.loop ?_
  repeat' (first | (refine WO.opE (by intro; simp (disch := omega) only [go_sem]; rfl) (by simp only [pt8, pt0, pt1, pt2, pt3, pt4, pt5, pt7]; rfl) ?_) | (refine WC.seq ?_) | (refine WC.region ?_) | (refine WO.nil ?_) | (simp only [fl1]) | (refine WC.exit ?_) | (refine WC.em2 rfl (fun hp => ?_) (fun hp => ?_) <;> try (exfalso; first | omega | contradiction)))
  refine WO.call rfl rfl ((f91 (a := 0) (b := n) hl hn hV (Nat.le_refl _) (by omega) (by omega)).mono ?_)
  rintro y _ ⟨l1, h1, h2, rfl⟩
  simp only [pt8, pt3]
  repeat' (first | (refine WO.nil ?_) | (refine WC.block ?_))
  refine WC.loop ?_
  repeat' (first | (refine WO.opE (by intro; simp (disch := omega) only [go_sem]; rfl) (by simp only [pt8, pt4, pt5, pt6]; rfl) ?_) | (refine WC.seq ?_) | (refine WC.region ?_) | (refine WO.nil ?_) | (simp only [fl1, fl3, fl6]) | (refine WC.exit ?_) | (refine WC.em2 rfl (fun hp => ?_) (fun hp => ?_) <;> try (exfalso; first | omega | contradiction)))
  exact ⟨_, rfl, l1, h1, h2, rfl⟩
theorem f91n {H : Hp} {L : List (Option ALoop)} : WF Y4 (.func 91 [] []) [.snil, .int .i64 0, .int .i64 0, .func 62 [] []] ⟨H, L⟩ fun y m' => m' = ⟨H, L⟩ := by
 refine WF.fnE rfl (fn_of Tryz.func91 cir91) (by show 4 ≤ 53; decide) ?_
 unfold ir91; dsimp only [k0, kI, mV, oO, oG]
 simp only [padTo, List.replicate, List.nil_append, List.append_nil]
 repeat' (first | (refine WO.opE (by intro; simp (disch := omega) only [go_sem, Int.reduceAdd]; rfl) (by simp only [pt8, pt0, pt2, pt3]; rfl) ?_) | (refine WC.seq ?_) | (refine WC.region ?_) | (refine WO.nil ?_) | (simp only [fl1]) | (refine WC.block ?_))
 refine WC.loop ?_
 repeat' (first | (refine WO.opE (by intro; simp (disch := omega) only [go_sem]; rfl) (by simp only [pt8, pt4, pt5, pt6]; rfl) ?_) | (refine WC.seq ?_) | (refine WC.region ?_) | (refine WO.nil ?_) | (simp only [fl1, fl3, fl6]) | (refine WC.no rfl ?_) | (refine WC.exit ?_))
 exact ⟨_, rfl, rfl⟩
theorem f81n {H : Hp} {L : List (Option ALoop)} : WF Y4 (.func 81 [] []) [.snil, .int .i64 0, .func 62 [] []] ⟨H, L⟩ fun y m' => m' = ⟨H, L⟩ := by
 refine WF.fnE rfl (fn_of Tryz.func81 cir81) (by show 3 ≤ 63; decide) ?_
 unfold ir81; dsimp only [k0, kI, mV, oO, oG]
 simp only [padTo, List.replicate, List.nil_append, List.append_nil]
 repeat' (first | (refine WO.opE (by intro; simp (disch := omega) only [go_sem]; rfl) (by simp only [pt8, pt0, pt2, pt6, pt7]; rfl) ?_) | (refine WC.seq ?_) | (refine WC.region ?_) | (refine WO.nil ?_) | (refine WC.block ?_))
 refine WC.loop ?_
 repeat' (first | (refine WO.opE (by intro; simp (disch := omega) only [go_sem]; rfl) (by simp only [pt8, pt0, pt1, pt2, pt3, pt4, pt5, pt7]; rfl) ?_) | (refine WC.seq ?_) | (refine WC.region ?_) | (refine WO.nil ?_) | (simp only [fl1]) | (refine WC.no rfl ?_) | (refine WC.exit ?_))
 refine WO.call rfl rfl (f91n.mono ?_)
 rintro y _ rfl
 simp only [pt8, pt3]
 repeat' (first | (refine WO.nil ?_) | (refine WC.block ?_))
 refine WC.loop ?_
 repeat' (first | (refine WO.opE (by intro; simp (disch := omega) only [go_sem]; rfl) (by simp only [pt8, pt4, pt5, pt6]; rfl) ?_) | (refine WC.seq ?_) | (refine WC.region ?_) | (refine WO.nil ?_) | (simp only [fl1, fl3, fl6]) | (refine WC.no rfl ?_) | (refine WC.exit ?_))
 exact ⟨_, rfl, rfl⟩
theorem f61 {H : Hp} {L : List (Option ALoop)} {z : AV} {n : Nat} {V : Tk} {l0 : List (Int × Tk)} (hz : SlH H z 5 (stF l0) n) (hn : l0.length = n) (hV : ∀ x ∈ l0, x.2 = V) (h20 : n ≤ 20) :
  WF Y4 (.func 61 [] []) [z, .func 62 [] []] ⟨H, L⟩ fun y m' => ∃ l H', l.length = n ∧ (∀ x ∈ l, x.2 = V) ∧ m' = ⟨H', L⟩ ∧ SlH H' z 5 (stF l) n := by
 obtain ⟨h1, ⟨rfl, rfl⟩ | ⟨h2, id, g, rfl, h3⟩⟩ := hz
 ·have e0 : l0 = [] := List.eq_nil_of_length_eq_zero hn
  subst e0
  refine WF.fnE rfl (fn_of Tryz.func61 cir61) (by show 2 ≤ 9; decide) ?_
  unfold ir61; dsimp only [k0, kI, mV, oO, oG]
  simp only [padTo, List.replicate, List.nil_append, List.append_nil]
  repeat' (first | (refine WO.opE (by intro; simp (disch := omega) only [go_sem]; rfl) (by simp only [pt4, pt5, pt7]; rfl) ?_) | (refine WO.opE (by intro; exact ev_lenS (by simp only [go_sem]; first | rfl | assumption)) (by simp only [pt6]; rfl) ?_) | (refine WC.region ?_))
  refine WO.call rfl rfl (f81n.mono ?_)
  rintro y _ rfl
  simp only [pt8, pt0]
  repeat' (first | (refine WO.nil ?_))
  exact ⟨_, rfl, [], H, rfl, by simp, rfl, h1, .inl ⟨rfl, rfl⟩⟩
 ·
  refine WF.fnE rfl (fn_of Tryz.func61 cir61) (by show 2 ≤ 9; decide) ?_
  unfold ir61; dsimp only [k0, kI, mV, oO, oG]
  simp only [padTo, List.replicate, List.nil_append, List.append_nil]
  repeat' (first | (refine WO.opE (by intro; simp (disch := omega) only [go_sem]; rfl) (by simp only [pt4, pt5, pt7]; rfl) ?_) | (refine WO.opE (by intro; exact ev_lenS (by simp only [go_sem]; first | rfl | assumption)) (by simp only [pt6]; rfl) ?_) | (refine WC.region ?_))
  refine WO.call rfl rfl ((f81 h3 hn hV h20).mono ?_)
  rintro y _ ⟨l1, g1, g2, rfl⟩
  simp only [pt8, pt0]
  repeat' (first | (refine WO.nil ?_))
  exact ⟨_, rfl, l1, _, g1, g2, rfl, by rw [stF_len, g1], .inr ⟨h2, id, g, rfl, look_set (look_ltR h3)⟩⟩
end Go.Proofs.YtgchabldcnmccacGreatDoor

