import Derived.Test.YtndaljjljmmlcaaL16G

set_option linter.unusedSimpArgs false
set_option linter.unusedVariables false
namespace Go.Proofs.Ytndaljjljmmlcaa
open Go.Zz

/-! ### The examples -/

def follow (rs : List Rg) (u : Nat) : List Int → Option (Nat × Int)
  | [] => some (u, 0)
  | s :: r => if (s ≠ 0 ∧ -(rs.length : Int) ≤ s ∧ s ≤ rs.length) ∧ (eOf rs s).a = u then (follow rs (eOf rs s).b r).map fun q => (q.1, (eOf rs s).w + q.2) else none
theorem follow_best {rs : List Rg} {C : Nat → Prop} {p : Nat → Int} (hp : ∀ s, Num rs s → C (eOf rs s).a → C (eOf rs s).b ∧ p (eOf rs s).b ≤ p (eOf rs s).a + (eOf rs s).w) : ∀ (l : List Int) (u v : Nat) (w : Int), C u → follow rs u l = some (v, w) → C v ∧ p v ≤ p u + w
  | [], u, v, w, hu, h => by
    simp only [follow, Option.some.injEq, Prod.mk.injEq] at h
    obtain ⟨rfl, rfl⟩ := h
    exact ⟨hu, by omega⟩
  | s :: r, u, v, w, hu, h => by
    simp only [follow] at h
    split at h
    · rename_i hc
      obtain ⟨hn, rfl⟩ := hc
      simp only [Option.map_eq_some_iff, Prod.mk.injEq] at h
      obtain ⟨q, h1, rfl, rfl⟩ := h
      obtain ⟨c1, c2⟩ := hp s hn hu
      obtain ⟨d1, d2⟩ := follow_best hp r _ q.1 q.2 c1 h1
      exact ⟨d1, by omega⟩
    · cases h
theorem all_num {rs : List Rg} {P : Int → Prop} (h : ∀ k : Nat, k < rs.length → P ((k : Int) + 1) ∧ P (0 - (k : Int) - 1)) : ∀ s, Num rs s → P s := by
  rintro s ⟨h0, h1, h2⟩
  by_cases hs : 0 < s
  · have := (h (s - 1).toNat (by omega)).1
    rwa [show (((s - 1).toNat : Nat) : Int) + 1 = s by omega] at this
  · have := (h (-s - 1).toNat (by omega)).2
    rwa [show 0 - (((-s - 1).toNat : Nat) : Int) - 1 = s by omega] at this
theorem sol_mk {rs : List Rg} {i : Nat} {K : Nat → Bool} {d : Nat → Int} (h1 : K i = true) (h2 : d i = 0) (h3 : ∀ k : Nat, k < rs.length → (K (eOf rs ((k : Int) + 1)).a = true → K (eOf rs ((k : Int) + 1)).b = true ∧ d (eOf rs ((k : Int) + 1)).b ≤ d (eOf rs ((k : Int) + 1)).a + (eOf rs ((k : Int) + 1)).w) ∧
    (K (eOf rs (0 - (k : Int) - 1)).a = true → K (eOf rs (0 - (k : Int) - 1)).b = true ∧ d (eOf rs (0 - (k : Int) - 1)).b ≤ d (eOf rs (0 - (k : Int) - 1)).a + (eOf rs (0 - (k : Int) - 1)).w))
    (h4 : ∀ v, K v = true → ∃ l, follow rs i l = some (v, d v)) : Sol rs i K d :=
  ⟨h1, h2, all_num h3, fun C p hC hp v hv => by
    obtain ⟨l, hl⟩ := h4 v hv
    obtain ⟨a, b⟩ := follow_best hp l i v (d v) hC hl
    exact ⟨a, by omega⟩⟩

def K3 (v : Nat) : Bool := decide (v < 3)
def Kl (v : Nat) : Bool := decide (v = 3)
def d0 (v : Nat) : Int := [0, 102, 152].getD v 0
def d1 (v : Nat) : Int := [-100, 0, 52].getD v 0
def d2 (v : Nat) : Int := [-150, -50, 0].getD v 0
theorem lt3 {v : Nat} (h : K3 v = true) : v = 0 ∨ v = 1 ∨ v = 2 := by simp [K3] at h; omega
theorem sol0 : Sol (smp 152) 0 K3 d0 := sol_mk rfl rfl (by decide) fun v hv => by
  rcases lt3 hv with rfl | rfl | rfl
  · exact ⟨[], by decide⟩
  · exact ⟨[3, -2], by decide⟩
  · exact ⟨[3], by decide⟩
theorem sol1 : Sol (smp 152) 1 K3 d1 := sol_mk rfl rfl (by decide) fun v hv => by
  rcases lt3 hv with rfl | rfl | rfl
  · exact ⟨[-1], by decide⟩
  · exact ⟨[], by decide⟩
  · exact ⟨[-1, 3], by decide⟩
theorem sol2 : Sol (smp 152) 2 K3 d2 := sol_mk rfl rfl (by decide) fun v hv => by
  rcases lt3 hv with rfl | rfl | rfl
  · exact ⟨[-2, -1], by decide⟩
  · exact ⟨[-2], by decide⟩
  · exact ⟨[], by decide⟩
theorem sol3 : Sol (smp 152) 3 Kl (fun _ => 0) := sol_mk rfl rfl (by decide) fun v hv => by
  have : v = 3 := by simpa [Kl] using hv
  subst this
  exact ⟨[], by decide⟩
theorem vl152 : VL 4 (smp 152) := by decide
theorem vl149 : VL 4 (smp 149) := by decide
theorem vl2 : ¬ VL 2 (smp 152) := by decide
theorem pot152 : Pot (smp 152) d0 := all_num (P := fun s => d0 (eOf (smp 152) s).b ≤ d0 (eOf (smp 152) s).a + (eOf (smp 152) s).w) (by decide)
theorem sized152 : Sized (smp 152) 4 [0, 102, 152, 0] := by
  refine ⟨rfl, fun v hv => ?_⟩
  have : v = 0 ∨ v = 1 ∨ v = 2 ∨ v = 3 := by omega
  rcases this with rfl | rfl | rfl | rfl
  · exact ⟨0, K3, d0, sol0, rfl, rfl, fun u K' d' hu => by omega⟩
  · exact ⟨0, K3, d0, sol0, rfl, rfl, fun u K' d' hu => by omega⟩
  · exact ⟨0, K3, d0, sol0, rfl, rfl, fun u K' d' hu => by omega⟩
  · refine ⟨3, Kl, fun _ => 0, sol3, rfl, rfl, fun u K' d' hu h => ?_⟩
    have e : ∀ v, (K' v = K3 v) := fun v => by
      have : u = 0 ∨ u = 1 ∨ u = 2 := by omega
      rcases this with rfl | rfl | rfl
      · exact (h.eq sol0 v).1
      · exact (h.eq sol1 v).1
      · exact (h.eq sol2 v).1
    rw [e]
    rfl
instance (rs : List Rg) (s : Int) : Decidable (Num rs s) := by unfold Num; infer_instance
theorem contra149 : Contra (smp 149) [3, -2, -1] := ⟨by decide, by decide, by decide, by decide, by decide⟩
theorem not149 : ¬ Contra (smp 149) [-1, -2, 3] := fun h => absurd (h.link 0 (by decide)) (by decide)
theorem not152 : ¬ Contra (smp 152) [3, -2, -1] := fun h => absurd h.neg (by decide)

theorem out14a {v : AV} (h : SolveOut 4 (smp 152) v) : v = .tuple [.sval true 4 ([0, 102, 152, 0].map (.int .i64)), .snil, .int .i64 0] := by
  rcases h with ⟨h, _⟩ | ⟨_, ch, hc, _⟩ | ⟨_, _, ys, hs, rfl⟩
  · exact absurd vl152 h
  · exact (hc.no vl152 pot152).elim
  · have := Sized.unique hs sized152
    subst this
    rfl
theorem out14b {v : AV} (h : SolveOut 4 (smp 149) v) : ∃ x : AV, v = .tuple [.snil, x, .int .i64 23] := by
  rcases h with ⟨h, _⟩ | ⟨_, ch, hc, rfl⟩ | ⟨_, ⟨p, hp⟩, _⟩
  · exact absurd vl149 h
  · exact ⟨_, rfl⟩
  · exact (contra149.no vl149 hp).elim
theorem out19 {a b : Nat} {da db : Nat → Int} (ha : Sol (smp 152) a K3 da) (hb : Sol (smp 152) b K3 db) (ha3 : a < 3) (hb3 : b < 3) (hr : -100000000000000 ≤ 0 - db a ∧ 0 - db a ≤ da b ∧ da b ≤ 100000000000000) {v : AV} (h : BoundOut 4 (smp 152) a b v) : v = bv (0 - db a) (da b) 0 := by
  rcases h with ⟨h, _⟩ | ⟨_, h⟩
  · exact absurd ⟨vl152, by omega, by omega, by omega, by omega⟩ h
  · rcases h with ⟨⟨ch, hc⟩, _⟩ | ⟨_, X, Y, hX, hY, h⟩
    · exact (hc.no vl152 pot152).elim
    · simp only [toNat_cast] at hX hY h
      have kb : K3 b = true := by simp [K3, hb3]
      have ka : K3 a = true := by simp [K3, ha3]
      have e1 := hX.eq ha b
      have e2 := hY.eq hb a
      have e3 := e1.2 (by rw [e1.1]; exact kb)
      have e4 := e2.2 (by rw [e2.1]; exact ka)
      rw [e3, e4, e1.1] at h
      rcases h with ⟨h, _⟩ | ⟨_, h, _⟩ | ⟨_, _, rfl⟩
      · exact absurd kb h
      · exact absurd hr h
      · rfl
theorem out19n {v : AV} (h : BoundOut 4 (smp 152) 0 3 v) : v = bv 0 0 4 := by
  rcases h with ⟨h, _⟩ | ⟨_, h⟩
  · exact absurd ⟨vl152, by omega, by omega, by omega, by omega⟩ h
  · rcases h with ⟨⟨ch, hc⟩, _⟩ | ⟨_, X, Y, hX, hY, h⟩
    · exact (hc.no vl152 pot152).elim
    · have e1 := (hX.eq sol0 3).1
      have e : (Int.toNat 3) = 3 := rfl
      rw [e] at h
      rw [e1] at h
      rcases h with ⟨_, rfl⟩ | ⟨h, _, _⟩ | ⟨h, _, _⟩
      · rfl
      · cases h
      · cases h
end Go.Proofs.Ytndaljjljmmlcaa


set_option linter.unusedSimpArgs false
set_option linter.unusedVariables false
namespace Go.Proofs.Ytndaljjljmmlcaa
open Go.Zz
set_option maxRecDepth 100000
set_option maxHeartbeats 8000000
abbrev lOf (m : Int) : AV := .sval true (smp m).length ((smp m).map Rg.cells).flatten
theorem lOf_ok (m : Int) : RdL (lOf m) (smp m) := rdl_mk _ _
theorem lOf_by (m : Int) (H : Hp) : byVal H (lOf m) = some (lOf m) := (lOf_ok m).byVal H
/-- head. -/
theorem f11 : WF E20 (.func 11 [] []) [] ⟨[], []⟩ fun y m' => y = .bool true := by
  obtain ⟨v, hv, h14a⟩ := s14 (n := 4) (lOf_ok 152) (by decide)
  obtain rfl := out14a hv
  obtain ⟨v, hv, h14b⟩ := s14 (n := 4) (lOf_ok 149) (by decide)
  obtain ⟨ch, rfl⟩ := out14b hv
  obtain ⟨v, hv, h19a⟩ := s19 (n := 4) (a := 0) (b := 1) (lOf_ok 152) (by decide)
  obtain rfl := out19 (a := 0) (b := 1) sol0 sol1 (by decide) (by decide) (by decide) hv
  obtain ⟨v, hv, h19b⟩ := s19 (n := 4) (a := 1) (b := 2) (lOf_ok 152) (by decide)
  obtain rfl := out19 (a := 1) (b := 2) sol1 sol2 (by decide) (by decide) (by decide) hv
  obtain ⟨v, hv, h19c⟩ := s19 (n := 4) (a := 0) (b := 3) (lOf_ok 152) (by decide)
  obtain rfl := out19n hv
  obtain ⟨b1, hb1, h18a⟩ := (s18 (n := 4) (lOf_ok 149) (by decide) (IntS.mk [3, -2, -1] true) (by decide)).2 vl149
  obtain rfl : b1 = true := hb1.2 contra149
  obtain ⟨b2, hb2, h18b⟩ := (s18 (n := 4) (lOf_ok 149) (by decide) (IntS.mk [-1, -2, 3] true) (by decide)).2 vl149
  obtain rfl : b2 = false := by cases b2 with | false => rfl | true => exact absurd (hb2.1 rfl) not149
  obtain ⟨b3, hb3, h18c⟩ := (s18 (n := 4) (lOf_ok 152) (by decide) (IntS.mk [3, -2, -1] true) (by decide)).2 vl152
  obtain rfl : b3 = false := by cases b3 with | false => rfl | true => exact absurd (hb3.1 rfl) not152
  have h16 := fun (m : Mem) (b' : AV) (e2 : byVal m.heap b' = some (.sval true 4 ([0, 102, 152, 0].map (.int .i64)))) => s16 (IntS.mk [0, 102, 152, 0] true) (IntS.mk [0, 102, 152, 0] true) (by decide) (by decide) (m := m) (a' := .sval true 4 ([0, 102, 152, 0].map (.int .i64))) rfl e2
  have h12a := fun m => s12 (n := 4) (lOf_ok 152) (by decide) (m := m)
  rw [decide_eq_true vl152] at h12a
  have h12b := fun m => s12 (n := 2) (lOf_ok 152) (by decide) (m := m)
  rw [decide_eq_false vl2] at h12b
  simp only [List.map_cons, List.map_nil, decide_true] at h14a h16
  have e19 : bv (0 - d1 ((0 : Nat))) (d0 1) 0 = bv 100 102 0 := rfl
  have e19' : bv (0 - d2 1) (d1 2) 0 = bv 50 52 0 := rfl
  rw [e19] at h19a
  rw [e19'] at h19b
  generalize hl2 : lOf 152 = l2 at *
  generalize hl9 : lOf 149 = l9 at *
  have b2 : ∀ H, byVal H l2 = some l2 := fun H => by rw [← hl2]; exact lOf_by _ H
  have b9 : ∀ H, byVal H l9 = some l9 := fun H => by rw [← hl9]; exact lOf_by _ H
  have h26a : ∀ m, borrowE E17 26 [.int .i64 152] m = some (l2, m) := fun m => by rw [← hl2]; exact s26
  have h26b : ∀ m, borrowE E17 26 [.int .i64 149] m = some (l9, m) := fun m => by rw [← hl9]; exact s26
  refine WF.fnE rfl (fn_of Try.func11 cir11) (by show 0 ≤ 139; decide) ?_
  unfold ir11
  simp only [padTo, List.replicate, List.nil_append, List.append_nil, List.cons_append]
  repeat' (first | (refine WO.yes rfl ?_) | (refine WO.noE rfl (by simp only [pt8, pt0, pt1, pt2, pt3, pt4, pt5, pt6, pt7]; rfl) ?_) | (refine WO.opE (by intro; simp (disch := omega) only [go_sem, Zz.look, Zz.over, Zz.cut, Nat.reduceAdd, Nat.reduceMul, Nat.reduceSub, Nat.reduceLeDiff, Nat.reduceEqDiff, Int.reduceNeg, Int.reduceAdd, Int.reduceToNat, reduceIte, reduceCtorEq, Nat.mul_one, ia_sref, lk0, lk1, st0, st1, cellsEq, cellEq, eq_self, and_self, Int.reduceEq, Bool.and_true, Bool.true_and, cut2]; rfl) (by simp only [pt8, pt0, pt1, pt2, pt3, pt4, pt5, pt6, pt7]; rfl) ?_) | (refine WO.opN (by intro; simp (disch := omega) only [go_sem, Zz.look, Zz.over, Zz.cut, Nat.reduceAdd, Nat.reduceMul, Nat.reduceSub, Nat.reduceLeDiff, Nat.reduceEqDiff, Int.reduceNeg, Int.reduceAdd, Int.reduceToNat, reduceIte, reduceCtorEq, Nat.mul_one, ia_sref, lk0, lk1, st0, st1, cellsEq, cellEq, eq_self, and_self, Int.reduceEq, Bool.and_true, Bool.true_and, cut2]; rfl) ?_) | (refine WO.opE (by intro; exact ev_lenS (by simp only [go_sem]; first | rfl | assumption)) (by simp only [pt8, pt0, pt1, pt2, pt3, pt4, pt5, pt6, pt7]; rfl) ?_) | (refine WO.specE rfl rfl (h26a _) (by simp only [pt8, pt0, pt1, pt2, pt3, pt4, pt5, pt6, pt7]; rfl) ?_) | (refine WO.specE rfl rfl (h26b _) (by simp only [pt8, pt0, pt1, pt2, pt3, pt4, pt5, pt6, pt7]; rfl) ?_) | (refine WO.specE rfl rfl (h14a _ _ (b2 _)) (by simp only [pt8, pt0, pt1, pt2, pt3, pt4, pt5, pt6, pt7]; rfl) ?_) | (refine WO.specE rfl rfl (h14b _ _ (b9 _)) (by simp only [pt8, pt0, pt1, pt2, pt3, pt4, pt5, pt6, pt7]; rfl) ?_) | (refine WO.specE rfl rfl (h19a _ _ (b2 _)) (by simp only [pt8, pt0, pt1, pt2, pt3, pt4, pt5, pt6, pt7]; rfl) ?_) | (refine WO.specE rfl rfl (h19b _ _ (b2 _)) (by simp only [pt8, pt0, pt1, pt2, pt3, pt4, pt5, pt6, pt7]; rfl) ?_) | (refine WO.specE rfl rfl (h19c _ _ (b2 _)) (by simp only [pt8, pt0, pt1, pt2, pt3, pt4, pt5, pt6, pt7]; rfl) ?_) | (refine WO.specE rfl rfl (h18a _ _ _ (b9 _) rfl) (by simp only [pt8, pt0, pt1, pt2, pt3, pt4, pt5, pt6, pt7]; rfl) ?_) | (refine WO.specE rfl rfl (h18b _ _ _ (b9 _) rfl) (by simp only [pt8, pt0, pt1, pt2, pt3, pt4, pt5, pt6, pt7]; rfl) ?_) | (refine WO.specE rfl rfl (h18c _ _ _ (b2 _) rfl) (by simp only [pt8, pt0, pt1, pt2, pt3, pt4, pt5, pt6, pt7]; rfl) ?_) | (refine WO.specE rfl rfl (h16 _ _ rfl) (by simp only [pt8, pt0, pt1, pt2, pt3, pt4, pt5, pt6, pt7]; rfl) ?_) | (refine WO.specE rfl rfl (h12a _) (by simp only [pt8, pt0, pt1, pt2, pt3, pt4, pt5, pt6, pt7]; rfl) ?_) | (refine WO.specE rfl rfl (h12b _) (by simp only [pt8, pt0, pt1, pt2, pt3, pt4, pt5, pt6, pt7]; rfl) ?_) | (refine WC.seq ?_) | (refine WC.region ?_) | (refine WO.nil ?_) | (simp only [fl1, fl2, fl3, fl4, fl5, fl6, fl7, fl8, fl9, fl10, Nat.reduceBEq]) | (refine WC.calm rfl ?_) | (refine WC.drawT ?_) | (refine WC.yes rfl ?_) | (refine WC.no rfl ?_) | (refine WC.skip ?_) | (refine WC.exit ?_) | (refine WC.ret ?_) | (refine WC.block ?_) | (refine WO.em2 rfl (by intro hp; simp only [hp, decide_true]; rfl) (by intro hp; simp only [hp, decide_false]; rfl) (fun hp => ?_) (fun hp => ?_) <;> try (exfalso; first | omega | contradiction)) | (refine WC.em2 rfl (fun hp => ?_) (fun hp => ?_) <;> try (exfalso; first | omega | contradiction)))
  exact ⟨_, rfl, rfl⟩
theorem s11 {m : Mem} : borrowE E20 11 [] m = some (.bool true, m) := borrowE_of rfl (f11.mono fun y m' h => by rw [h]; rfl)

noncomputable def E21 : Env := E20.put 11 (borrowE E20 11)
theorem E21_ok : EnvOk Try.prog E21 := Env.put_ok E20_ok (borrowE_ok E20_ok (callable Try.func11 (by kernel_rfl)))

/-! ### What the laws need -/

theorem Agree.pot {n : Int} {rs : List Rg} {xs : List Int} (hv : VL n rs) (h : Agree n rs xs) : Pot rs (fun v => xs.getD v 0) := by
  intro s hs
  obtain ⟨h0, h1, h2⟩ := hs
  by_cases hp : 0 < s
  · obtain ⟨p1, p2, p3⟩ := rdOf_pos (rs := rs) hp
    have := h.2.2 (s - 1).toNat (by omega)
    simp only [eOf, p1, p2, p3]
    omega
  · obtain ⟨p1, p2, p3⟩ := rdOf_neg (rs := rs) (s := s) (by omega)
    have := h.2.2 (0 - s - 1).toNat (by omega)
    simp only [eOf, p1, p2, p3]
    omega
theorem Firstly.step {rs : List Rg} {a f : Nat} {y : Int} {s : Int} (hs : Num rs s) (ha : (eOf rs s).a = a) (h : Firstly rs a f y) : ∃ z, Firstly rs (eOf rs s).b f z ∧ z ≤ y + (eOf rs s).w := by
  subst ha
  obtain ⟨K, d, h1, h2, rfl, h4⟩ := h
  obtain ⟨c1, c2⟩ := h1.closed s hs h2
  refine ⟨_, ⟨K, d, h1, c1, rfl, fun u K' d' hu hK => ?_⟩, c2⟩
  cases hk : K' (eOf rs s).b with
  | false => rfl
  | true =>
    obtain ⟨e1, e2, e3⟩ := eOf_rev hs
    have := (hK.closed _ e1 (by rw [e2]; exact hk)).1
    rw [e3, h4 u K' d' hu hK] at this
    cases this
end Go.Proofs.Ytndaljjljmmlcaa

