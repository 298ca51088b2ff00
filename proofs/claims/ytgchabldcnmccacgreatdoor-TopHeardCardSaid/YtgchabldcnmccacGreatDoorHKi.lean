import Derived.Test.YtgchabldcnmccacGreatDoorHKh
import Derived.Test.YtgchabldcnmccacGreatDoorHJa

set_option linter.unusedSimpArgs false
set_option linter.unusedVariables false

namespace Go.Proofs.YtgchabldcnmccacGreatDoor
open Go.Zz
set_option maxRecDepth 100000
set_option maxHeartbeats 8000000
def Mv.cells (m : Mv) : List AV := [.int .i64 m.k, .int .i64 m.b, .int .i64 m.t, .int .i64 m.v.s, .int .i64 m.v.c, .int .i64 m.v.n, .int .i64 m.v.d]
def MvL (x : AV) (ms : List Mv) : Prop := SL 7 x (ms.map Mv.cells)
theorem MvL.len {x : AV} {ms : List Mv} (h : MvL x ms) : slen x = some ms.length := by
 have := SL.len h
 rwa [List.length_map] at this
def mtail (ms : List Mv) (i : Nat) : List AV := ((ms.map Mv.cells).drop (i + 1)).flatten
def mnth (ms : List Mv) (i : Nat) : Mv := ms.getD i default
theorem MvL.at {x : AV} {ms : List Mv} (h : MvL x ms) {i : Nat} (hi : i < ms.length) : indexAddrAV 7 x (.int .i64 (i : Int)) = some (.pval (.int .i64 (mnth ms i).k :: .int .i64 (mnth ms i).b :: .int .i64 (mnth ms i).t :: .int .i64 (mnth ms i).v.s :: .int .i64 (mnth ms i).v.c :: .int .i64 (mnth ms i).v.n :: .int .i64 (mnth ms i).v.d :: mtail ms i)) := by
 have := SL.at h (i := i) (by simpa using hi)
 have e : mnth ms i = ms[i] := by simp [mnth, hi]
 rw [e]
 simpa [Mv.cells, mtail] using this
theorem acF_len (l : List Ac) : (acF l).length = l.length * 6 := by
 induction l with
 | nil => rfl
 | cons a r ih =>
  have e : acF (a :: r) = a.cells ++ acF r := rfl
  have ea : a.cells.length = 6 := rfl
  rw [e, List.length_append, ea, ih, List.length_cons]
  omega
theorem acF_flat (l : List Ac) : (acF l).all flatAV = true := by
 rw [List.all_eq_true]
 intro v hv
 obtain ⟨c, hc, hvc⟩ := List.mem_flatten.1 hv
 obtain ⟨p, _, rfl⟩ := List.mem_map.1 hc
 simp [Ac.cells, Tk.cells] at hvc
 rcases hvc with rfl | rfl | rfl | rfl | rfl | rfl <;> rfl
theorem pmF_flat (l : List Pm) : (pmF l).all flatAV = true := by
 rw [List.all_eq_true]
 intro v hv
 obtain ⟨c, hc, hvc⟩ := List.mem_flatten.1 hv
 obtain ⟨p, _, rfl⟩ := List.mem_map.1 hc
 simp [Pm.cells] at hvc
 rcases hvc with rfl | rfl | rfl | rfl | rfl | rfl | rfl <;> rfl
theorem voF_flat (l : List Vo) : (voF l).all flatAV = true := by
 rw [List.all_eq_true]
 intro v hv
 obtain ⟨c, hc, hvc⟩ := List.mem_flatten.1 hv
 obtain ⟨p, _, rfl⟩ := List.mem_map.1 hc
 simp [Vo.cells, Tk.cells] at hvc
 rcases hvc with rfl | rfl | rfl | rfl | rfl | rfl <;> rfl
theorem stF_flat (l : List (Int × Tk)) : (stF l).all flatAV = true := by
 rw [List.all_eq_true]
 intro v hv
 obtain ⟨c, hc, hvc⟩ := List.mem_flatten.1 hv
 obtain ⟨p, _, rfl⟩ := List.mem_map.1 hc
 simp [stC, Tk.cells] at hvc
 rcases hvc with rfl | rfl | rfl | rfl | rfl <;> rfl
def slV (l : List AV) (len : Nat) : AV := if len = 0 then .snil else .sval false len l
def rsV (s : RS) : AV := .agg [.sval true s.acs.length (acF s.acs), slV (pmF s.pms) s.pms.length, slV (stF s.sts) s.sts.length, slV (voF s.vos) s.vos.length]
theorem SlH.res {H H' : Hp} {z : AV} {k len : Nat} {l : List AV} (h : SlH H z k l len) (hf : l.all flatAV = true) (hk : ∀ j, inB z j → H'[j]? = H[j]?) : resC H' z = some (slV l len) := by
 obtain ⟨h1, ⟨rfl, rfl⟩ | ⟨h2, id, g, rfl, h3⟩⟩ := h
 ·rfl
 ·have e : Zz.look H' id g = some l := by rw [look_of_get (hk id rfl)]; exact h3
  have e2 : Zz.cut l 0 (len * k) = some l := by
   unfold Zz.cut
   rw [if_pos (by omega)]
   simp [← h1]
  simp only [resC, e, e2, hf, if_true, slV]
  rw [if_neg (by omega)]
  rfl
theorem SlH.resN {H H' : Hp} {z : AV} {k len : Nat} {l : List AV} (h : SlH H z k l len) (hf : l.all flatAV = true) (hk : ∀ j, inB z j → H'[j]? = H[j]?) : newC H' z = some (slV l len) := by
 have h2 := h.res hf hk
 obtain ⟨h1, ⟨rfl, rfl⟩ | ⟨_, id, g, rfl, _⟩⟩ := h
 ·rfl
 ·exact h2
def BV (H : Hp) (y v : AV) : Prop := resV H y = some v ∧ newV H y = some v
theorem RunAt.res {H : Hp} {L : List (Option ALoop)} {rb tb mb n ab : Nat} {s : RS} {zp zs zv : AV} {c : List AV} (h : RunAt H L rb tb mb n s ab zp zs zv) (e : Int) : BV (setBlk H 0 0 c) (.tuple [.agg [.sref ab 0 0 6 n (some n), zp, zs, zv], .int .i64 e]) (.tuple [rsV s, .int .i64 e]) := by
 have hk : ∀ j, 0 ≠ j → (setBlk H 0 0 c)[j]? = H[j]? := fun j hj => List.getElem?_set_ne hj
 obtain ⟨d1, d2, d3, d4⟩ := h.d
 have e0 : Zz.look (setBlk H 0 0 c) ab 0 = some (acF s.acs) := by rw [look_of_get (hk _ (Ne.symm d3))]; exact h.a
 have ec : Zz.cut (acF s.acs) 0 (n * 6) = some (acF s.acs) := by
  have := acF_len s.acs
  rw [h.n] at this
  unfold Zz.cut
  rw [if_pos (by omega)]
  simp [← this]
 have ea : resC (setBlk H 0 0 c) (.sref ab 0 0 6 n (some n)) = some (.sval true s.acs.length (acF s.acs)) := by
  simp only [resC, e0, ec, acF_flat, if_true, h.n]
  simp
 have ep := h.p.res (pmF_flat _) fun j hj => hk j (Ne.symm (h.dp j hj).2.2.1)
 have es := h.t.res (stF_flat _) fun j hj => hk j (Ne.symm (h.dt j hj).2.2.1)
 have ev := h.v.res (voF_flat _) fun j hj => hk j (Ne.symm (h.dv j hj).2.2)
 have ea' : newC (setBlk H 0 0 c) (.sref ab 0 0 6 n (some n)) = some (.sval true s.acs.length (acF s.acs)) := ea
 have ep' := h.p.resN (pmF_flat _) fun j hj => hk j (Ne.symm (h.dp j hj).2.2.1)
 have es' := h.t.resN (stF_flat _) fun j hj => hk j (Ne.symm (h.dt j hj).2.2.1)
 have ev' := h.v.resN (voF_flat _) fun j hj => hk j (Ne.symm (h.dv j hj).2.2)
 constructor
 ·simp only [resV, resT, resA, resL, ea, ep, es, ev]
  rfl
 ·simp only [newV, newT, newA, newL, ea', ep', es', ev']
  rfl
section
variable {a b x y : Option Blk} {l : List AV} {g : Nat} {X Y Z : Hp}
theorem lc1X : Zz.look (a :: (X ++ some ⟨g, l⟩ :: Z)) (X.length + 1) g = some l := by simp [Zz.look]
theorem st1X : (a :: (X ++ x :: Z)).set (X.length + 1) y = a :: (X ++ y :: Z) := by simp
theorem lc1Y : Zz.look (a :: (X ++ b :: some ⟨g, l⟩ :: Z)) (X.length + 1 + 1) g = some l := by
 have : (a :: (X ++ b :: some ⟨g, l⟩ :: Z)) = (a :: (X ++ [b])) ++ some ⟨g, l⟩ :: Z := by simp
 rw [this]
 exact lk0 (by simp)
theorem st1Y : (a :: (X ++ b :: x :: Z)).set (X.length + 1 + 1) y = a :: (X ++ b :: y :: Z) := by
 have : ∀ w, (a :: (X ++ b :: w :: Z)) = (a :: (X ++ [b])) ++ w :: Z := fun w => by simp
 rw [this, this]
 exact st0 (by simp)
end
def kfun (k : Int) : AV := .agg [.func (if k = 2 then 38 else 35) [] [], .func (if k = 1 then 37 else if k = 2 then 40 else 41) [] []]
theorem kinds_find {k : Int} : mfind (.int .i64 k) kindsEs = if k = 1 ∨ k = 2 ∨ k = 3 then some (kfun k) else none := by
 unfold kindsEs kfun
 simp only [mfind, keyEq, decide_eq_true_eq]
 by_cases h1 : k = 1
 ·simp [h1]
 ·by_cases h2 : k = 2
  ·simp [h2]
  ·by_cases h3 : k = 3 <;> simp [h1, h2, h3]
theorem stepM_len {n : Int} {s : RS} {m : Mv} {i : Nat} (h : s.pms.length ≤ i ∧ s.sts.length ≤ i ∧ s.vos.length ≤ i) : (stepM n s m).pms.length ≤ i + 1 ∧ (stepM n s m).sts.length ≤ i + 1 ∧ (stepM n s m).vos.length ≤ i + 1 := by
 obtain ⟨h1, h2, h3⟩ := h
 unfold stepM
 dsimp only
 repeat' split
 all_goals (try simp only [List.length_append, List.length_singleton]) <;> omega
theorem WO.ispec {Γ : Env} {r : List IOper} {T T' : List AV} {H H' : Hp} {L L' : List (Option ALoop)} {Q : St → Prop} {d g : Nat} {f : Opd} {args : List Opd} {v : AV} {aa : List AV} {S : List AV → Mem → Option (AV × Mem)} (hf : f.ev T = .func g [] []) (ha : args.map (·.ev T) = aa) (hs : Γ.spec g = some S) (h : S aa ⟨H, L⟩ = some (v, ⟨H', L'⟩)) (ht : pt T d v = T') (k : WO Γ r ⟨T', H', L'⟩ Q) : WO Γ (⟨none, some d, .call f args⟩ :: r) ⟨T, H, L⟩ Q :=
 WO.callE hf ha (WF.spec hs (by simpa using h) ⟨rfl, rfl⟩) ht k
theorem rs0_zeros (nn : Nat) : zeros [.int .i64 0, .int .i64 0, .int .i64 0, .int .i64 0, .int .i64 0, .int .i64 0] nn = acF (rs0 nn).acs := by
 simp only [rs0, Int.toNat_natCast]
 induction nn with
 | zero => rfl
 | succ k ih =>
  rw [List.replicate_succ]
  have e : acF (ac0 :: List.replicate k ac0) = ac0.cells ++ acF (List.replicate k ac0) := rfl
  rw [e, ← ih]
  simp [zeros, Ac.cells, Tk.cells, ac0, tk0]
def runV (n : Int) (ms : List Mv) : AV := if RunOk n ms then .tuple [rsV (runM n ms), .int .i64 0] else .tuple [.agg [.snil, .snil, .snil, .snil], .int .i64 1]
theorem f5 {n : Int} {x : AV} {ms : List Mv} (hx : MvL x ms) (hbig : ms.length ≤ 1000000) : WF E11 (.func 5 [] []) [.int .i64 n, x] ⟨[], []⟩ fun y m' => BV m'.heap y (runV n ms) := by
  have hcx := SL.cells hx
  unfold AV.cells at hcx
  have bad : ¬ RunOk n ms → runV n ms = .tuple [.agg [.snil, .snil, .snil, .snil], .int .i64 1] := fun h => if_neg h
  by_cases hg : 1 ≤ n ∧ n ≤ 8 ∧ ms.length ≤ 200
  · obtain ⟨g1, g2, g3⟩ := hg
    refine WF.fnE rfl (fn_of Tryz.func5 cir5) (by show 2 ≤ 84; decide) ?_
    unfold ir5; dsimp only [k0, kI, mV, oO, oG]
    simp only [padTo, List.replicate, List.nil_append, List.append_nil]
    repeat' (first | (refine WO.yes rfl ?_) | (refine WO.opE (by intro; simp (disch := omega) only [go_sem]; rfl) (by simp only [pt8, pt0, pt1, pt2, pt3, pt4, pt5, pt6, pt7]; rfl) ?_) | (refine WO.opE (by intro; exact ev_lenS (by simp only [go_sem]; exact hx.len)) (by simp only [pt8, pt6]; rfl) ?_) | (refine WC.seq ?_) | (refine WC.region ?_) | (refine WO.nil ?_) | (simp only [fl1]) | (refine WC.skip ?_) | (refine WO.em2 rfl (by intro hp; simp only [hp, decide_true]; rfl) (by intro hp; simp only [hp, decide_false]; rfl) (fun hp => ?_) (fun hp => ?_) <;> try (exfalso; first | omega | contradiction)) | (refine WC.em2 rfl (fun hp => ?_) (fun hp => ?_) <;> try (exfalso; first | omega | contradiction)))
    refine WO.call rfl rfl (f10.mono ?_)
    rintro y _ ⟨rfl, rfl⟩
    simp only [pt8, pt2]
    repeat' (first | (refine WO.opE (by intro; simp (disch := omega) only [go_sem]; rfl) (by simp only [pt8, pt3, pt5, pt6]; rfl) ?_) | (refine WO.opE (by intro; exact ev_lenS (by simp only [go_sem]; exact hx.len)) (by simp only [pt8, pt4]; rfl) ?_) | (refine WC.seq ?_) | (refine WC.region ?_) | (refine WO.nil ?_) | (simp only [fl1]) | (refine WC.block ?_))
    refine WC.loopI (fun m s => ∃ T i X, s = ⟨T, some ⟨0, [.snil, .snil, .snil, .snil]⟩ :: X, [some (mapObj kindsEs)]⟩ ∧ T.length = 84 ∧ gt T 0 = .int .i64 n ∧ gt T 1 = x ∧ gt T 4 = .pref 0 0 0 ∧ gt T 5 = .int .i64 0 ∧ gt T 6 = .mref 0 ∧ gt T 27 = x ∧ gt T 28 = .int .i64 (ms.length : Nat) ∧ gt T 29 = .int .i64 (i : Nat) ∧ m + i = ms.length ∧ ∀ j < i, MvOk n (mnth ms j)) ?_ ms.length _ ⟨_, 0, [], rfl, rfl, rfl, rfl, rfl, rfl, rfl, rfl, rfl, rfl, by omega, by omega⟩
    rintro m _ ⟨T, i, X, rfl, hT, g0, g1, g4, g5, g6, g27, g28, g29, hml, hok⟩
    obtain ⟨f, rfl⟩ := ex84 hT
    clear hT
    replace g0 : f 0 = .int .i64 n := g0
    replace g1 : f 1 = x := g1
    replace g4 : f 4 = .pref 0 0 0 := g4
    replace g5 : f 5 = .int .i64 0 := g5
    replace g6 : f 6 = .mref 0 := g6
    replace g27 : f 27 = x := g27
    replace g28 : f 28 = .int .i64 (ms.length : Nat) := g28
    replace g29 : f 29 = .int .i64 (i : Nat) := g29
    simp only [g0, g1, g4, g5, g6, g27, g28, g29]
    by_cases hi : i < ms.length
    · have hat := hx.at hi
      generalize hmv : mnth ms i = mv at *
      have hkf := kinds_find (k := mv.k)
      have hnok : ¬ MvOk n mv → ¬ RunOk n ms := fun h1 h2 => h1 (by
        rw [← hmv]
        have : mnth ms i = ms[i] := by simp [mnth, hi]
        rw [this]
        exact h2.2.2.2 _ (List.getElem_mem hi))
      by_cases hkk : mv.k = 1 ∨ mv.k = 2 ∨ mv.k = 3
      · rw [if_pos hkk] at hkf
        unfold kfun at hkf
        have hnext : MvOk n mv → ∀ j < i + 1, MvOk n (mnth ms j) := fun h j hj => by
          by_cases e : j = i
          · subst e; rw [hmv]; exact h
          · exact hok j (by omega)
        have hleaf : ∀ h : ¬ MvOk n mv, runV n ms = .tuple [.agg [.snil, .snil, .snil, .snil], .int .i64 1] := fun h => bad (hnok h)
        rcases hkk with hk | hk | hk <;> rw [hk] at hkf <;> simp only [if_true, if_false, Int.reduceEq] at hkf
        all_goals clear bad hnok
        · replace hkf : mfind (.int .i64 mv.k) kindsEs = some (.agg [.func 35 [] [], .func 37 [] []]) := hk.symm ▸ hkf
          repeat' (first | (refine WO.yes rfl ?_) | (refine WO.noE rfl (by simp only [pt8, pt1, pt2, pt3, pt4, pt5, pt6]; rfl) ?_) | (refine WO.opE (by intro; simp (disch := omega) only [go_sem, List.length_append, cut7, fillP, hat, lc1X, lc1Y, List.append_assoc]; rfl) (by simp only [pt8, pt0, pt1, pt2, pt3, pt4, pt5, pt6, pt7]; rfl) ?_) | (refine WO.opN (by intro; simp (disch := omega) only [go_sem, ov_all2, ov_all4, over7, Option.bind_eq_bind, Nat.reduceAdd, lc0, lc1X, lc1Y, st1X, st1Y, setBlk, List.set_cons_zero]; rfl) ?_) | (refine WO.opE (by intro; refine Eq.trans (ev_mapGet (n := .int .i64 mv.k) rfl rfl rfl (rfl) (rfl)) ?_; simp only [hkf, if_true, Option.getD, Option.isSome]; rfl) (by simp only [pt8, pt5]; rfl) ?_) | (refine WO.specE rfl rfl (s11) (by simp only [pt8, pt5]; rfl) ?_) | (refine WO.ispec rfl rfl rfl (s19 (m := mv)) (by simp only [pt8, pt5]; rfl) ?_) | (refine WC.seq ?_) | (refine WC.region ?_) | (refine WO.nil ?_) | (simp only [fl1, fl2, fl5, fl8, fl10]) | (refine WC.yes rfl ?_) | (refine WC.skip ?_) | (refine WC.ret ?_) | (refine WC.block ?_) | (refine WO.em2 rfl (by intro hp; simp only [hp]; rfl) (by intro hp; simp only [hp, decide_false]; rfl) (fun hp => ?_) (fun hp => ?_) <;> try (exfalso; first | omega | contradiction)) | (refine WC.em2 rfl (fun hp => ?_) (fun hp => ?_) <;> try (exfalso; first | omega | contradiction)))
          · refine ⟨_, rfl, ?_⟩
            rw [hleaf fun h => ‹¬ BlOk mv.b› h.1]
            exact ⟨rfl, rfl⟩
          · refine ⟨_, rfl, ?_⟩
            rw [hleaf fun h => by
              obtain ⟨_, h | h | h⟩ := h
              all_goals first | (have := h.1; omega) | exact absurd h.2 (by assumption)]
            exact ⟨rfl, rfl⟩
          · refine ⟨m - 1, by omega, _, i + 1, X ++ [_, _], rfl, rfl, rfl, rfl, rfl, rfl, rfl, rfl, rfl, rfl, by omega, hnext ⟨Decidable.not_not.1 (by assumption), ?_⟩⟩
            have := Decidable.not_not.1 ‹¬¬DkOk mv.t n›
            simp_all
        · replace hkf : mfind (.int .i64 mv.k) kindsEs = some (.agg [.func 38 [] [], .func 40 [] []]) := hk.symm ▸ hkf
          repeat' (first | (refine WO.yes rfl ?_) | (refine WO.noE rfl (by simp only [pt8, pt1, pt2, pt3, pt4, pt5, pt6]; rfl) ?_) | (refine WO.opE (by intro; simp (disch := omega) only [go_sem, List.length_append, cut7, fillP, hat, lc1X, lc1Y, List.append_assoc]; rfl) (by simp only [pt8, pt0, pt1, pt2, pt3, pt4, pt5, pt6, pt7]; rfl) ?_) | (refine WO.opN (by intro; simp (disch := omega) only [go_sem, ov_all2, ov_all4, over7, Option.bind_eq_bind, Nat.reduceAdd, lc0, lc1X, lc1Y, st1X, st1Y, setBlk, List.set_cons_zero]; rfl) ?_) | (refine WO.opE (by intro; refine Eq.trans (ev_mapGet (n := .int .i64 mv.k) rfl rfl rfl (rfl) (rfl)) ?_; simp only [hkf, if_true, Option.getD, Option.isSome]; rfl) (by simp only [pt8, pt5]; rfl) ?_) | (refine WO.specE rfl rfl (s11) (by simp only [pt8, pt5]; rfl) ?_) | (refine WO.ispec rfl rfl rfl (s22 (m := mv)) (by simp only [pt8, pt5]; rfl) ?_) | (refine WC.seq ?_) | (refine WC.region ?_) | (refine WO.nil ?_) | (simp only [fl1, fl2, fl5, fl8, fl10]) | (refine WC.yes rfl ?_) | (refine WC.skip ?_) | (refine WC.ret ?_) | (refine WC.block ?_) | (refine WO.em2 rfl (by intro hp; simp only [hp]; rfl) (by intro hp; simp only [hp, decide_false]; rfl) (fun hp => ?_) (fun hp => ?_) <;> try (exfalso; first | omega | contradiction)) | (refine WC.em2 rfl (fun hp => ?_) (fun hp => ?_) <;> try (exfalso; first | omega | contradiction)))
          · refine ⟨_, rfl, ?_⟩
            rw [hleaf fun h => ‹¬ BlOk mv.b› h.1]
            exact ⟨rfl, rfl⟩
          · refine ⟨_, rfl, ?_⟩
            rw [hleaf fun h => by
              obtain ⟨_, h | h | h⟩ := h
              all_goals first | (have := h.1; omega) | exact absurd h.2 (by assumption)]
            exact ⟨rfl, rfl⟩
          · refine ⟨m - 1, by omega, _, i + 1, X ++ [_, _], rfl, rfl, rfl, rfl, rfl, rfl, rfl, rfl, rfl, rfl, by omega, hnext ⟨Decidable.not_not.1 (by assumption), ?_⟩⟩
            have := Decidable.not_not.1 ‹¬¬TkOk mv.v›
            simp_all
        · replace hkf : mfind (.int .i64 mv.k) kindsEs = some (.agg [.func 35 [] [], .func 41 [] []]) := hk.symm ▸ hkf
          repeat' (first | (refine WO.yes rfl ?_) | (refine WO.noE rfl (by simp only [pt8, pt1, pt2, pt3, pt4, pt5, pt6]; rfl) ?_) | (refine WO.opE (by intro; simp (disch := omega) only [go_sem, List.length_append, cut7, fillP, hat, lc1X, lc1Y, List.append_assoc]; rfl) (by simp only [pt8, pt0, pt1, pt2, pt3, pt4, pt5, pt6, pt7]; rfl) ?_) | (refine WO.opN (by intro; simp (disch := omega) only [go_sem, ov_all2, ov_all4, over7, Option.bind_eq_bind, Nat.reduceAdd, lc0, lc1X, lc1Y, st1X, st1Y, setBlk, List.set_cons_zero]; rfl) ?_) | (refine WO.opE (by intro; refine Eq.trans (ev_mapGet (n := .int .i64 mv.k) rfl rfl rfl (rfl) (rfl)) ?_; simp only [hkf, if_true, Option.getD, Option.isSome]; rfl) (by simp only [pt8, pt5]; rfl) ?_) | (refine WO.specE rfl rfl (s11) (by simp only [pt8, pt5]; rfl) ?_) | (refine WO.ispec rfl rfl rfl (s19 (m := mv)) (by simp only [pt8, pt5]; rfl) ?_) | (refine WC.seq ?_) | (refine WC.region ?_) | (refine WO.nil ?_) | (simp only [fl1, fl2, fl5, fl8, fl10]) | (refine WC.yes rfl ?_) | (refine WC.skip ?_) | (refine WC.ret ?_) | (refine WC.block ?_) | (refine WO.em2 rfl (by intro hp; simp only [hp]; rfl) (by intro hp; simp only [hp, decide_false]; rfl) (fun hp => ?_) (fun hp => ?_) <;> try (exfalso; first | omega | contradiction)) | (refine WC.em2 rfl (fun hp => ?_) (fun hp => ?_) <;> try (exfalso; first | omega | contradiction)))
          · refine ⟨_, rfl, ?_⟩
            rw [hleaf fun h => ‹¬ BlOk mv.b› h.1]
            exact ⟨rfl, rfl⟩
          · refine ⟨_, rfl, ?_⟩
            rw [hleaf fun h => by
              obtain ⟨_, h | h | h⟩ := h
              all_goals first | (have := h.1; omega) | exact absurd h.2 (by assumption)]
            exact ⟨rfl, rfl⟩
          · refine ⟨m - 1, by omega, _, i + 1, X ++ [_, _], rfl, rfl, rfl, rfl, rfl, rfl, rfl, rfl, rfl, rfl, by omega, hnext ⟨Decidable.not_not.1 (by assumption), ?_⟩⟩
            have := Decidable.not_not.1 ‹¬¬DkOk mv.t n›
            simp_all
      · rw [if_neg hkk] at hkf
        repeat' (first | (refine WO.noE rfl (by simp only [pt8, pt1, pt2, pt3, pt4, pt5, pt6]; rfl) ?_) | (refine WO.opE (by intro; simp (disch := omega) only [go_sem, List.length_append, cut7, fillP, hat, lc1X, List.append_assoc]; rfl) (by simp only [pt8, pt0, pt1, pt2, pt3, pt4, pt5, pt6, pt7]; rfl) ?_) | (refine WO.opN (by intro; simp (disch := omega) only [go_sem, ov_all2, ov_all4, over7, Option.bind_eq_bind, Nat.reduceAdd, lc0, lc1X, lc1Y, st1X, st1Y, setBlk, List.set_cons_zero]; rfl) ?_) | (refine WO.opE (by intro; refine Eq.trans (ev_mapGet (n := .int .i64 mv.k) rfl rfl rfl (rfl) (rfl)) ?_; simp only [hkf, if_true, Option.getD, Option.isSome]; rfl) (by simp only [pt8, pt5]; rfl) ?_) | (refine WC.seq ?_) | (refine WC.region ?_) | (refine WO.nil ?_) | (simp only [fl1, fl2, fl5, fl8]) | (refine WC.yes rfl ?_) | (refine WC.skip ?_) | (refine WC.ret ?_) | (refine WC.block ?_) | (refine WC.em2 rfl (fun hp => ?_) (fun hp => ?_) <;> try (exfalso; first | omega | contradiction)))
        refine ⟨_, rfl, ?_⟩
        rw [bad (hnok fun h => hkk (by obtain ⟨_, h | h | h⟩ := h <;> simp [h.1]))]
        exact ⟨rfl, rfl⟩
    · have hie : i = ms.length := by omega
      have hro : RunOk n ms := ⟨by assumption, g2, g3, fun m hm => by
        obtain ⟨j, hj, rfl⟩ := List.getElem_of_mem hm
        have := hok j (by omega)
        have e : mnth ms j = ms[j] := by simp [mnth, hj]
        rwa [e] at this⟩
      clear hok bad
      obtain ⟨nn, rfl⟩ : ∃ nn : Nat, n = nn := ⟨n.toNat, by omega⟩
      have hz0 := rs0_zeros nn
      have hmk : ∀ G L call T' l c, l.ev T' = .int .i64 (nn : Int) → c.ev T' = .int .i64 (nn : Int) → evOp call T' ⟨G, L⟩ (.makeSlice 6 48 [.int .i64 0, .int .i64 0, .int .i64 0, .int .i64 0, .int .i64 0, .int .i64 0] l c) = some (.sref G.length 0 0 6 nn (some nn), ⟨G ++ [some ⟨0, acF (rs0 nn).acs⟩], L⟩) := fun G L call T' l c h1 h2 => by
        rw [ev_makeSlice, h1, h2]
        simp only [Int.toNat_natCast, hz0, newBlk]
        rw [if_pos (by omega)]
      have hrun : runV nn ms = .tuple [rsV (runM nn (ms.take ms.length)), .int .i64 0] := by rw [List.take_length]; exact if_pos hro
      rw [hrun]
      repeat' (first | (refine WO.opE (by intro; simp (disch := omega) only [go_sem, List.length_append, ov_one0, ov_all4, fillP, Option.bind_eq_bind, Nat.reduceAdd, List.append_assoc]; rfl) (by simp only [pt8, pt0, pt1, pt2, pt3, pt4, pt5, pt6, pt7]; rfl) ?_) | (refine WO.opE (by intro; exact hmk _ _ _ _ _ _ rfl rfl) (by simp only [pt8, pt3]; rfl) ?_) | (refine WO.opE (by intro; exact ev_lenS (by simp only [go_sem]; exact hx.len)) (by simp only [pt8, pt2]; rfl) ?_) | (refine WC.seq ?_) | (refine WC.region ?_) | (refine WO.nil ?_) | (simp only [fl1]) | (refine WC.exit ?_) | (refine WC.block ?_) | (refine WC.em2 rfl (fun hp => ?_) (fun hp => ?_) <;> try (exfalso; first | omega | contradiction)))
      have h0 : RunAt (some ⟨0, [.snil, .snil, .snil, .snil]⟩ :: (X ++ [some ⟨0, acF (rs0 nn).acs⟩, some ⟨0, [.sref (X.length + 1) 0 0 6 nn (some nn), .snil, .snil, .snil, .int .i64 (nn : Nat), .mref 1]⟩])) [some (mapObj kindsEs), some (mapObj [])] (X.length + 1 + 1) 0 1 nn (runM nn (ms.take 0)) (X.length + 1) .snil .snil .snil :=
        { r := lc1Y, a := lc1X, n := by simp [runM, rs0], p := ⟨rfl, .inl ⟨rfl, rfl⟩⟩, t := ⟨rfl, .inl ⟨rfl, rfl⟩⟩, v := ⟨rfl, .inl ⟨rfl, rfl⟩⟩, z := rfl, m := rfl, k := rfl, d := by omega
          dp := fun j hj => hj.elim, dt := fun j hj => hj.elim, dv := fun j hj => hj.elim }
      generalize some ⟨0, [.snil, .snil, .snil, .snil]⟩ :: (X ++ [some ⟨0, acF (rs0 nn).acs⟩, some ⟨0, [.sref (X.length + 1) 0 0 6 nn (some nn), .snil, .snil, .snil, .int .i64 (nn : Nat), .mref 1]⟩]) = H0 at *
      generalize [some (mapObj kindsEs), some (mapObj [])] = L0 at *
      have e0 : (runM nn (ms.take 0)) = rs0 nn := by simp [runM]
      refine WC.loopI (fun m s => ∃ T q H L ab zp zs zv, s = ⟨T, H, L⟩ ∧ T.length = 84 ∧ gt T 0 = .int .i64 (nn : Nat) ∧ gt T 1 = x ∧ gt T 4 = .pref 0 0 0 ∧ gt T 5 = .int .i64 0 ∧ gt T 6 = .mref 0 ∧ gt T 11 = .pref (X.length + 1 + 1) 0 0 ∧ gt T 65 = x ∧ gt T 66 = .int .i64 (ms.length : Nat) ∧ gt T 67 = .int .i64 (q : Nat) ∧ m + q = ms.length ∧ RunAt H L (X.length + 1 + 1) 0 1 nn (runM nn (ms.take q)) ab zp zs zv ∧ ((runM nn (ms.take q)).pms.length ≤ q ∧ (runM nn (ms.take q)).sts.length ≤ q ∧ (runM nn (ms.take q)).vos.length ≤ q)) ?_ ms.length _ ⟨_, 0, H0, L0, _, _, _, _, rfl, rfl, rfl, rfl, rfl, rfl, rfl, rfl, rfl, rfl, rfl, by omega, h0, by rw [e0]; simp [rs0]⟩
      clear h0 e0 hz0 hmk
      rintro m _ ⟨T, q, H, L, ab, zp, zs, zv, rfl, hT, g0, g1, g4, g5, g6, g11, g65, g66, g67, hml, hra, hlen⟩
      obtain ⟨f, rfl⟩ := ex84 hT
      clear hT
      replace g0 : f 0 = .int .i64 (nn : Nat) := g0
      replace g1 : f 1 = x := g1
      replace g4 : f 4 = .pref 0 0 0 := g4
      replace g5 : f 5 = .int .i64 0 := g5
      replace g6 : f 6 = .mref 0 := g6
      replace g11 : f 11 = .pref (X.length + 1 + 1) 0 0 := g11
      replace g65 : f 65 = x := g65
      replace g66 : f 66 = .int .i64 (ms.length : Nat) := g66
      replace g67 : f 67 = .int .i64 (q : Nat) := g67
      simp only [g0, g1, g4, g5, g6, g11, g65, g66, g67]
      have hr := hra.r
      have hz := hra.z
      have hkk := hra.k
      by_cases hi : q < ms.length
      · have hat := hx.at hi
        have hmo : MvOk nn (mnth ms q) := by
          have e : mnth ms q = ms[q] := by simp [mnth, hi]
          rw [e]
          exact hro.2.2.2 _ (List.getElem_mem hi)
        have hst : runM nn (ms.take (q + 1)) = stepM nn (runM nn (ms.take q)) (mnth ms q) := by
          have e : mnth ms q = ms[q] := by simp [mnth, hi]
          rw [List.take_succ_eq_append_getElem hi, runM_snoc, e]
        have hlen2 := stepM_len (n := nn) (m := mnth ms q) hlen
        rw [← hst] at hlen2
        generalize hmv : mnth ms q = mv at *
        have hkf := kinds_find (k := mv.k)
        have hkd : mv.k = 1 ∨ mv.k = 2 ∨ mv.k = 3 := by obtain ⟨_, h | h | h⟩ := hmo <;> simp [h.1]
        rw [if_pos hkd] at hkf
        unfold kfun at hkf
        rcases hkd with hk | hk | hk <;> rw [hk] at hkf <;> simp only [if_true, if_false, Int.reduceEq] at hkf
        · replace hkf : mfind (.int .i64 mv.k) kindsEs = some (.agg [.func 35 [] [], .func 37 [] []]) := hk.symm ▸ hkf
          repeat' (first | (refine WO.opE (by intro; simp (disch := omega) only [go_sem, cut7, hat, lk0]; rfl) (by simp only [pt8, pt0, pt1, pt3, pt4, pt5, pt6, pt7]; rfl) ?_) | (refine WO.opN (by intro; simp (disch := omega) only [go_sem, over7, Option.bind_eq_bind, Nat.reduceAdd, lk0, st0, setBlk]; rfl) ?_) | (refine WO.opE (by intro; refine Eq.trans (ev_mapGet (n := .int .i64 mv.k) rfl rfl rfl (hkk) (rfl)) ?_; simp only [hkf, if_false, Bool.false_eq_true, Option.getD, Option.isSome]; rfl) (by simp only [pt8, pt2]; rfl) ?_) | (refine WC.seq ?_) | (refine WC.region ?_) | (refine WO.nil ?_) | (simp only [fl1, fl4]) | (refine WC.skip ?_) | (refine WC.block ?_) | (refine WC.em2 rfl (fun hp => ?_) (fun hp => ?_) <;> try (exfalso; first | omega | contradiction)))
          refine WO.call rfl rfl ((f21 (hra.more fun j hj => List.getElem?_append_left hj) hk hmo (by omega) (by omega)).mono ?_)
          rintro y m' ⟨ab', zp', zs', zv', hra'⟩
          rw [← hst] at hra'
          simp only [pt8, pt6]
          repeat' (first | (refine WO.opE (by intro; simp (disch := omega) only [go_sem]; rfl) (by simp only [pt8, pt3, pt7]; rfl) ?_) | (refine WC.region ?_) | (refine WO.nil ?_) | (simp only [fl10]))
          exact ⟨m - 1, by omega, _, q + 1, _, _, ab', zp', zs', zv', rfl, rfl, rfl, rfl, rfl, rfl, rfl, rfl, rfl, rfl, rfl, by omega, hra', hlen2⟩
        · replace hkf : mfind (.int .i64 mv.k) kindsEs = some (.agg [.func 38 [] [], .func 40 [] []]) := hk.symm ▸ hkf
          repeat' (first | (refine WO.opE (by intro; simp (disch := omega) only [go_sem, cut7, hat, lk0]; rfl) (by simp only [pt8, pt0, pt1, pt3, pt4, pt5, pt6, pt7]; rfl) ?_) | (refine WO.opN (by intro; simp (disch := omega) only [go_sem, over7, Option.bind_eq_bind, Nat.reduceAdd, lk0, st0, setBlk]; rfl) ?_) | (refine WO.opE (by intro; refine Eq.trans (ev_mapGet (n := .int .i64 mv.k) rfl rfl rfl (hkk) (rfl)) ?_; simp only [hkf, if_false, Bool.false_eq_true, Option.getD, Option.isSome]; rfl) (by simp only [pt8, pt2]; rfl) ?_) | (refine WC.seq ?_) | (refine WC.region ?_) | (refine WO.nil ?_) | (simp only [fl1, fl4]) | (refine WC.skip ?_) | (refine WC.block ?_) | (refine WC.em2 rfl (fun hp => ?_) (fun hp => ?_) <;> try (exfalso; first | omega | contradiction)))
          refine WO.call rfl rfl ((f24 (hra.more fun j hj => List.getElem?_append_left hj) hk hmo (by omega) (by omega) (by omega)).mono ?_)
          rintro y m' ⟨ab', zp', zs', zv', hra'⟩
          rw [← hst] at hra'
          simp only [pt8, pt6]
          repeat' (first | (refine WO.opE (by intro; simp (disch := omega) only [go_sem]; rfl) (by simp only [pt8, pt3, pt7]; rfl) ?_) | (refine WC.region ?_) | (refine WO.nil ?_) | (simp only [fl10]))
          exact ⟨m - 1, by omega, _, q + 1, _, _, ab', zp', zs', zv', rfl, rfl, rfl, rfl, rfl, rfl, rfl, rfl, rfl, rfl, rfl, by omega, hra', hlen2⟩
        · replace hkf : mfind (.int .i64 mv.k) kindsEs = some (.agg [.func 35 [] [], .func 41 [] []]) := hk.symm ▸ hkf
          repeat' (first | (refine WO.opE (by intro; simp (disch := omega) only [go_sem, cut7, hat, lk0]; rfl) (by simp only [pt8, pt0, pt1, pt3, pt4, pt5, pt6, pt7]; rfl) ?_) | (refine WO.opN (by intro; simp (disch := omega) only [go_sem, over7, Option.bind_eq_bind, Nat.reduceAdd, lk0, st0, setBlk]; rfl) ?_) | (refine WO.opE (by intro; refine Eq.trans (ev_mapGet (n := .int .i64 mv.k) rfl rfl rfl (hkk) (rfl)) ?_; simp only [hkf, if_false, Bool.false_eq_true, Option.getD, Option.isSome]; rfl) (by simp only [pt8, pt2]; rfl) ?_) | (refine WC.seq ?_) | (refine WC.region ?_) | (refine WO.nil ?_) | (simp only [fl1, fl4]) | (refine WC.skip ?_) | (refine WC.block ?_) | (refine WC.em2 rfl (fun hp => ?_) (fun hp => ?_) <;> try (exfalso; first | omega | contradiction)))
          refine WO.call rfl rfl ((f25 (hra.more fun j hj => List.getElem?_append_left hj) hk hmo (by omega) (by omega)).mono ?_)
          rintro y m' ⟨ab', zp', zs', zv', hra'⟩
          rw [← hst] at hra'
          simp only [pt8, pt6]
          repeat' (first | (refine WO.opE (by intro; simp (disch := omega) only [go_sem]; rfl) (by simp only [pt8, pt3, pt7]; rfl) ?_) | (refine WC.region ?_) | (refine WO.nil ?_) | (simp only [fl10]))
          exact ⟨m - 1, by omega, _, q + 1, _, _, ab', zp', zs', zv', rfl, rfl, rfl, rfl, rfl, rfl, rfl, rfl, rfl, rfl, rfl, by omega, hra', hlen2⟩
      · have hie2 : q = ms.length := by omega
        subst hie2
        have hcz : ∀ z, inB z 0 ∨ True := fun _ => .inr trivial
        repeat' (first | (refine WO.opE (by intro; simp (disch := omega) only [go_sem, cut4c, hr]; rfl) (by simp only [pt8, pt0, pt1, pt2, pt3, pt4, pt5]; rfl) ?_) | (refine WO.opN (by intro; simp (disch := omega) only [go_sem, ov_all4, Option.bind_eq_bind, Nat.reduceAdd, hz, setBlk]; rfl) ?_) | (refine WC.seq ?_) | (refine WC.region ?_) | (refine WO.nil ?_) | (simp only [fl1]) | (refine WC.exit ?_) | (refine WC.ret ?_) | (refine WC.em2 rfl (fun hp => ?_) (fun hp => ?_) <;> try (exfalso; first | omega | contradiction)))
        have hls : ∀ c, Zz.look (H.set 0 (some ⟨0, c⟩)) 0 0 = some c := fun c => look_set (look_lt hz)
        refine ⟨[.agg [.sref ab 0 0 6 nn (some nn), zp, zs, zv], .int .i64 0], ?_, hra.res 0⟩
        simp only [evRes, gt4, gt5, hls, Option.bind_some, loadCs]
        rfl
  · rw [bad fun h => hg ⟨h.1, h.2.1, h.2.2.1⟩]
    refine WF.fnE rfl (fn_of Tryz.func5 cir5) (by show 2 ≤ 84; decide) ?_
    unfold ir5; dsimp only [k0, kI, mV, oO, oG]
    simp only [padTo, List.replicate, List.nil_append, List.append_nil]
    repeat' (first | (refine WO.yes rfl ?_) | (refine WO.noE rfl (by simp only [pt8, pt1, pt2, pt5, pt6, pt7]; rfl) ?_) | (refine WO.opE (by intro; simp (disch := omega) only [go_sem, fillP]; rfl) (by simp only [pt8, pt0, pt1, pt2, pt3, pt4, pt5, pt6, pt7]; rfl) ?_) | (refine WO.opN (by intro; simp (disch := omega) only [go_sem, ov_all4, Option.bind_eq_bind, Zz.look, Nat.reduceAdd, setBlk, List.set_cons_zero]; rfl) ?_) | (refine WO.opE (by intro; exact ev_lenS (by simp only [go_sem]; exact hx.len)) (by simp only [pt8, pt6]; rfl) ?_) | (refine WC.seq ?_) | (refine WC.region ?_) | (refine WO.nil ?_) | (simp only [fl1, fl2]) | (refine WC.yes rfl ?_) | (refine WC.ret ?_) | (refine WO.em2 rfl (by intro hp; simp only [hp, decide_true]; rfl) (by intro hp; simp only [hp, decide_false]; rfl) (fun hp => ?_) (fun hp => ?_) <;> try (exfalso; first | omega | contradiction)) | (refine WC.em2 rfl (fun hp => ?_) (fun hp => ?_) <;> try (exfalso; first | omega | contradiction)))
    all_goals first
      | (exfalso; exact hg ⟨by omega, by omega, by omega⟩)
      | exact ⟨_, rfl, rfl, rfl⟩
theorem MvL.pureA {x : AV} {ms : List Mv} (h : MvL x ms) : Zz.pureA x = true := by
 obtain ⟨_, ⟨rfl, _⟩ | ⟨f, rfl⟩⟩ := h
 ·rfl
 ·show (ms.map Mv.cells).flatten.all flatAV = true
  rw [List.all_eq_true]
  intro v hv
  obtain ⟨c, hc, hvc⟩ := List.mem_flatten.1 hv
  obtain ⟨p, _, rfl⟩ := List.mem_map.1 hc
  simp [Mv.cells] at hvc
  rcases hvc with rfl | rfl | rfl | rfl | rfl | rfl | rfl <;> rfl
noncomputable def E12 : Env := E11.put 5 (borrowE E11 5)
theorem E12_ok : EnvOk Tryz.prog E12 := Env.put_ok E11_ok (borrowE_ok E11_ok (callable Tryz.func5 (by kernel_rfl)))
end Go.Proofs.YtgchabldcnmccacGreatDoor

