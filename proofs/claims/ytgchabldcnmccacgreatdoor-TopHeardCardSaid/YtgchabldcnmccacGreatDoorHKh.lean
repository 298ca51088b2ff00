import Derived.Test.YtgchabldcnmccacGreatDoorHA

set_option linter.unusedSimpArgs false
set_option linter.unusedVariables false

namespace Go.Proofs.YtgchabldcnmccacGreatDoor
open Go.Zz
set_option maxRecDepth 100000
set_option maxHeartbeats 8000000
theorem RunAt.setV {H H3 : Hp} {L : List (Option ALoop)} {rb tb mb n ab N : Nat} {s : RS} {zp zs zv z' : AV} {x : Vo} (h : RunAt H L rb tb mb n s ab zp zs zv) (hN : H.length ≤ N) (hk : ∀ j, j < H.length → ¬ inB zv j → H3[j]? = H[j]?)
    (hp : SlH H3 z' 6 (voF s.vos ++ x.cells) (s.vos.length + 1)) (hz : ∀ j, inB z' j → inB zv j ∨ j = N) :
    RunAt (setBlk H3 rb 0 [.sref ab 0 0 6 n (some n), zp, zs, z', .int .i64 n, .mref mb]) L rb tb mb n { s with vos := s.vos ++ [x] } ab zp zs z' := by
  obtain ⟨d1, d2, d3, d4⟩ := h.d
  have l1 := look_lt h.r
  have l2 := look_lt h.a
  have l3 := look_lt h.z
  have n1 : ¬ inB zv rb := fun hj => (h.dv _ hj).1 rfl
  have n2 : ¬ inB zv ab := fun hj => (h.dv _ hj).2.1 rfl
  have n3 : ¬ inB zv 0 := fun hj => (h.dv _ hj).2.2 rfl
  have hs : ∀ j, rb ≠ j → (setBlk H3 rb 0 [.sref ab 0 0 6 n (some n), zp, zs, z', .int .i64 n, .mref mb])[j]? = H3[j]? := fun j hj => List.getElem?_set_ne hj
  have hl : rb < H3.length := by
    have := hk rb l1 n1
    rw [List.getElem?_eq_getElem l1] at this
    exact (List.getElem?_eq_some_iff.1 this).1
  exact { r := look_set hl
          a := by rw [look_of_get ((hs _ d1).trans (hk _ l2 n2))]; exact h.a
          n := h.n
          z := by rw [look_of_get ((hs _ d2).trans (hk _ l3 n3))]; exact h.z
          v := by
            have := hp.keep fun j hj => hs j fun e => by
              rcases hz j hj with g | g
              · exact n1 (e ▸ g)
              · omega
            simpa [voF] using this
          p := h.p.keep fun j hj => (hs j (Ne.symm (h.dp j hj).1)).trans (hk j (inB_lt h.p hj) (h.dp j hj).2.2.2.2)
          t := h.t.keep fun j hj => (hs j (Ne.symm (h.dt j hj).1)).trans (hk j (inB_lt h.t hj) (h.dt j hj).2.2.2)
          m := h.m, k := h.k, d := h.d
          dv := fun j hj => by
            rcases hz j hj with g | g
            · exact h.dv j g
            · exact ⟨by omega, by omega, by omega⟩
          dp := fun j hj => by
            obtain ⟨a1, a2, a3, a4, a5⟩ := h.dp j hj
            refine ⟨a1, a2, a3, a4, fun q => ?_⟩
            rcases hz j q with g | g
            · exact a5 g
            · have := inB_lt h.p hj; omega
          dt := fun j hj => by
            obtain ⟨a1, a2, a3, a5⟩ := h.dt j hj
            refine ⟨a1, a2, a3, fun q => ?_⟩
            rcases hz j q with g | g
            · exact a5 g
            · have := inB_lt h.t hj; omega }
theorem RunAt.setS {H H3 : Hp} {L : List (Option ALoop)} {rb tb mb n ab N : Nat} {s : RS} {zp zs zv z' : AV} {x : Int × Tk} (h : RunAt H L rb tb mb n s ab zp zs zv) (hN : H.length ≤ N) (hk : ∀ j, j < H.length → ¬ inB zs j → H3[j]? = H[j]?)
    (hp : SlH H3 z' 5 (stF s.sts ++ stC x) (s.sts.length + 1)) (hz : ∀ j, inB z' j → inB zs j ∨ j = N) :
    RunAt (setBlk H3 rb 0 [.sref ab 0 0 6 n (some n), zp, z', zv, .int .i64 n, .mref mb]) (L.set mb (some (mapObj (vfl (s.sts ++ [x]))))) rb tb mb n { s with sts := s.sts ++ [x] } ab zp z' zv := by
  obtain ⟨d1, d2, d3, d4⟩ := h.d
  have l1 := look_lt h.r
  have l2 := look_lt h.a
  have l3 := look_lt h.z
  have n1 : ¬ inB zs rb := fun hj => (h.dt _ hj).1 rfl
  have n2 : ¬ inB zs ab := fun hj => (h.dt _ hj).2.1 rfl
  have n3 : ¬ inB zs 0 := fun hj => (h.dt _ hj).2.2.1 rfl
  have hs : ∀ j, rb ≠ j → (setBlk H3 rb 0 [.sref ab 0 0 6 n (some n), zp, z', zv, .int .i64 n, .mref mb])[j]? = H3[j]? := fun j hj => List.getElem?_set_ne hj
  have hl : rb < H3.length := by
    have := hk rb l1 n1
    rw [List.getElem?_eq_getElem l1] at this
    exact (List.getElem?_eq_some_iff.1 this).1
  exact { r := look_set hl
          a := by rw [look_of_get ((hs _ d1).trans (hk _ l2 n2))]; exact h.a
          n := h.n
          z := by rw [look_of_get ((hs _ d2).trans (hk _ l3 n3))]; exact h.z
          t := by
            have := hp.keep fun j hj => hs j fun e => by
              rcases hz j hj with g | g
              · exact n1 (e ▸ g)
              · omega
            simpa [stF] using this
          p := h.p.keep fun j hj => (hs j (Ne.symm (h.dp j hj).1)).trans (hk j (inB_lt h.p hj) (h.dp j hj).2.2.2.1)
          v := h.v.keep fun j hj => (hs j (Ne.symm (h.dv j hj).1)).trans (hk j (inB_lt h.v hj) fun q => (h.dt j q).2.2.2 hj)
          m := List.getElem?_set_self (List.getElem?_eq_some_iff.1 h.m).1
          k := by rw [List.getElem?_set_ne (Ne.symm d4)]; exact h.k
          d := h.d
          dt := fun j hj => by
            rcases hz j hj with g | g
            · exact h.dt j g
            · refine ⟨by omega, by omega, by omega, fun q => ?_⟩
              have := inB_lt h.v q; omega
          dp := fun j hj => by
            obtain ⟨a1, a2, a3, a4, a5⟩ := h.dp j hj
            refine ⟨a1, a2, a3, fun q => ?_, a5⟩
            rcases hz j q with g | g
            · exact a4 g
            · have := inB_lt h.p hj; omega
          dv := h.dv }
def bids : AV → List Nat
 | .sref id _ _ _ _ _ => [id]
 | _ => []
theorem mem_bids {z : AV} {j : Nat} (h : j ∈ bids z) : inB z j := by
 cases z <;> simp [bids] at h
 exact h.symm
theorem SlH.pm {H : Hp} {z : AV} {ps : List Pm} (h : SlH H z 7 (pmF ps) ps.length) : ∃ x, PmL x ps ∧ ∀ V : Hp, (∀ j ∈ bids z, V[j]? = H[j]?) → Zz.byVal V z = some x := by
 have hcs : ∀ c ∈ ps.map Pm.cells, c.length = 7 := by
  intro c hc
  obtain ⟨p, _, rfl⟩ := List.mem_map.1 hc
  rfl
 obtain ⟨h1, ⟨rfl, h2⟩ | ⟨h2, id, g, rfl, h3⟩⟩ := h
 ·have : ps = [] := List.eq_nil_of_length_eq_zero h2
  subst this
  exact ⟨.snil, ⟨by simp, .inl ⟨rfl, rfl⟩⟩, fun V _ => rfl⟩
 ·refine ⟨.sval false ps.length (pmF ps), ⟨hcs, .inr ⟨false, by rw [List.length_map]; rfl⟩⟩, fun V hV => ?_⟩
  have e : Zz.look V id g = some (pmF ps) := by rw [look_of_get (hV id (by simp [bids]))]; exact h3
  have e2 : Zz.cut (pmF ps) 0 (ps.length * 7) = some (pmF ps) := by
   unfold Zz.cut
   rw [if_pos (by omega)]
   simp [← h1]
  have e3 : (pmF ps).all flatAV = true := by
   rw [List.all_eq_true]
   intro v hv
   obtain ⟨c, hc, hvc⟩ := List.mem_flatten.1 hv
   obtain ⟨p, _, rfl⟩ := List.mem_map.1 hc
   simp [Pm.cells] at hvc
   rcases hvc with rfl | rfl | rfl | rfl | rfl | rfl | rfl <;> rfl
  simp only [Zz.byVal, Zz.byC, e, e2, e3, if_true]
  rfl
theorem lk4 {A l : Hp} {a b d e : Option Blk} {c : List AV} {g N : Nat} (h : A.length = N) : Zz.look (A ++ a :: b :: d :: e :: some ⟨g, c⟩ :: l) (N + 4) g = some c := by subst h; simp [Zz.look]
theorem f25 {H : Hp} {L : List (Option ALoop)} {rb tb mb n ab : Nat} {s : RS} {zp zs zv : AV} {m : Mv} (h : RunAt H L rb tb mb n s ab zp zs zv) (hk : m.k = 3) (hm : MvOk n m) (hn : n ≤ 8) (hl : s.vos.length ≤ 1000) :
  WF E11 (.func 41 [] []) [.pref rb 0 0, .agg [.int .i64 m.k, .int .i64 m.b, .int .i64 m.t, .int .i64 m.v.s, .int .i64 m.v.c, .int .i64 m.v.n, .int .i64 m.v.d]] ⟨H, L⟩ fun y m' => ∃ ab zp zs zv, RunAt m'.heap m'.loops rb tb mb n (stepM n s m) ab zp zs zv := by
 have hr := h.r
 have hrl := look_lt hr
 have hr2 : ∀ R, Zz.look (H ++ R) rb 0 = some [.sref ab 0 0 6 n (some n), zp, zs, zv, .int .i64 n, .mref mb] := fun R => by rw [look_left hrl]; exact hr
 have ha2 : ∀ R, Zz.look (H ++ R) ab 0 = some (acF s.acs) := fun R => by rw [look_left (look_lt h.a)]; exact h.a
 have hal := look_lt h.a
 have hdd := h.d
 have hnn := h.n
 have hmm := h.m
 have hks := vfl_keys s.sts
 have hvf := vfl_find (b := m.b) s.sts
 obtain ⟨hbo, hdk | hdk | hdk⟩ := hm <;> first | (exfalso; omega) | skip
 obtain ⟨_, ht1, ht2⟩ := hdk
 cases hvg : vget m.b s.sts with
 | none =>
  rw [hvg] at hvf
  simp only [Option.map_none] at hvf
  refine WF.fnE rfl (fn_of Tryz.func41 cir41) (by show 2 ≤ 63; decide) ?_
  unfold ir41; dsimp only [k0, kI, mV, oO, oG]
  simp only [padTo, List.replicate, List.nil_append, List.append_nil]
  repeat' (first | (refine WO.opE (by intro; simp (disch := omega) only [go_sem]; rfl) (by simp only [pt8, pt3, pt4]; rfl) ?_) | (refine WT.mapGet (n := .int .i64 m.b) rfl rfl rfl (hmm) (hks) (by simp only [hvf, if_true, Option.getD, Option.isSome, pt8, pt0]; rfl) ?_) | (refine WC.seq ?_) | (refine WC.region ?_) | (refine WO.nil ?_) | (simp only [fl1, fl2]) | (refine WC.drawT ?_) | (refine WT.nil ?_) | (refine WT.free rfl (by intro; simp (disch := omega) only [go_sem, List.length_append, List.append_assoc, hr2, lk0]; rfl) rfl (by simp only [pt8, pt1, pt2, pt3, pt4, pt5, pt6, pt7]; rfl) ?_) | (refine WT.big rfl rfl (by intro; simp (disch := omega) only [go_sem, List.length_append, List.append_assoc, hr2, lk0]; rfl) (by simp (disch := omega) only [go_sem, List.length_append, touch]; rfl) (by first | exact .inl rfl | exact .inr (apart_nil _) | exact .inr trivial | (right; apply apart_mk; simp only [apartL, List.nil_append, List.cons_append, List.getElem?_cons_succ, List.getElem?_cons_zero, Tch.free, and_true, true_and]; first | done | omega)) (by simp only [pt8, pt4, pt5, pt7]; rfl) ?_) | (refine WT.bigN rfl rfl (by intro; simp (disch := omega) only [go_sem, ov_all4, Option.bind_eq_bind, Nat.reduceAdd, lk1, st1, setBlk]; rfl) (by simp (disch := omega) only [go_sem, touch]; rfl) (by first | exact .inl rfl | exact .inr (apart_nil _) | exact .inr trivial | (right; apply apart_mk; simp only [apartL, List.nil_append, List.cons_append, List.getElem?_cons_succ, List.getElem?_cons_zero, Tch.free, and_true, true_and]; first | done | omega)) ?_) | (refine WC.yes rfl ?_) | (refine WC.ret ?_))
  have hst : stepM n s m = s := by
   unfold stepM
   rw [if_neg (by omega), if_neg (by omega), hvg]
  rw [hst]
  exact ⟨_, rfl, ab, zp, zs, zv, h.more fun j hj => List.getElem?_append_left hj⟩
 | some v =>
  rw [hvg] at hvf
  simp only [Option.map_some] at hvf
  have hvf2 : mfind (.int .i64 m.b) (vfl s.sts) = some (.agg [.int .i64 v.s, .int .i64 v.c, .int .i64 v.n, .int .i64 v.d]) := hvf
  have hca : Zz.cut (acF s.acs) (m.t.toNat * 6) 6 = some (acAt s m.t).cells := acF_cut (by omega)
  generalize hac : acAt s m.t = ac at *
  have hca2 : Zz.cut (acF s.acs) (m.t.toNat * 6) 6 = some [.int .i64 ac.p, .int .i64 ac.w, .int .i64 ac.v.s, .int .i64 ac.v.c, .int .i64 ac.v.n, .int .i64 ac.v.d] := hca
  refine WF.fnE rfl (fn_of Tryz.func41 cir41) (by show 2 ≤ 63; decide) ?_
  unfold ir41; dsimp only [k0, kI, mV, oO, oG]
  simp only [padTo, List.replicate, List.nil_append, List.append_nil]
  repeat' (first | (refine WO.opE (by intro; simp (disch := omega) only [go_sem, hr2, idx_toNat, lk0, lk2, ia_sref]; rfl) (by simp only [pt8, pt0, pt1, pt2, pt3, pt4, pt5, pt6, pt7]; rfl) ?_) | (refine WT.mapGet (n := .int .i64 m.b) rfl rfl rfl (hmm) (hks) (by simp only [hvf2, if_true, Option.getD, Option.isSome, pt8, pt0]; rfl) ?_) | (refine WT.spec rfl rfl (fun V => s36) (by simp only [pt8, pt4]; rfl) ?_) | (refine WC.seq ?_) | (refine WC.region ?_) | (refine WO.nil ?_) | (simp only [fl1]) | (refine WC.calm rfl ?_) | (refine WC.drawT ?_) | (refine WT.nil ?_) | (refine WT.free rfl (by intro; simp (disch := omega) only [go_sem, List.length_append, cut4c, Nat.reduceAdd, List.append_assoc, hr2, ha2, hca2, idx_toNat, lk0, lk1, ia_sref]; rfl) rfl (by simp only [pt8, pt0, pt1, pt2, pt3, pt4, pt5, pt6, pt7]; rfl) ?_) | (refine WT.big rfl rfl (by intro; simp (disch := omega) only [go_sem, List.length_append, cut4c, Nat.reduceAdd, List.append_assoc, hr2, ha2, hca2, lk0, lk1]; rfl) (by simp (disch := omega) only [go_sem, List.length_append, Nat.reduceAdd, touch]; rfl) (by first | exact .inl rfl | exact .inr (apart_nil _) | exact .inr trivial | (right; apply apart_mk; simp only [apartL, List.nil_append, List.cons_append, List.getElem?_cons_succ, List.getElem?_cons_zero, Tch.free, and_true, true_and]; first | done | omega)) (by simp only [pt8, pt0, pt2, pt3, pt4, pt5, pt6, pt7]; rfl) ?_) | (refine WT.bigN rfl rfl (by intro; simp (disch := omega) only [go_sem, ov_all4, ov_all6, Option.bind_eq_bind, Nat.reduceAdd, lk1, lk2, lk3, st1, st2, st3, setBlk]; rfl) (by simp (disch := omega) only [go_sem, touch]; rfl) (by first | exact .inl rfl | exact .inr (apart_nil _) | exact .inr trivial | (right; apply apart_mk; simp only [apartL, List.nil_append, List.cons_append, List.getElem?_cons_succ, List.getElem?_cons_zero, Tch.free, and_true, true_and]; first | done | omega)) ?_) | (refine WC.no rfl ?_) | (refine WC.skip ?_) | (refine WC.em2 rfl (fun hp => ?_) (fun hp => ?_) <;> try (exfalso; first | omega | contradiction)))
  ·have hov : Zz.over (acF s.acs) (m.t.toNat * 6) [.int .i64 (acc ac m.t m.b v).1.p, .int .i64 (acc ac m.t m.b v).1.w, .int .i64 (acc ac m.t m.b v).1.v.s, .int .i64 (acc ac m.t m.b v).1.v.c, .int .i64 (acc ac m.t m.b v).1.v.n, .int .i64 (acc ac m.t m.b v).1.v.d] = some (acF (s.acs.set m.t.toNat (acc ac m.t m.b v).1)) := acF_over _ (by omega)
   refine WO.opN (by intro; simp (disch := omega) only [go_sem, ha2, hov, set_left, setBlk]; rfl) ?_
   have h2 := h.setA (a := s.acs.set m.t.toNat (acc ac m.t m.b v).1) (by simpa using h.n)
   have hl2 : (H.set ab (some ⟨0, acF (s.acs.set m.t.toNat (acc ac m.t m.b v).1)⟩)).length = H.length := by simp
   generalize hH2 : H.set ab (some ⟨0, acF (s.acs.set m.t.toNat (acc ac m.t m.b v).1)⟩) = H2 at *
   have hr3 : ∀ R, Zz.look (H2 ++ R) rb 0 = some [.sref ab 0 0 6 n (some n), zp, zs, zv, .int .i64 n, .mref mb] := fun R => by rw [look_left (by omega)]; exact h2.r
   repeat' (first | (refine WO.nil ?_) | (refine WC.drawT ?_) | (refine WT.free rfl (by intro; simp (disch := omega) only [go_sem, zeros, List.length_append, ov_all6, fillP, Option.bind_eq_bind, Nat.reduceAdd, List.append_assoc, hr3, lk3]; rfl) rfl (by simp only [pt8, pt0, pt1, pt3, pt4, pt5, pt6, pt7]; rfl) ?_) | (refine WT.big rfl rfl (by intro; simp (disch := omega) only [go_sem, zeros, List.length_append, ov_all6, fillP, Option.bind_eq_bind, Nat.reduceAdd, List.append_assoc, hr3, lk3]; rfl) (by simp (disch := omega) only [go_sem, List.length_append, Nat.reduceAdd, touch]; rfl) (by first | exact .inl rfl | exact .inr (apart_nil _) | exact .inr trivial | (right; apply apart_mk; simp only [apartL, List.nil_append, List.cons_append, List.getElem?_cons_succ, List.getElem?_cons_zero, Tch.free, and_true, true_and]; first | done | omega)) (by simp only [pt8, pt0, pt1, pt2]; rfl) ?_) | fail)
   refine WT.appendSl (c := (acc ac m.t m.b v).2.1.cells) (z := zv) rfl rfl (h2.v.keep fun j hj => List.getElem?_append_left (inB_lt h2.v hj)) (by decide) (lk4 rfl) rfl ⟨by show (s.vos.length + 1) * 48 ≤ _; omega, by show s.vos.length + 1 ≤ _; omega⟩ ?_
   intro z' H3 e2 e3 e4
   simp only [pt8, pt3]
   have hN : H2.length ≤ (H2.length + 5) := by omega
   have hk3 : ∀ j, j < H2.length → ¬ inB zv j → H3[j]? = H2[j]? := fun j hj hn => (e3 j hn (by simp; omega)).trans (List.getElem?_append_left hj)
   have hz3 : ∀ j, inB z' j → inB zv j ∨ j = H2.length + 5 := fun j hj => by simpa using e4 j hj
   have hfin := h2.setV (x := (acc ac m.t m.b v).2.1) hN hk3 e2 hz3
   have hr4 : Zz.look H3 rb 0 = some [.sref ab 0 0 6 n (some n), zp, zs, zv, .int .i64 n, .mref mb] := by rw [look_of_get (hk3 _ (by omega) fun q => (h2.dv _ q).1 rfl)]; exact h2.r
   have hcz := e2.cells
   unfold AV.cells at hcz
   clear e2 e3 e4
   repeat' (first | (refine WT.nil ?_) | (refine WT.free rfl (by intro; simp (disch := omega) only [go_sem]; rfl) rfl (by simp only [pt8, pt4, pt5, pt6]; rfl) ?_) | (refine WT.bigN rfl rfl (by intro; simp (disch := omega) only [go_sem, ov_one3, Option.bind_eq_bind, hcz, hr4, ov_one3, setBlk]; rfl) (by simp (disch := omega) only [go_sem, touch]; rfl) (by first | exact .inl rfl | exact .inr (apart_nil _) | exact .inr trivial | (right; apply apart_mk; simp only [apartL, List.nil_append, List.cons_append, List.getElem?_cons_succ, List.getElem?_cons_zero, Tch.free, and_true, true_and]; first | done | omega)) ?_) | fail)
   refine ⟨_, rfl, ab, zp, zs, z', ?_⟩
   have hst : stepM n s m = { s with acs := s.acs.set m.t.toNat (acc ac m.t m.b v).1, vos := s.vos ++ [(acc ac m.t m.b v).2.1] } := by
    unfold stepM
    rw [if_neg (by omega), if_neg (by omega), hvg]
    simp only [hac]
    rw [if_pos (by assumption)]
   rw [hst]
   exact hfin
  ·refine ⟨_, rfl, ab, zp, zs, zv, ?_⟩
   have hst : stepM n s m = s := by
    unfold stepM
    rw [if_neg (by omega), if_neg (by omega), hvg]
    simp only [hac]
    rw [if_neg (by assumption)]
   rw [hst]
   exact h.more fun j hj => List.getElem?_append_left hj
theorem s35v {n b : Int} {x z : AV} {ps : List Pm} {own : Tk} {m : Mem} (hz : Zz.byVal m.heap z = some x) (hx : PmL x ps) (hlen : (ps.length : Int) ≤ 1000000) :
  borrowX E8 69 [.int .i64 n, .int .i64 b, z, .agg [.int .i64 own.s, .int .i64 own.c, .int .i64 own.n, .int .i64 own.d]] m = some (.tuple [.agg [.int .i64 (chs n b ps own).1.s, .int .i64 (chs n b ps own).1.c, .int .i64 (chs n b ps own).1.n, .int .i64 (chs n b ps own).1.d], .int .i64 (chs n b ps own).2], m) :=
 s35 (by simp only [Zz.byVals, hz]; rfl) hx hlen
theorem f24 {H : Hp} {L : List (Option ALoop)} {rb tb mb n ab : Nat} {s : RS} {zp zs zv : AV} {m : Mv} (h : RunAt H L rb tb mb n s ab zp zs zv) (hk : m.k = 2) (hm : MvOk n m) (hn : n ≤ 8) (hl : s.sts.length ≤ 1000) (hlp : s.pms.length ≤ 1000) :
  WF E11 (.func 40 [] []) [.pref rb 0 0, .agg [.int .i64 m.k, .int .i64 m.b, .int .i64 m.t, .int .i64 m.v.s, .int .i64 m.v.c, .int .i64 m.v.n, .int .i64 m.v.d]] ⟨H, L⟩ fun y m' => ∃ ab zp zs zv, RunAt m'.heap m'.loops rb tb mb n (stepM n s m) ab zp zs zv := by
 have hr := h.r
 have hrl := look_lt hr
 have hr2 : ∀ R, Zz.look (H ++ R) rb 0 = some [.sref ab 0 0 6 n (some n), zp, zs, zv, .int .i64 n, .mref mb] := fun R => by rw [look_left hrl]; exact hr
 have hdd := h.d
 have hmm := h.m
 have hks := vfl_keys s.sts
 have hvf := vfl_find (b := m.b) s.sts
 cases hvg : vget m.b s.sts with
 | some v =>
  rw [hvg] at hvf
  simp only [Option.map_some] at hvf
  have hvf2 : mfind (.int .i64 m.b) (vfl s.sts) = some (.agg [.int .i64 v.s, .int .i64 v.c, .int .i64 v.n, .int .i64 v.d]) := hvf
  refine WF.fnE rfl (fn_of Tryz.func40 cir40) (by show 2 ≤ 60; decide) ?_
  unfold ir40; dsimp only [k0, kI, mV, oO, oG]
  simp only [padTo, List.replicate, List.nil_append, List.append_nil]
  repeat' (first | (refine WO.opE (by intro; simp (disch := omega) only [go_sem]; rfl) (by simp only [pt8, pt2, pt3]; rfl) ?_) | (refine WT.mapGet (n := .int .i64 m.b) rfl rfl rfl (hmm) (hks) (by simp only [hvf2, if_true, Option.getD, Option.isSome, pt8, pt7]; rfl) ?_) | (refine WC.seq ?_) | (refine WC.region ?_) | (refine WO.nil ?_) | (simp only [fl1, fl2]) | (refine WC.drawT ?_) | (refine WT.nil ?_) | (refine WT.free rfl (by intro; simp (disch := omega) only [go_sem, List.length_append, List.append_assoc, hr2, lk0]; rfl) rfl (by simp only [pt8, pt0, pt1, pt2, pt3, pt4, pt5, pt6]; rfl) ?_) | (refine WT.big rfl rfl (by intro; simp (disch := omega) only [go_sem, List.length_append, List.append_assoc, hr2, lk0]; rfl) (by simp (disch := omega) only [go_sem, List.length_append, touch]; rfl) (by first | exact .inl rfl | exact .inr (apart_nil _) | exact .inr trivial | (right; apply apart_mk; simp only [apartL, List.nil_append, List.cons_append, List.getElem?_cons_succ, List.getElem?_cons_zero, Tch.free, and_true, true_and]; first | done | omega)) (by simp only [pt8, pt4, pt6]; rfl) ?_) | (refine WT.bigN rfl rfl (by intro; simp (disch := omega) only [go_sem, ov_all4, Option.bind_eq_bind, Nat.reduceAdd, lk1, st1, setBlk]; rfl) (by simp (disch := omega) only [go_sem, touch]; rfl) (by first | exact .inl rfl | exact .inr (apart_nil _) | exact .inr trivial | (right; apply apart_mk; simp only [apartL, List.nil_append, List.cons_append, List.getElem?_cons_succ, List.getElem?_cons_zero, Tch.free, and_true, true_and]; first | done | omega)) ?_) | (refine WC.yes rfl ?_) | (refine WC.ret ?_))
  have hst : stepM n s m = s := by
   unfold stepM
   rw [if_neg (by omega), if_pos hk, hvg]
  rw [hst]
  exact ⟨_, rfl, ab, zp, zs, zv, h.more fun j hj => List.getElem?_append_left hj⟩
 | none =>
  rw [hvg] at hvf
  simp only [Option.map_none] at hvf
  obtain ⟨x, hx, hbv⟩ := h.p.pm
  have hps : (s.pms.length : Int) ≤ 1000000 := by omega
  have hbl : ∀ j ∈ bids zp, j < H.length := fun j hj => inB_lt h.p (mem_bids hj)
  refine WF.fnE rfl (fn_of Tryz.func40 cir40) (by show 2 ≤ 60; decide) ?_
  unfold ir40; dsimp only [k0, kI, mV, oO, oG]
  simp only [padTo, List.replicate, List.nil_append, List.append_nil]
  repeat' (first | (refine WO.opE (by intro; simp (disch := omega) only [go_sem]; rfl) (by simp only [pt8, pt2, pt3]; rfl) ?_) | (refine WT.mapGet (n := .int .i64 m.b) rfl rfl rfl (hmm) (hks) (by simp only [hvf, if_true, Option.getD, Option.isSome, pt8, pt7]; rfl) ?_) | (refine WC.seq ?_) | (refine WC.region ?_) | (refine WO.nil ?_) | (simp only [fl1]) | (refine WC.drawT ?_) | (refine WT.nil ?_) | (refine WT.free rfl (by intro; simp (disch := omega) only [go_sem, List.length_append, cut4b, Nat.reduceAdd, List.append_assoc, hr2, lk0]; rfl) rfl (by simp only [pt8, pt0, pt1, pt2, pt3, pt4, pt5, pt6, pt7]; rfl) ?_) | (refine WT.big rfl rfl (by intro; simp (disch := omega) only [go_sem, List.length_append, cut4b, Nat.reduceAdd, List.append_assoc, hr2, lk0]; rfl) (by simp (disch := omega) only [go_sem, List.length_append, Nat.reduceAdd, touch]; rfl) (by first | exact .inl rfl | exact .inr (apart_nil _) | exact .inr trivial | (right; apply apart_mk; simp only [apartL, List.nil_append, List.cons_append, List.getElem?_cons_succ, List.getElem?_cons_zero, Tch.free, and_true, true_and]; first | done | omega)) (by simp only [pt8, pt0, pt1, pt4, pt6, pt7]; rfl) ?_) | (refine WT.bigN rfl rfl (by intro; simp (disch := omega) only [go_sem, ov_all4, Option.bind_eq_bind, Nat.reduceAdd, lk1, st1, setBlk]; rfl) (by simp (disch := omega) only [go_sem, touch]; rfl) (by first | exact .inl rfl | exact .inr (apart_nil _) | exact .inr trivial | (right; apply apart_mk; simp only [apartL, List.nil_append, List.cons_append, List.getElem?_cons_succ, List.getElem?_cons_zero, Tch.free, and_true, true_and]; first | done | omega)) ?_) | (refine WC.no rfl ?_) | (refine WC.skip ?_))
  refine WT.specG (bids zp) rfl rfl (apart_all (by
   intro j hj
   have := hbl j hj
   simp only [apartL, List.nil_append, List.cons_append, List.getElem?_cons_succ, List.getElem?_cons_zero, Tch.free, and_true]
   omega)) (fun V hVl hVj => s35v (z := zp) (hbv V fun j hj => (hVj j hj).trans (List.getElem?_append_left (hbl j hj))) hx hps) (by simp only [pt8, pt1]; rfl) ?_
  repeat' (first | (refine WO.opE (by intro; simp (disch := omega) only [go_sem]; rfl) (by simp only [pt8, pt4, pt5]; rfl) ?_) | (refine WT.mapSet rfl rfl rfl (hmm) (hks) ?_) | (refine WC.seq ?_) | (refine WC.region ?_) | (refine WO.nil ?_) | (simp only [fl1]) | (refine WC.drawT ?_) | (refine WT.nil ?_) | (refine WT.free rfl (by intro; simp (disch := omega) only [go_sem, zeros, List.length_append, ov_one0, ov_all5, cut4c, fillP, Option.bind_eq_bind, Nat.reduceAdd, List.append_assoc, hr2, lk0, lk2]; rfl) rfl (by simp only [pt8, pt0, pt1, pt2, pt3, pt4, pt5, pt6, pt7]; rfl) ?_) | (refine WT.big rfl rfl (by intro; simp (disch := omega) only [go_sem, zeros, List.length_append, ov_all5, cut4c, fillP, Option.bind_eq_bind, Nat.reduceAdd, List.append_assoc, hr2, lk0, lk2]; rfl) (by simp (disch := omega) only [go_sem, List.length_append, Nat.reduceAdd, touch]; rfl) (by first | exact .inl rfl | exact .inr (apart_nil _) | exact .inr trivial | (right; apply apart_mk; simp only [apartL, List.nil_append, List.cons_append, List.getElem?_cons_succ, List.getElem?_cons_zero, Tch.free, and_true, true_and]; first | done | omega)) (by simp only [pt8, pt1, pt2, pt3, pt4, pt5, pt7]; rfl) ?_) | (refine WT.bigN rfl rfl (by intro; simp (disch := omega) only [go_sem, ov_all4, Option.bind_eq_bind, Nat.reduceAdd, lk2, st2, setBlk]; rfl) (by simp (disch := omega) only [go_sem, touch]; rfl) (by first | exact .inl rfl | exact .inr (apart_nil _) | exact .inr trivial | (right; apply apart_mk; simp only [apartL, List.nil_append, List.cons_append, List.getElem?_cons_succ, List.getElem?_cons_zero, Tch.free, and_true, true_and]; first | done | omega)) ?_) | (refine WC.skip ?_) | (refine WC.em2 rfl (fun hp => ?_) (fun hp => ?_) <;> try (exfalso; first | omega | contradiction)))
  ·refine WT.appendSl (c := stC (m.b, (chs n m.b s.pms m.v).1)) (z := zs) rfl rfl (h.t.keep fun j hj => List.getElem?_append_left (inB_lt h.t hj)) (by decide) (lk3 rfl) rfl ⟨by show (s.sts.length + 1) * 40 ≤ _; omega, by show s.sts.length + 1 ≤ _; omega⟩ ?_
   intro z' H3 e2 e3 e4
   simp only [pt8, pt0]
   have hN : H.length ≤ (H.length + 4) := by omega
   have hk3 : ∀ j, j < H.length → ¬ inB zs j → H3[j]? = H[j]? := fun j hj hn => (e3 j hn (by simp; omega)).trans (List.getElem?_append_left hj)
   have hz3 : ∀ j, inB z' j → inB zs j ∨ j = H.length + 4 := fun j hj => by simpa using e4 j hj
   have hfin := h.setS (x := (m.b, (chs n m.b s.pms m.v).1)) hN hk3 e2 hz3
   have hr4 : Zz.look H3 rb 0 = some [.sref ab 0 0 6 n (some n), zp, zs, zv, .int .i64 n, .mref mb] := by rw [look_of_get (hk3 _ (by omega) fun q => (h.dt _ q).1 rfl)]; exact h.r
   have hcz := e2.cells
   unfold AV.cells at hcz
   clear e2 e3 e4
   have hpu : mput (.int .i64 m.b) (.agg [.int .i64 (chs n m.b s.pms m.v).1.s, .int .i64 (chs n m.b s.pms m.v).1.c, .int .i64 (chs n m.b s.pms m.v).1.n, .int .i64 (chs n m.b s.pms m.v).1.d]) (vfl s.sts) = vfl (s.sts ++ [(m.b, (chs n m.b s.pms m.v).1)]) := vfl_put hvg
   rw [← hpu] at hfin
   repeat' (first | (refine WT.nil ?_) | (refine WT.free rfl (by intro; simp (disch := omega) only [go_sem, Nat.reduceAdd]; rfl) rfl (by simp only [pt8, pt1, pt2, pt3]; rfl) ?_) | (refine WT.bigN rfl rfl (by intro; simp (disch := omega) only [go_sem, ov_one2, Option.bind_eq_bind, Nat.reduceAdd, hcz, hr4, ov_one2, setBlk]; rfl) (by simp (disch := omega) only [go_sem, Nat.reduceAdd, touch]; rfl) (by first | exact .inl rfl | exact .inr (apart_nil _) | exact .inr trivial | (right; apply apart_mk; simp only [apartL, List.nil_append, List.cons_append, List.getElem?_cons_succ, List.getElem?_cons_zero, Tch.free, and_true, true_and]; first | done | omega)) ?_) | fail)
   refine ⟨_, rfl, ab, zp, z', zv, ?_⟩
   have hst : stepM n s m = { s with sts := s.sts ++ [(m.b, (chs n m.b s.pms m.v).1)] } := by
    unfold stepM
    rw [if_neg (by omega), if_pos hk, hvg]
    simp only
    rw [if_pos (by assumption)]
   rw [hst]
   exact hfin
  ·refine ⟨_, rfl, ab, zp, zs, zv, ?_⟩
   have hst : stepM n s m = s := by
    unfold stepM
    rw [if_neg (by omega), if_pos hk, hvg]
    simp only
    rw [if_neg (by assumption)]
   rw [hst]
   exact h.more fun j hj => List.getElem?_append_left hj
end Go.Proofs.YtgchabldcnmccacGreatDoor

