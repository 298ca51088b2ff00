import Derived.Test.YtgchabldcnmccacGreatDoorWb

set_option linter.unusedSimpArgs false
set_option linter.unusedVariables false

namespace Go.Proofs.YtgchabldcnmccacGreatDoor
open Go.Zz
set_option maxRecDepth 100000
set_option maxHeartbeats 8000000
def wks (s : Int × Tk) : List Vo → List Int → List Int
 | [], ks => ks
 | v :: r, ks => wks s r (if v.b = s.1 ∧ v.v = s.2 then kput v.d ks else ks)
theorem wks_mem {s : Int × Tk} {x : Int} : ∀ (vs : List Vo) (ks : List Int), x ∈ wks s vs ks ↔ x ∈ ks ∨ x ∈ vds vs s
 | [], ks => by simp [wks, vds]
 | v :: r, ks => by
  unfold wks
  rw [wks_mem r, vds_mem, vds_mem]
  split
  ·rename_i h
   rw [kput_mem]
   constructor
   ·rintro ((rfl | h1) | ⟨w, h1, h2⟩)
    ·exact .inr ⟨v, by simp, h.1, h.2, rfl⟩
    ·exact .inl h1
    ·exact .inr ⟨w, by simp [h1], h2⟩
   ·rintro (h1 | ⟨w, h1, h2, h3, h4⟩)
    ·exact .inl (.inr h1)
    ·rcases List.mem_cons.1 h1 with rfl | h1
     ·exact .inl (.inl h4.symm)
     ·exact .inr ⟨w, h1, h2, h3, h4⟩
  ·rename_i h
   constructor
   ·rintro (h1 | ⟨w, h1, h2⟩)
    ·exact .inl h1
    ·exact .inr ⟨w, by simp [h1], h2⟩
   ·rintro (h1 | ⟨w, h1, h2, h3, h4⟩)
    ·exact .inl h1
    ·rcases List.mem_cons.1 h1 with rfl | h1
     ·exact absurd ⟨h2, h3⟩ h
     ·exact .inr ⟨w, h1, h2, h3, h4⟩
theorem wks_nodup {s : Int × Tk} : ∀ (vs : List Vo) {ks : List Int}, ks.Nodup → (wks s vs ks).Nodup
 | [], _, h => h
 | v :: r, ks, h => by
  unfold wks
  split
  ·exact wks_nodup r (kput_nodup h)
  ·exact wks_nodup r h
theorem wks_len {n : Int} {s : Int × Tk} {vs : List Vo} (h : ∀ v ∈ vs, DkOk v.d n) : (wks s vs []).length = dn n (vds vs s) := by
 rw [← dn_nodup (n := n) (wks_nodup vs List.nodup_nil)]
 ·apply dn_congr
  intro x
  rw [wks_mem]
  simp
 ·intro x hx
  rw [wks_mem] at hx
  rcases hx with hx | hx
  ·cases hx
  ·obtain ⟨v, h1, _, _, rfl⟩ := vds_mem.1 hx
   exact h v h1
theorem wks_step {s : Int × Tk} : ∀ {vs : List Vo} {i : Nat} {ks : List Int}, i < vs.length → wks s (vs.take (i + 1)) ks = if (vnth vs i).b = s.1 ∧ (vnth vs i).v = s.2 then kput (vnth vs i).d (wks s (vs.take i) ks) else wks s (vs.take i) ks
 | [], _, _, h => by simp at h
 | v :: r, 0, ks, _ => by simp [wks, vnth]
 | v :: r, i + 1, ks, h => by
  simp only [List.take_succ_cons, wks]
  rw [wks_step (vs := r) (i := i) (by simpa using h)]
  simp [vnth]
theorem wks_le {s : Int × Tk} {vs : List Vo} : (wks s vs []).length ≤ vs.length := by
 have h := nodup_sub (b := vs.map (·.d)) (wks_nodup vs (s := s) List.nodup_nil) fun x hx => by
  rw [wks_mem] at hx
  rcases hx with hx | hx
  ·cases hx
  ·obtain ⟨v, h1, _, _, rfl⟩ := vds_mem.1 hx
   exact List.mem_map.2 ⟨v, h1, rfl⟩
 simpa using h
theorem tk_eqC {t u : Tk} : cellsEq [true, true, true, true] [.int .i64 t.s, .int .i64 t.c, .int .i64 t.n, .int .i64 t.d] [.int .i64 u.s, .int .i64 u.c, .int .i64 u.n, .int .i64 u.d] = some (decide (t = u)) := by
 obtain ⟨a, b, c, d⟩ := t
 obtain ⟨a', b', c', d'⟩ := u
 simp [cellsEq, cellEq, Tk.mk.injEq]
 rw [Bool.eq_iff_iff]
 simp
theorem f57 {H : Hp} {L : List (Option ALoop)} {nb : Nat} {n : Int} {v : Vo} (hn : Zz.look H nb 0 = some [.int .i64 n]) (h : DkOk v.d n ∧ BlOk v.b ∧ TkOk v.v) :
  WF Y4 (.func 57 [] [.pref nb 0 0]) [.agg [.int .i64 v.d, .int .i64 v.b, .int .i64 v.v.s, .int .i64 v.v.c, .int .i64 v.v.n, .int .i64 v.v.d]] ⟨H, L⟩ fun y m' => y = .bool false ∧ ∃ b, m' = ⟨H ++ [b], L⟩ := by
 have hn2 : ∀ R, Zz.look (H ++ R) nb 0 = some [.int .i64 n] := fun R => look_appR hn
 obtain ⟨h1, h2, h3⟩ := h
 have s1 := fun m => s20 (d := v.d) (n := n) (m := m)
 have s2 := fun m => s11 (b := v.b) (m := m)
 have s3 := fun m => s23 (t := v.v) (m := m)
 simp only [h1, h2, h3, decide_true] at s1 s2 s3
 refine WF.fnE rfl (fn_of Tryz.func57 cir57) (by show 2 ≤ 21; decide) ?_
 unfold ir57; dsimp only [k0, kI, mV, oO, oG]
 simp only [padTo, List.replicate, List.nil_append, List.cons_append]
 repeat' (first | (refine WO.yes rfl ?_) | (refine WO.opE (by intro; simp (disch := omega) only [go_sem, hn2, lk0]; rfl) (by simp only [pt8, pt0, pt1, pt2, pt3, pt4, pt5, pt6, pt7]; rfl) ?_) | (refine WO.specE rfl rfl (s1 _) (by simp only [pt7]; rfl) ?_) | (refine WO.specE rfl rfl (s2 _) (by simp only [pt8, pt4]; rfl) ?_) | (refine WO.specE rfl rfl (s3 _) (by simp only [pt8, pt2]; rfl) ?_) | (refine WC.seq ?_) | (refine WC.region ?_) | (refine WO.nil ?_) | (simp only [fl1]) | (refine WC.ret ?_))
 all_goals exact ⟨_, rfl, rfl, _, rfl⟩
theorem f79 {H : Hp} {L : List (Option ALoop)} {nb : Nat} {n : Int} {x : AV} {vs : List Vo} (hx : VoL x vs) (hn : Zz.look H nb 0 = some [.int .i64 n]) (h : ∀ v ∈ vs, DkOk v.d n ∧ BlOk v.b ∧ TkOk v.v) (hlen : vs.length ≤ 1000000) :
  WF Y4 (.func 79 [] []) [x, .func 57 [] [.pref nb 0 0]] ⟨H, L⟩ fun y m' => y = .int .i64 (-1) ∧ ∃ X, m' = ⟨H ++ X, L⟩ := by
 refine WF.fnE rfl (fn_of Tryz.func79 cir79) (by show 2 ≤ 19; decide) ?_
 unfold ir79; dsimp only [k0, kI, mV, oO, oG]
 simp only [padTo, List.replicate, List.nil_append, List.append_nil]
 repeat' (first | (refine WO.opE (by intro; simp (disch := omega) only [go_sem]; rfl) (by simp only [pt8, pt0, pt4, pt6]; rfl) ?_) | (refine WO.opE (by intro; exact ev_lenS (by simp only [go_sem]; exact hx.len)) (by simp only [pt7]; rfl) ?_) | (refine WC.seq ?_) | (refine WC.region ?_) | (refine WO.nil ?_) | (simp only [fl1]) | (refine WC.block ?_))
 refine WC.loopI (fun m st => ∃ T i X, st = ⟨T, H ++ X, L⟩ ∧ T.length = 19 ∧ gt T 0 = x ∧ gt T 1 = .func 57 [] [.pref nb 0 0] ∧ gt T 7 = .int .i64 (vs.length : Nat) ∧ gt T 8 = .int .i64 (i : Nat) ∧ m + i = vs.length) ?_ vs.length _ ⟨_, 0, [], by rw [List.append_nil], rfl, rfl, rfl, rfl, rfl, rfl⟩
 rintro m _ ⟨T, i, X, rfl, hT, g0, g1, g7, g8, hml⟩
 obtain ⟨f, rfl⟩ := ex19 hT
 clear hT
 replace g0 : f 0 = x := g0
 replace g1 : f 1 = .func 57 [] [.pref nb 0 0] := g1
 replace g7 : f 7 = .int .i64 (vs.length : Nat) := g7
 replace g8 : f 8 = .int .i64 (i : Nat) := g8
 simp only [g0, g1, g7, g8]
 by_cases hi : i < vs.length
 ·have hat := hx.at hi
  have hv := h _ (vnth_mem hi)
  generalize vnth vs i = v at *
  repeat' (first | (refine WO.opE (by intro; simp (disch := omega) only [go_sem, hat]; rfl) (by simp only [pt8, pt1, pt2, pt3, pt4, pt5, pt6, pt7]; rfl) ?_) | (refine WC.seq ?_) | (refine WC.region ?_) | (refine WO.nil ?_) | (simp only [fl1]) | (refine WC.skip ?_) | (refine WC.block ?_) | (refine WC.em2 rfl (fun hp => ?_) (fun hp => ?_) <;> try (exfalso; first | omega | contradiction)))
  refine WO.call rfl rfl ((f57 (look_appR hn) hv).mono ?_)
  rintro y _ ⟨rfl, b, rfl⟩
  simp only [pt8, pt0]
  repeat' (first | (refine WO.opE (by intro; simp (disch := omega) only [go_sem]; rfl) (by simp only [pt8, pt0, pt2]; rfl) ?_) | (refine WC.region ?_) | (refine WO.nil ?_) | (simp only [fl10]) | (refine WC.no rfl ?_) | (refine WC.skip ?_))
  exact ⟨m - 1, by omega, _, i + 1, X ++ [b], by rw [← List.append_assoc], rfl, rfl, rfl, rfl, rfl, by omega⟩
 ·
  repeat' (first | (refine WO.opE (by intro; simp (disch := omega) only [go_sem, Int.reduceNeg, Int.reduceAdd]; rfl) (by simp only [pt8, pt1, pt4]; rfl) ?_) | (refine WC.seq ?_) | (refine WC.region ?_) | (refine WO.nil ?_) | (simp only [fl1]) | (refine WC.exit ?_) | (refine WC.ret ?_) | (refine WC.em2 rfl (fun hp => ?_) (fun hp => ?_) <;> try (exfalso; first | omega | contradiction)))
  exact ⟨_, rfl, rfl, X, rfl⟩
theorem f58 {H : Hp} {L : List (Option ALoop)} {nb : Nat} {n : Int} {x : AV} {vs : List Vo} (hx : VoL x vs) (hn : Zz.look H nb 0 = some [.int .i64 n]) (h : ∀ v ∈ vs, DkOk v.d n ∧ BlOk v.b ∧ TkOk v.v) (hlen : vs.length ≤ 1000000) :
  WF Y4 (.func 58 [] []) [x, .func 57 [] [.pref nb 0 0]] ⟨H, L⟩ fun y m' => y = .bool false ∧ ∃ X, m' = ⟨H ++ X, L⟩ := by
 refine WF.fnE rfl (fn_of Tryz.func58 cir58) (by show 2 ≤ 9; decide) ?_
 unfold ir58; dsimp only [k0, kI, mV, oO, oG]
 simp only [padTo, List.replicate, List.nil_append, List.append_nil]
 repeat' (first | (refine WO.opE (by intro; simp (disch := omega) only [go_sem]; rfl) (by simp only [pt4, pt5, pt6]; rfl) ?_) | (refine WC.seq ?_) | (refine WC.region ?_) | (refine WO.nil ?_) | (simp only [fl1]))
 refine WO.call rfl rfl ((f79 hx hn h hlen).mono ?_)
 rintro y _ ⟨rfl, X, rfl⟩
 simp only [pt7]
 repeat' (first | (refine WO.opE (by intro; simp (disch := omega) only [go_sem, Int.reduceNeg]; rfl) (by simp only [pt8, pt0, pt4]; rfl) ?_) | (refine WO.nil ?_) | (refine WC.ret ?_))
 exact ⟨_, rfl, rfl, X, rfl⟩
theorem f80 {H : Hp} {L : List (Option ALoop)} {mb k : Nat} {d : Int} {ks : List Int} (hk : Zz.look H mb 0 = some [.mref k]) (hm : L[k]? = some (some (mapObj (kF ks)))) :
  WF Y4 (.func 80 [] [.pref mb 0 0]) [.int .i64 d] ⟨H, L⟩ fun y m' => m' = ⟨H, L.set k (some (mapObj (kF (kput d ks))))⟩ := by
 rw [← kF_put]
 refine WF.fnE rfl (fn_of Tryz.func80 cir80) (by show 2 ≤ 5; decide) ?_
 unfold ir80; dsimp only [k0, kI, mV, oO, oG]
 simp only [padTo, List.replicate, List.nil_append, List.cons_append]
 repeat' (first | (refine WO.opE (by intro; simp (disch := omega) only [go_sem, hk]; rfl) (by simp only [pt3, pt4]; rfl) ?_) | (refine WO.opN (by intro; exact ev_mapSet rfl rfl rfl (hm) (kF_keys _)) ?_) | (refine WC.region ?_) | (refine WO.nil ?_) | (simp only [fl1]))
 exact ⟨_, rfl, rfl⟩
theorem f60 {H : Hp} {L : List (Option ALoop)} {mb pb sb k : Nat} {x : AV} {vs : List Vo} {s : Int × Tk} (hx : VoL x vs) (hk : Zz.look H mb 0 = some [.mref k]) (hp : Zz.look H pb 0 = some [x]) (hb : Zz.look H sb 0 = some [.int .i64 s.1, .int .i64 s.2.s, .int .i64 s.2.c, .int .i64 s.2.n, .int .i64 s.2.d]) (hlen : (vs.length : Int) ≤ 1000000)
  (hm : L[k]? = some (some (mapObj []))) :
  WF Y4 (.func 60 [] [.pref pb 0 0, .pref sb 0 0]) [.func 80 [] [.pref mb 0 0]] ⟨H, L⟩ fun y m' => ∃ X, m' = ⟨H ++ X, L.set k (some (mapObj (kF (wks s vs []))))⟩ := by
 have hkl : k < L.length := (List.getElem?_eq_some_iff.1 hm).1
 refine WF.fnE rfl (fn_of Tryz.func60 cir60) (by show 3 ≤ 29; decide) ?_
 unfold ir60; dsimp only [k0, kI, mV, oO, oG]
 simp only [padTo, List.replicate, List.nil_append, List.cons_append]
 repeat' (first | (refine WO.opE (by intro; simp (disch := omega) only [go_sem, hp]; rfl) (by simp only [pt8, pt0, pt6]; rfl) ?_) | (refine WO.opE (by intro; exact ev_lenS (by simp only [go_sem]; exact hx.len)) (by simp only [pt7]; rfl) ?_) | (refine WC.seq ?_) | (refine WC.region ?_) | (refine WO.nil ?_) | (simp only [fl1]) | (refine WC.block ?_))
 have hL0 : L.set k (some (mapObj (kF (wks s (vs.take 0) [])))) = L := by
  apply List.ext_getElem?
  intro j
  rw [List.getElem?_set]
  split
  ·rename_i e; subst e; rw [hm]; simp [hkl]; rfl
  ·rfl
 refine WC.loopI (fun m st => ∃ T i X, st = ⟨T, H ++ X, L.set k (some (mapObj (kF (wks s (vs.take i) []))))⟩ ∧ T.length = 29 ∧ gt T 0 = .func 80 [] [.pref mb 0 0] ∧ gt T 1 = .pref pb 0 0 ∧ gt T 2 = .pref sb 0 0 ∧ gt T 6 = x ∧ gt T 7 = .int .i64 (vs.length : Nat) ∧ gt T 8 = .int .i64 (i : Nat) ∧ m + i = vs.length) ?_ vs.length _ ⟨_, 0, [], by rw [hL0, List.append_nil], rfl, rfl, rfl, rfl, rfl, rfl, rfl, by omega⟩
 rintro m _ ⟨T, i, X, rfl, hT, g0, g1, g2, g6, g7, g8, hml⟩
 obtain ⟨f, rfl⟩ := ex29 hT
 clear hT
 replace g0 : f 0 = .func 80 [] [.pref mb 0 0] := g0
 replace g1 : f 1 = .pref pb 0 0 := g1
 replace g2 : f 2 = .pref sb 0 0 := g2
 replace g6 : f 6 = x := g6
 replace g7 : f 7 = .int .i64 (vs.length : Nat) := g7
 replace g8 : f 8 = .int .i64 (i : Nat) := g8
 simp only [g0, g1, g2, g6, g7, g8]
 by_cases hi : i < vs.length
 ·have hat := hx.at hi
  have hst := wks_step (s := s) (ks := []) hi
  generalize hpn : vnth vs i = v at *
  have hb1 : Zz.look (H ++ X) sb 0 = some [.int .i64 s.1, .int .i64 s.2.s, .int .i64 s.2.c, .int .i64 s.2.n, .int .i64 s.2.d] := look_appR hb
  have hk1 : Zz.look (H ++ X) mb 0 = some [.mref k] := look_appR hk
  generalize hA : H ++ X = A at *
  have hb2 : ∀ R, Zz.look (A ++ R) sb 0 = some [.int .i64 s.1, .int .i64 s.2.s, .int .i64 s.2.c, .int .i64 s.2.n, .int .i64 s.2.d] := fun R => look_appR hb1
  have hk2 : ∀ R, Zz.look (A ++ R) mb 0 = some [.mref k] := fun R => look_appR hk1
  have hcs : Zz.cut [AV.int .i64 s.1, .int .i64 s.2.s, .int .i64 s.2.c, .int .i64 s.2.n, .int .i64 s.2.d] 1 4 = some [.int .i64 s.2.s, .int .i64 s.2.c, .int .i64 s.2.n, .int .i64 s.2.d] := rfl
  have hcv : Zz.cut [.int .i64 v.d, .int .i64 v.b, .int .i64 v.v.s, .int .i64 v.v.c, .int .i64 v.v.n, .int .i64 v.v.d] 2 4 = some [.int .i64 v.v.s, .int .i64 v.v.c, .int .i64 v.v.n, .int .i64 v.v.d] := rfl
  have hte := tk_eqC (t := v.v) (u := s.2)
  by_cases h1 : v.b = s.1
  ·by_cases h2 : v.v = s.2
   ·rw [if_pos ⟨h1, h2⟩] at hst
    simp only [h2, decide_true] at hte
    rw [h2] at hcv
    repeat' (first | (refine WO.yes rfl ?_) | (refine WO.opE (by intro; simp (disch := omega) only [go_sem, hat, hb2, lk0, h1, h2, hte, hcs]; rfl) (by simp only [pt8, pt0, pt1, pt2, pt3, pt4, pt5, pt6, pt7]; rfl) ?_) | (refine WO.opN (by intro; simp (disch := omega) only [go_sem, ov_all6, Option.bind_eq_bind, Nat.reduceAdd, lk0, st0, setBlk, ov_all6]; rfl) ?_) | (refine WC.seq ?_) | (refine WC.region ?_) | (refine WO.nil ?_) | (simp only [fl1, fl4]) | (refine WC.yes rfl ?_) | (refine WC.skip ?_) | (refine WC.block ?_) | (refine WC.em2 rfl (fun hp => ?_) (fun hp => ?_) <;> try (exfalso; first | omega | contradiction)))
    refine WO.call rfl rfl ((f80 (hk2 _) (by rw [List.getElem?_set_self hkl])).mono ?_)
    rintro y _ rfl
    simp only [pt8, pt3, List.set_set]
    rw [← hst]
    repeat' (first | (refine WO.opE (by intro; simp (disch := omega) only [go_sem]; rfl) (by simp only [pt8, pt0, pt4]; rfl) ?_) | (refine WC.region ?_) | (refine WO.nil ?_) | (simp only [fl10]))
    exact ⟨m - 1, by omega, _, i + 1, X ++ [_], by rw [← List.append_assoc, hA], rfl, rfl, rfl, rfl, rfl, rfl, rfl, by omega⟩
   ·rw [if_neg fun h => h2 h.2] at hst
    simp only [h2, decide_false] at hte
    repeat' (first | (refine WO.yes rfl ?_) | (refine WO.opE (by intro; simp (disch := omega) only [go_sem, hat, hb2, lk0, h1, hte, hcs]; rfl) (by simp only [pt8, pt0, pt1, pt2, pt3, pt4, pt5, pt6, pt7]; rfl) ?_) | (refine WO.opN (by intro; simp (disch := omega) only [go_sem, ov_all6, Option.bind_eq_bind, Nat.reduceAdd, lk0, st0, setBlk, ov_all6]; rfl) ?_) | (refine WC.seq ?_) | (refine WC.region ?_) | (refine WO.nil ?_) | (simp only [fl1, fl10]) | (refine WC.no rfl ?_) | (refine WC.skip ?_) | (refine WC.block ?_) | (refine WC.em2 rfl (fun hp => ?_) (fun hp => ?_) <;> try (exfalso; first | omega | contradiction)))
    rw [← hst]
    exact ⟨m - 1, by omega, _, i + 1, X ++ [_], by rw [← List.append_assoc, hA], rfl, rfl, rfl, rfl, rfl, rfl, rfl, by omega⟩
  ·rw [if_neg fun h => h1 h.1] at hst
   repeat' (first | (refine WO.noE rfl (by simp only [pt8, pt2, pt3, pt4, pt5, pt6]; rfl) ?_) | (refine WO.opE (by intro; simp (disch := omega) only [go_sem, hat, hb2, lk0]; rfl) (by simp only [pt8, pt0, pt1, pt2, pt3, pt4, pt5, pt6, pt7]; rfl) ?_) | (refine WO.opN (by intro; simp (disch := omega) only [go_sem, ov_all6, Option.bind_eq_bind, Nat.reduceAdd, lk0, st0, setBlk, ov_all6]; rfl) ?_) | (refine WC.seq ?_) | (refine WC.region ?_) | (refine WO.nil ?_) | (simp only [fl1, fl10]) | (refine WC.no rfl ?_) | (refine WC.skip ?_) | (refine WC.block ?_) | (refine WO.em2 rfl (by intro hp; simp only [hp, decide_true]; rfl) (by intro hp; simp only [hp, decide_false]; rfl) (fun hp => ?_) (fun hp => ?_) <;> try (exfalso; first | omega | contradiction)) | (refine WC.em2 rfl (fun hp => ?_) (fun hp => ?_) <;> try (exfalso; first | omega | contradiction)))
   rw [← hst]
   exact ⟨m - 1, by omega, _, i + 1, X ++ [_], by rw [← List.append_assoc, hA], rfl, rfl, rfl, rfl, rfl, rfl, rfl, by omega⟩
 ·have hie : i = vs.length := by omega
  subst hie
  rw [List.take_length]
  repeat' (first | (refine WO.opE (by intro; simp (disch := omega) only [go_sem]; rfl) (by simp only [pt8, pt1]; rfl) ?_) | (refine WC.seq ?_) | (refine WC.region ?_) | (refine WO.nil ?_) | (simp only [fl3, fl6, fl9]) | (refine WC.exit ?_) | (refine WC.em2 rfl (fun hp => ?_) (fun hp => ?_) <;> try (exfalso; first | omega | contradiction)))
  exact ⟨_, rfl, X, rfl⟩
theorem f59 {H : Hp} {L : List (Option ALoop)} {pb sb : Nat} {x : AV} {vs : List Vo} {s : Int × Tk} {n : Int} (hx : VoL x vs) (hp : Zz.look H pb 0 = some [x]) (hb : Zz.look H sb 0 = some [.int .i64 s.1, .int .i64 s.2.s, .int .i64 s.2.c, .int .i64 s.2.n, .int .i64 s.2.d]) (hlen : (vs.length : Int) ≤ 1000000) (hd : ∀ v ∈ vs, DkOk v.d n) :
  WF Y4 (.func 59 [] []) [.int .i64 n, .func 60 [] [.pref pb 0 0, .pref sb 0 0]] ⟨H, L⟩ fun y m' => y = .bool (decide (Chn n vs s)) ∧ ∃ X Y, m' = ⟨H ++ X, L ++ Y⟩ := by
 have hwl := wks_len (s := s) hd
 have hle := wks_le (s := s) (vs := vs)
 obtain ⟨ks, hks⟩ : ∃ ks, wks s vs [] = ks := ⟨_, rfl⟩
 rw [hks] at hwl hle
 have hch : decide (Chn n vs s) = decide (n < 2 * (ks.length : Int)) := decide_eq_decide.2 (by unfold Chn; rw [hwl])
 rw [hch]
 clear hch hwl
 refine WF.fnE rfl (fn_of Tryz.func59 cir59) (by show 2 ≤ 15; decide) ?_
 unfold ir59; dsimp only [k0, kI, mV, oO, oG]
 simp only [padTo, List.replicate, List.nil_append, List.append_nil]
 repeat' (first | (refine WO.opE (by intro; simp (disch := omega) only [go_sem]; rfl) (by simp only [pt8, pt0, pt4, pt5, pt6, pt7]; rfl) ?_) | (refine WO.opN (by intro; simp (disch := omega) only [go_sem, ov_one0, Option.bind_eq_bind, lk0, st0, setBlk]; rfl) ?_) | (refine WC.seq ?_) | (refine WC.region ?_) | (refine WO.nil ?_) | (simp only [fl1]))
 refine WO.call rfl rfl ((f60 (s := s) (k := L.length) hx (lk0 rfl) (look_appR hp) (look_appR hb) hlen (by simp)).mono ?_)
 rintro y _ ⟨X, rfl⟩
 rw [hks]
 have hset : (L ++ [some (mapObj [])]).set L.length (some (mapObj (kF ks))) = L ++ [some (mapObj (kF ks))] := by simp
 simp only [pt8, pt1, hset]
 have hlm : (L ++ [some (mapObj (kF ks))])[L.length]? = some (some (mapObj (kF ks))) := by simp
 have hdc : (((kF ks).length / 2 : Nat) : Int) = ks.length := by rw [kF_len]; omega
 have hw : IntKind.i64.wrap (2 * (ks.length : Int)) = 2 * (ks.length : Int) := wrap_id (by omega) (by omega)
 repeat' (first | (refine WO.opE (by intro; simp (disch := omega) only [go_sem, lk0, hdc, hw, List.append_assoc, List.singleton_append]; rfl) (by simp only [pt8, pt2, pt4, pt5, pt6]; rfl) ?_) | (refine WO.opE (by intro; exact ev_lenM rfl (hlm)) (by simp only [pt8, pt3]; rfl) ?_) | (refine WC.seq ?_) | (refine WC.region ?_) | (refine WO.nil ?_) | (simp only [fl1]) | (refine WC.ret ?_))
 exact ⟨_, rfl, rfl, _, _, rfl⟩
end Go.Proofs.YtgchabldcnmccacGreatDoor

