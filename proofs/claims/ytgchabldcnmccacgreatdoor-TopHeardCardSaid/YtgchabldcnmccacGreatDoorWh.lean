import Derived.Test.YtgchabldcnmccacGreatDoorWg

set_option linter.unusedSimpArgs false
set_option linter.unusedVariables false

namespace Go.Proofs.YtgchabldcnmccacGreatDoor
open Go.Zz
set_option maxRecDepth 100000
set_option maxHeartbeats 8000000
theorem SlH.byV {H : Hp} {z : AV} {k len : Nat} {l : List AV} (h : SlH H z k l len) (hf : l.all flatAV = true) : Zz.byVal H z = some (slV l len) := by
 obtain ⟨h1, ⟨rfl, rfl⟩ | ⟨h2, id, g, rfl, h3⟩⟩ := h
 ·rfl
 ·have e2 : Zz.cut l 0 (len * k) = some l := by
   unfold Zz.cut
   rw [if_pos (by omega)]
   simp [← h1]
  simp only [Zz.byVal, Zz.byC, h3, e2, hf, if_true, slV]
  rw [if_neg (by omega)]
  rfl
theorem x31 {n : Int} {x : AV} {vs : List Vo} {V : Tk} (hx : VoL x vs) (h : VoOk n vs V) : ∃ l, l.length = (chL n vs).length ∧ (∀ s ∈ l, s.2 = V) ∧ ∀ z m, Zz.byVal m.heap z = some x → borrowX Y4 31 [.int .i64 n, z] m = some (.tuple [slV (stF l) l.length, .int .i64 0], m) := by
 obtain ⟨k, y, m', h1, l, h2, h3, h4⟩ := (f31 hx h).ex
 exact ⟨l, h2, h3, fun z m hz => borrowX_of (byVals_cons rfl (byVals_cons hz (byVals_nil _))) ⟨⟨k, y, m', h1, h4⟩⟩⟩
noncomputable def Z2 : Env := Z1.put 31 (borrowX Y4 31)
theorem Z2_ok : EnvOk Tryz.prog Z2 := Env.put_ok Z1_ok (borrowX_ok Y4_ok (callable Tryz.func31 (by kernel_rfl)))
def MgL (x : AV) (ms : List Mg) : Prop := SL 10 x (ms.map Mg.cells)
theorem MgL.len {x : AV} {ms : List Mg} (h : MgL x ms) : slen x = some ms.length := by
 have := SL.len h
 rwa [List.length_map] at this
def gtail (ms : List Mg) (i : Nat) : List AV := ((ms.map Mg.cells).drop (i + 1)).flatten
def gnth (ms : List Mg) (i : Nat) : Mg := ms.getD i default
theorem gnth_eq {ms : List Mg} {i : Nat} (h : i < ms.length) : gnth ms i = ms[i] := by simp [gnth, h]
theorem gnth_mem {ms : List Mg} {i : Nat} (h : i < ms.length) : gnth ms i ∈ ms := by
 rw [gnth_eq h]
 exact List.getElem_mem h
theorem MgL.at {x : AV} {ms : List Mg} (h : MgL x ms) {i : Nat} (hi : i < ms.length) : indexAddrAV 10 x (.int .i64 (i : Int)) = some (.pval (.int .i64 (gnth ms i).k :: .int .i64 (gnth ms i).f :: .int .i64 (gnth ms i).t :: .int .i64 (gnth ms i).s :: .int .i64 (gnth ms i).b :: .int .i64 (gnth ms i).w :: .int .i64 (gnth ms i).v.s :: .int .i64 (gnth ms i).v.c :: .int .i64 (gnth ms i).v.n :: .int .i64 (gnth ms i).v.d :: gtail ms i)) := by
 have := SL.at h (i := i) (by simpa using hi)
 rw [gnth_eq hi]
 simpa [Mg.cells, Tk.cells, gtail] using this
theorem MgL.slV {ms : List Mg} {k : Nat} (hk : k = ms.length) : MgL (slV (msF ms) k) ms := by
 subst hk
 unfold Go.Proofs.YtgchabldcnmccacGreatDoor.slV
 have hc : ∀ c ∈ ms.map Mg.cells, c.length = 10 := fun c hc => by
  obtain ⟨p, _, rfl⟩ := List.mem_map.1 hc
  rfl
 split
 ·rename_i h
  have : ms = [] := by simpa using h
  subst this
  exact ⟨hc, .inl ⟨rfl, rfl⟩⟩
 ·exact ⟨hc, .inr ⟨false, by rw [List.length_map, msF, List.flatMap_def]⟩⟩
def StL (x : AV) (l : List (Int × Tk)) : Prop := SL 5 x (l.map stC)
theorem StL.len {x : AV} {l : List (Int × Tk)} (h : StL x l) : slen x = some l.length := by
 have := SL.len h
 rwa [List.length_map] at this
theorem StL.at {x : AV} {l : List (Int × Tk)} (h : StL x l) {i : Nat} (hi : i < l.length) : ∃ r, indexAddrAV 5 x (.int .i64 (i : Int)) = some (.pval (.int .i64 l[i].1 :: .int .i64 l[i].2.s :: .int .i64 l[i].2.c :: .int .i64 l[i].2.n :: .int .i64 l[i].2.d :: r)) := by
 have := SL.at h (i := i) (by simpa using hi)
 refine ⟨((l.map stC).drop (i + 1)).flatten, ?_⟩
 rw [this]
 simp [stC, Tk.cells]
theorem StL.slV {l : List (Int × Tk)} : StL (slV (stF l) l.length) l := by
 unfold Go.Proofs.YtgchabldcnmccacGreatDoor.slV
 have hc : ∀ c ∈ l.map stC, c.length = 5 := fun c hc => by
  obtain ⟨p, _, rfl⟩ := List.mem_map.1 hc
  rfl
 split
 ·rename_i h
  have : l = [] := by simpa using h
  subst this
  exact ⟨hc, .inl ⟨rfl, rfl⟩⟩
 ·exact ⟨hc, .inr ⟨false, by rw [List.length_map]; rfl⟩⟩
def lgV : List Tk → AV
 | [] => .snil
 | t :: _ => .sval false 1 [.int .i64 t.s, .int .i64 t.c, .int .i64 t.n, .int .i64 t.d]
theorem w11 {n : Int} {x : AV} {ms : List Mg} {V : Tk} (hx : MgL x ms) (h : VoOk n (ms.map mgV) V) : WF Z2 (.func 11 [] []) [.int .i64 n, x] ⟨[], []⟩ fun y m' => y = .tuple [lgV (logL n (ms.map mgV) V), .bool true] := by
 have hlen : ms.length ≤ 200 := by simpa using h.len
 refine WF.fnE rfl (fn_of Tryz.func11 cir11) (by show 2 ≤ 69; decide) ?_
 unfold ir11; dsimp only [k0, kI, mV, oO, oG]
 simp only [padTo, List.replicate, List.nil_append, List.append_nil]
 repeat' (first | (refine WO.opE (by intro; simp (disch := omega) only [go_sem]; rfl) (by simp only [pt4, pt5, pt6, pt7]; rfl) ?_) | (refine WC.seq ?_) | (refine WC.region ?_) | (refine WO.nil ?_) | (simp only [fl1]) | (refine WC.block ?_))
 refine WC.loopI (fun m st => ∃ T H z i, st = ⟨T, H, []⟩ ∧ T.length = 69 ∧ gt T 0 = .int .i64 n ∧ gt T 1 = x ∧ gt T 6 = z ∧ gt T 7 = .int .i64 (i : Nat) ∧ m + i = ms.length ∧ SlH H z 6 (voF ((ms.take i).map mgV)) i) ?_ ms.length _ ⟨_, _, .snil, 0, rfl, rfl, rfl, rfl, rfl, rfl, rfl, SlH.nil⟩
 rintro m _ ⟨T, H, z, i, rfl, hT, g0, g1, g6, g7, hml, hz⟩
 obtain ⟨f, rfl⟩ := ex69 hT
 clear hT
 replace g0 : f 0 = .int .i64 n := g0
 replace g1 : f 1 = x := g1
 replace g6 : f 6 = z := g6
 replace g7 : f 7 = .int .i64 (i : Nat) := g7
 simp only [g0, g1, g6, g7]
 by_cases hi : i < ms.length
 ·have hat := hx.at hi
  have htk : voF ((ms.take (i + 1)).map mgV) = voF ((ms.take i).map mgV) ++ [.int .i64 (gnth ms i).f, .int .i64 (gnth ms i).b, .int .i64 (gnth ms i).v.s, .int .i64 (gnth ms i).v.c, .int .i64 (gnth ms i).v.n, .int .i64 (gnth ms i).v.d] := by
   rw [List.take_succ_eq_append_getElem hi, List.map_append, gnth_eq hi]
   simp [voF, mgV, Vo.cells, Tk.cells]
  generalize gnth ms i = q at *
  repeat' (first | (refine WO.opE (by intro; simp (disch := omega) only [go_sem]; rfl) (by simp only [pt8, pt1, pt6, pt7]; rfl) ?_) | (refine WO.opE (by intro; exact ev_lenS (by simp only [go_sem]; exact hx.len)) (by simp only [pt8, pt0]; rfl) ?_) | (refine WC.seq ?_) | (refine WC.region ?_) | (refine WO.nil ?_) | (simp only [fl1, fl4]) | (refine WC.drawT ?_) | (refine WT.free rfl (by intro; simp (disch := omega) only [go_sem, zeros, ov_one0, ov_one1, ov_all6, fillP, Option.bind_eq_bind, Nat.reduceAdd, hat]; rfl) rfl (by simp only [pt8, pt0, pt1, pt2, pt3, pt4, pt5, pt6, pt7]; rfl) ?_) | (refine WT.big rfl rfl (by intro; simp (disch := omega) only [go_sem, zeros, ov_all6, fillP, Option.bind_eq_bind, Nat.reduceAdd]; rfl) (by simp (disch := omega) only [go_sem, touch]; rfl) (by first | exact .inl rfl | exact .inr (apart_nil _) | exact .inr trivial | (right; apply apart_mk; simp only [apartL, List.nil_append, List.cons_append, List.getElem?_cons_succ, List.getElem?_cons_zero, Tch.free, and_true, true_and]; first | done | omega)) (by simp only [pt8, pt1, pt3, pt5, pt6]; rfl) ?_) | (refine WC.skip ?_) | (refine WC.block ?_) | (refine WC.em2 rfl (fun hp => ?_) (fun hp => ?_) <;> try (exfalso; first | omega | contradiction)))
  obtain ⟨z', H', e1, e2, e3, e4, e5⟩ := SlH.push (L := []) (bytes := 48) (cap := some 1) (q := H.length) (hz.more (Y := [some ⟨0, [.int .i64 q.f, .int .i64 q.b, .int .i64 q.v.s, .int .i64 q.v.c, .int .i64 q.v.n, .int .i64 q.v.d]⟩])) (by decide) (lk0 rfl) rfl (by omega)
  refine WT.append rfl rfl e1 (apart_nil _) (apart_nil _) (by simp only [pt8, pt6]; rfl) ?_
  rw [← htk] at e2
  repeat' (first | (refine WO.opE (by intro; simp (disch := omega) only [go_sem, Nat.reduceAdd]; rfl) (by simp only [pt8, pt2, pt3, pt7]; rfl) ?_) | (refine WC.region ?_) | (refine WO.nil ?_) | (simp only [fl10]) | (refine WT.nil ?_) | (refine WT.free rfl (by intro; simp (disch := omega) only [go_sem, Nat.reduceAdd]; rfl) rfl (by simp only [pt6]; rfl) ?_) | fail)
  exact ⟨m - 1, by omega, _, H', z', i + 1, rfl, rfl, rfl, rfl, rfl, rfl, by omega, e2⟩
 ·have hie : i = ms.length := by omega
  subst hie
  rw [List.take_length] at hz
  have hvl : VoL (slV (voF (ms.map mgV)) ms.length) (ms.map mgV) := by
   have := VoL.slV (vs := ms.map mgV)
   rwa [List.length_map] at this
  obtain ⟨l, hl1, hl2, hl3⟩ := x31 hvl h
  have hzb := hz.byV (voF_flat _)
  have hlb : l.length ≤ 20 := by rw [hl1]; exact h.few
  repeat' (first | (refine WO.opE (by intro; simp (disch := omega) only [go_sem]; rfl) (by simp only [pt8, pt0, pt1, pt6, pt7]; rfl) ?_) | (refine WO.opE (by intro; exact ev_lenS (by simp only [go_sem]; exact hx.len)) (by simp only [pt8, pt0]; rfl) ?_) | (refine WC.seq ?_) | (refine WC.region ?_) | (refine WO.nil ?_) | (simp only [fl1]) | (refine WC.exit ?_) | (refine WC.em2 rfl (fun hp => ?_) (fun hp => ?_) <;> try (exfalso; first | omega | contradiction)))
  refine WO.specE rfl rfl (hl3 _ _ hzb) (by simp only [pt8, pt2]; rfl) ?_
  have hw := StL.slV (l := l)
  generalize slV (stF l) l.length = w at *
  have hVk := h.V
  repeat' (first | (refine WO.opE (by intro; simp (disch := omega) only [go_sem]; rfl) (by simp only [pt8, pt0, pt1, pt2, pt3, pt4, pt5, pt6, pt7]; rfl) ?_) | (refine WC.seq ?_) | (refine WC.region ?_) | (refine WO.nil ?_) | (simp only [fl1]) | (refine WC.no rfl ?_) | (refine WC.skip ?_) | (refine WC.block ?_))
  refine WC.loopI (fun m st => ∃ T i y, st = ⟨T, H, []⟩ ∧ T.length = 69 ∧ gt T 8 = w ∧ gt T 10 = y ∧ gt T 11 = .int .i64 (i : Nat) ∧ m + i = l.length ∧ (i = 0 ∧ y = .snil ∨ 0 < i ∧ y = .sval false 1 [.int .i64 V.s, .int .i64 V.c, .int .i64 V.n, .int .i64 V.d])) ?_ l.length _ ⟨_, 0, .snil, rfl, rfl, rfl, rfl, rfl, rfl, .inl ⟨rfl, rfl⟩⟩
  rintro m2 _ ⟨T, i, y, rfl, hT, g8, g10, g11, hm2, hy⟩
  obtain ⟨f, rfl⟩ := ex69 hT
  clear hT
  replace g8 : f 8 = w := g8
  replace g10 : f 10 = y := g10
  replace g11 : f 11 = .int .i64 (i : Nat) := g11
  simp only [g8, g10, g11]
  by_cases hi2 : i < l.length
  ·obtain ⟨r, hat⟩ := hw.at hi2
   have hv := hl2 l[i] (List.getElem_mem hi2)
   generalize l[i] = s at *
   obtain ⟨sb, sv⟩ := s
   simp only at hv
   subst hv
   have hs1 := fun m => s32a hVk (m := m)
   have hs2 := fun m => s32b (f := false) hVk (m := m)
   rcases hy with ⟨rfl, rfl⟩ | ⟨hi0, rfl⟩
   ·
    repeat' (first | (refine WO.opE (by intro; simp (disch := omega) only [go_sem, hat]; rfl) (by simp only [pt8, pt0, pt1, pt2, pt3, pt4, pt5, pt6, pt7]; rfl) ?_) | (refine WO.opE (by intro; exact ev_lenS (by simp only [go_sem]; exact hw.len)) (by simp only [pt8, pt1]; rfl) ?_) | (refine WO.specE rfl rfl (hs1 _) (by simp only [pt8, pt4]; rfl) ?_) | (refine WC.seq ?_) | (refine WC.region ?_) | (refine WO.nil ?_) | (simp only [fl1, fl10]) | (refine WC.yes rfl ?_) | (refine WC.skip ?_) | (refine WC.block ?_) | (refine WC.em2 rfl (fun hp => ?_) (fun hp => ?_) <;> try (exfalso; first | omega | contradiction)))
    exact ⟨m2 - 1, by omega, _, 1, _, rfl, rfl, rfl, rfl, rfl, by omega, .inr ⟨by omega, rfl⟩⟩
   ·
    repeat' (first | (refine WO.opE (by intro; simp (disch := omega) only [go_sem, hat]; rfl) (by simp only [pt8, pt0, pt1, pt2, pt3, pt4, pt5, pt6, pt7]; rfl) ?_) | (refine WO.opE (by intro; exact ev_lenS (by simp only [go_sem]; exact hw.len)) (by simp only [pt8, pt1]; rfl) ?_) | (refine WO.specE rfl rfl (hs2 _) (by simp only [pt8, pt4]; rfl) ?_) | (refine WC.seq ?_) | (refine WC.region ?_) | (refine WO.nil ?_) | (simp only [fl1, fl10]) | (refine WC.no rfl ?_) | (refine WC.skip ?_) | (refine WC.block ?_) | (refine WC.em2 rfl (fun hp => ?_) (fun hp => ?_) <;> try (exfalso; first | omega | contradiction)))
    exact ⟨m2 - 1, by omega, _, i + 1, _, rfl, rfl, rfl, rfl, rfl, by omega, .inr ⟨by omega, rfl⟩⟩
  ·
   repeat' (first | (refine WO.opE (by intro; simp (disch := omega) only [go_sem]; rfl) (by simp only [pt8, pt0, pt2, pt4, pt5, pt7]; rfl) ?_) | (refine WO.opE (by intro; exact ev_lenS (by simp only [go_sem]; exact hw.len)) (by simp only [pt8, pt1]; rfl) ?_) | (refine WC.seq ?_) | (refine WC.region ?_) | (refine WO.nil ?_) | (simp only [fl1]) | (refine WC.exit ?_) | (refine WC.ret ?_) | (refine WC.em2 rfl (fun hp => ?_) (fun hp => ?_) <;> try (exfalso; first | omega | contradiction)))
   have hie : i = l.length := by omega
   refine ⟨_, rfl, ?_⟩
   show AV.tuple [y, .bool true] = _
   rcases hy with ⟨h0, rfl⟩ | ⟨h0, rfl⟩
   ·have e : (chL n (ms.map mgV)).length = 0 := by omega
    simp only [logL, e, if_true, lgV]
   ·have e : ¬ (chL n (ms.map mgV)).length = 0 := by omega
    simp only [logL, e, if_false, lgV]
theorem t11 {n : Int} {x z : AV} {ms : List Mg} {V : Tk} (hx : MgL x ms) (h : VoOk n (ms.map mgV) V) (hz : Zz.pureA x = true) {m : Mem} : borrowE Z2 11 [.int .i64 n, x] m = some (.tuple [lgV (logL n (ms.map mgV) V), .bool true], m) :=
 borrowE_of (by rw [List.all_cons, List.all_cons, hz]; rfl) ((w11 hx h).mono fun y m' e => by
   rw [e]
   unfold logL
   split <;> rfl)
noncomputable def Z3 : Env := Z2.put 11 (borrowE Z2 11)
theorem Z3_ok : EnvOk Tryz.prog Z3 := Env.put_ok Z2_ok (borrowE_ok Z2_ok (callable Tryz.func11 (by kernel_rfl)))
end Go.Proofs.YtgchabldcnmccacGreatDoor

