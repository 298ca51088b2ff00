import Derived.Test.YtgchabldcnmccacGreatDoorWI

set_option linter.unusedSimpArgs false
set_option linter.unusedVariables false

namespace Go.Proofs.YtgchabldcnmccacGreatDoor
open Go.Zz
set_option maxRecDepth 100000
set_option maxHeartbeats 8000000
theorem ex191 {T : List AV} (h : T.length = 191) : ∃ f : Nat → AV, T = [f 0, f 1, f 2, f 3, f 4, f 5, f 6, f 7, f 8, f 9, f 10, f 11, f 12, f 13, f 14, f 15, f 16, f 17, f 18, f 19, f 20, f 21, f 22, f 23, f 24, f 25, f 26, f 27, f 28, f 29, f 30, f 31, f 32, f 33, f 34, f 35, f 36, f 37, f 38, f 39, f 40, f 41, f 42, f 43, f 44, f 45, f 46, f 47, f 48, f 49, f 50, f 51, f 52, f 53, f 54, f 55, f 56, f 57, f 58, f 59, f 60, f 61, f 62, f 63, f 64, f 65, f 66, f 67, f 68, f 69, f 70, f 71, f 72, f 73, f 74, f 75, f 76, f 77, f 78, f 79, f 80, f 81, f 82, f 83, f 84, f 85, f 86, f 87, f 88, f 89, f 90, f 91, f 92, f 93, f 94, f 95, f 96, f 97, f 98, f 99, f 100, f 101, f 102, f 103, f 104, f 105, f 106, f 107, f 108, f 109, f 110, f 111, f 112, f 113, f 114, f 115, f 116, f 117, f 118, f 119, f 120, f 121, f 122, f 123, f 124, f 125, f 126, f 127, f 128, f 129, f 130, f 131, f 132, f 133, f 134, f 135, f 136, f 137, f 138, f 139, f 140, f 141, f 142, f 143, f 144, f 145, f 146, f 147, f 148, f 149, f 150, f 151, f 152, f 153, f 154, f 155, f 156, f 157, f 158, f 159, f 160, f 161, f 162, f 163, f 164, f 165, f 166, f 167, f 168, f 169, f 170, f 171, f 172, f 173, f 174, f 175, f 176, f 177, f 178, f 179, f 180, f 181, f 182, f 183, f 184, f 185, f 186, f 187, f 188, f 189, f 190] := ⟨gt T, by have := list_gts T; rw [h] at this; exact this⟩
theorem bnth_mem {bs : List Int} {k : Nat} (h : k < bs.length) : bnth bs k ∈ bs := by
 have : bnth bs k = bs[k] := by simp [bnth, h]
 rw [this]
 exact List.getElem_mem h
theorem take_bnth {bs : List Int} {k : Nat} (h : k < bs.length) : bs.take (k + 1) = bs.take k ++ [bnth bs k] := by
 rw [List.take_succ_eq_append_getElem h]
 simp [bnth, h]
theorem run3 {n : Int} {x s : AV} {ms : List Mv} {ss : List Int} (hx : MvL x ms) (hs : IntS s ss) (hss : ∀ y ∈ ss, I64 y) : WF W0 (.func 3 [] []) [.int .i64 n, x, s] ⟨[], []⟩ fun y m' => y = .bool true := by
 by_cases hg : ms.length ≤ 60 ∧ ss.length ≤ 300
 ·obtain ⟨hg1, hg2⟩ := hg
  have hs5 := fun m : Mem => s5x (n := n) (hx.byVal m.heap) hx (by omega)
  by_cases hr : RunOk n ms
  ·obtain ⟨V, hV⟩ := VoOk.run hr (by omega)
   have hrv : runV n ms = .tuple [rsV (runM n ms), .int .i64 0] := if_pos hr
   obtain ⟨vs, hvs⟩ : ∃ vs, vs = (runM n ms).vos := ⟨_, rfl⟩
   have hvl : vs.length ≤ 60 := by have := run_cost (n := n) (ms := ms); rw [hvs]; omega
   obtain ⟨a1, a2, a3, hrs⟩ : ∃ a1 a2 a3, rsV (runM n ms) = .agg [a1, a2, a3, slV (voF vs) vs.length] := ⟨_, _, _, by unfold rsV; rw [hvs]⟩
   rw [hrv, hrs] at hs5
   rw [← hvs] at hV
   have hw : VoL (slV (voF vs) vs.length) vs := VoL.slV
   have hs6 := fun m : Mem => x6 (n := n) (m := m) (hw.byVal m.heap) hw hV.n8 hV.ok (by omega)
   have hqV : (vs.map mgO).map mgV = vs := mgV_map vs
   obtain ⟨qs, hqs⟩ : ∃ qs, qs = vs.map mgO := ⟨_, rfl⟩
   have hql : qs.length = vs.length := by rw [hqs, List.length_map]
   have hq : ∀ q ∈ qs, MgOk q := fun q hq => by
    rw [hqs] at hq
    obtain ⟨v, hv, rfl⟩ := List.mem_map.1 hq
    obtain ⟨h1, h2, h3⟩ := hV.ok v hv
    exact mgO_ok hV.n8 h1 h2 h3
   rw [← hqs] at hs6 hqV
   have hgl : MgL (slV (msF qs) qs.length) qs := MgL.slV rfl
   have hgs2 := fun i hi => sl10 (ms := qs) (i := i) hi
   have hgp : Zz.pureA (slV (msF qs) qs.length) = true := slV_pure
   have hwl := hw.len
   generalize hwv : slV (voF vs) vs.length = w at *
   rw [← hql] at hs6
   generalize slV (msF qs) qs.length = g at *
   have hn1 := hV.n1
   have hgn := hgl.len
   clear hrv hrs hw hvs hqs hwv hr
   refine WF.fnE rfl (W0_fn Tryz.func3 cir3) (by show 3 ≤ 191; decide) ?_
   unfold ir3; dsimp only [k0, kI, mV, oO, oG]
   simp only [padTo, List.replicate, List.nil_append, List.append_nil]
   repeat' (first | (refine WO.yes rfl ?_) | (refine WO.opE (by intro; simp (disch := omega) only [go_sem, Zz.look, Zz.cut, Nat.reduceAdd]; rfl) (by simp only [pt8, pt0, pt1, pt2, pt3, pt4, pt5, pt6, pt7]; rfl) ?_) | (refine WO.opN (by intro; simp (disch := omega) only [go_sem, ov_all4, Option.bind_eq_bind, Zz.look, Nat.reduceAdd, setBlk, List.set_cons_zero]; rfl) ?_) | (refine WO.opE (by intro; exact ev_lenS (by simp only [go_sem]; first | rfl | assumption)) (by simp only [pt8, pt3]; rfl) ?_) | (refine WO.opE (by intro; exact ev_lenS (by simp only [go_sem]; exact hx.len)) (by simp only [pt8, pt0]; rfl) ?_) | (refine WO.opE (by intro; exact ev_lenS (by simp only [go_sem]; exact hs.len)) (by simp only [pt8, pt4]; rfl) ?_) | (refine WO.specE rfl rfl (s4) (by simp only [pt8, pt6]; rfl) ?_) | (refine WO.specE rfl rfl (hs5 _) (by simp only [pt8, pt3]; rfl) ?_) | (refine WO.specE rfl rfl (hs6 _) (by simp only [pt8, pt2]; rfl) ?_) | (refine WC.seq ?_) | (refine WC.region ?_) | (refine WO.nil ?_) | (simp only [fl1]) | (refine WC.no rfl ?_) | (refine WC.skip ?_) | (refine WC.block ?_) | (refine WO.em2 rfl (by intro hp; simp only [hp, decide_true]; rfl) (by intro hp; simp only [hp, decide_false]; rfl) (fun hp => ?_) (fun hp => ?_) <;> try (exfalso; first | omega | contradiction)) | (refine WC.em2 rfl (fun hp => ?_) (fun hp => ?_) <;> try (exfalso; first | omega | contradiction)))
   refine WC.loopI (fun m st => ∃ T H z i, st = ⟨T, H, []⟩ ∧ T.length = 191 ∧ gt T 0 = .int .i64 n ∧ gt T 2 = s ∧ gt T 7 = .bool true ∧ gt T 10 = g ∧ gt T 12 = z ∧ gt T 13 = .int .i64 (i : Nat) ∧ m + i = qs.length ∧ SlH H z 1 ((encs (qs.take i)).map (.int .i64)) (encs (qs.take i)).length) ?_ qs.length _ ⟨_, _, .snil, 0, rfl, rfl, rfl, rfl, rfl, rfl, rfl, rfl, rfl, SlH.nil⟩
   rintro m _ ⟨T, H, z, i, rfl, hT, g0, g2, g7, g10, g12, g13, hml, hz⟩
   obtain ⟨f, rfl⟩ := ex191 hT
   clear hT
   replace g0 : f 0 = .int .i64 n := g0
   replace g2 : f 2 = s := g2
   replace g7 : f 7 = .bool true := g7
   replace g10 : f 10 = g := g10
   replace g12 : f 12 = z := g12
   replace g13 : f 13 = .int .i64 (i : Nat) := g13
   simp only [g0, g2, g7, g10, g12, g13]
   by_cases hi : i < qs.length
   ·have hat := hgl.at hi
    have hqm := hq _ (gnth_mem hi)
    have htk : encs (qs.take (i + 1)) = encs (qs.take i) ++ enc (gnth qs i) := by
     rw [List.take_succ_eq_append_getElem hi, gnth_eq hi, encs_app]
     simp [encs]
    have hel : (encs (qs.take i)).length ≤ 13 * (qs.take i).length := encs_le fun q h => hq q (List.mem_of_mem_take h)
    rw [List.length_take] at hel
    generalize gnth qs i = q at *
    have hs7 := fun m => x7 hqm (m := m)
    simp only [Mg.cells, Tk.cells] at hs7
    have hfb := ByS.mk (enc q) false
    have hfl := hfb.len
    have hby := enc_byte hqm
    have hen := enc_len hqm
    generalize hfv : AV.sval false (enc q).length (uB (enc q)) = fv at *
    clear hfv
    repeat' (first | (refine WO.opE (by intro; simp (disch := omega) only [go_sem, hat]; rfl) (by simp only [pt8, pt0, pt1, pt2, pt3, pt4, pt5, pt6, pt7]; rfl) ?_) | (refine WO.opE (by intro; exact ev_lenS (by simp only [go_sem]; first | rfl | assumption)) (by simp only [pt8, pt1]; rfl) ?_) | (refine WO.specE rfl rfl (hs7 _) (by simp only [pt8, pt2]; rfl) ?_) | (refine WC.seq ?_) | (refine WC.region ?_) | (refine WO.nil ?_) | (simp only [fl1]) | (refine WC.no rfl ?_) | (refine WC.skip ?_) | (refine WC.block ?_) | (refine WC.em2 rfl (fun hp => ?_) (fun hp => ?_) <;> try (exfalso; first | omega | contradiction)))
    refine WC.loopI (fun m2 st => ∃ T H z k, st = ⟨T, H, []⟩ ∧ T.length = 191 ∧ gt T 0 = .int .i64 n ∧ gt T 2 = s ∧ gt T 7 = .bool true ∧ gt T 10 = g ∧ gt T 12 = z ∧ gt T 13 = .int .i64 (i : Nat) ∧ gt T 14 = fv ∧ gt T 16 = .int .i64 (k : Nat) ∧ m2 + k = (enc q).length ∧ SlH H z 1 ((encs (qs.take i) ++ (enc q).take k).map (.int .i64)) ((encs (qs.take i)).length + k)) ?_ (enc q).length _ ⟨_, H, z, 0, rfl, rfl, rfl, rfl, rfl, rfl, rfl, rfl, rfl, rfl, rfl, by rw [List.take_zero, List.append_nil]; exact hz⟩
    clear hz
    rintro m2 _ ⟨T, H, z, k, rfl, hT, g0, g2, g7, g10, g12, g13, g14, g16, hm2, hz⟩
    obtain ⟨f, rfl⟩ := ex191 hT
    clear hT
    replace g0 : f 0 = .int .i64 n := g0
    replace g2 : f 2 = s := g2
    replace g7 : f 7 = .bool true := g7
    replace g10 : f 10 = g := g10
    replace g12 : f 12 = z := g12
    replace g13 : f 13 = .int .i64 (i : Nat) := g13
    replace g14 : f 14 = fv := g14
    replace g16 : f 16 = .int .i64 (k : Nat) := g16
    simp only [g0, g2, g7, g10, g12, g13, g14, g16]
    by_cases hk : k < (enc q).length
    ·have hat2 := hfb.at hk
     have hbb := hby _ (bnth_mem hk)
     have htb := take_bnth hk
     have hw1 := u8i hbb
     generalize bnth (enc q) k = b at *
     repeat' (first | (refine WO.opE (by intro; simp (disch := omega) only [go_sem, zeros, ov_one0, fillP, Option.bind_eq_bind, hat2, hw1]; rfl) (by simp only [pt8, pt0, pt1, pt2, pt3, pt5, pt6, pt7]; rfl) ?_) | (refine WO.opE (by intro; exact ev_lenS (by simp only [go_sem]; first | rfl | assumption)) (by simp only [pt8, pt1]; rfl) ?_) | (refine WC.seq ?_) | (refine WC.region ?_) | (refine WO.nil ?_) | (simp only [fl1, fl4]) | (refine WC.skip ?_) | (refine WC.block ?_) | (refine WC.em2 rfl (fun hp => ?_) (fun hp => ?_) <;> try (exfalso; first | omega | contradiction)))
     refine WO_appendSl (k := 1) (c := [.int .i64 b]) rfl rfl hz.more (by decide) (lk0 rfl) rfl (by omega) fun z' H' hz' _ _ => ?_
     have hmm : ((encs (qs.take i) ++ (enc q).take k).map (AV.int .i64)) ++ [.int .i64 b] = (encs (qs.take i) ++ (enc q).take (k + 1)).map (AV.int .i64) := by rw [ints_app, htb, List.append_assoc]
     rw [hmm] at hz'
     simp only [pt8, pt4]
     repeat' (first | (refine WO.opE (by intro; simp (disch := omega) only [go_sem]; rfl) (by simp only [pt8, pt0, pt3, pt4]; rfl) ?_) | (refine WC.region ?_) | (refine WO.nil ?_) | (simp only [fl10]))
     exact ⟨m2 - 1, by omega, _, H', z', k + 1, rfl, rfl, rfl, rfl, rfl, rfl, rfl, rfl, rfl, rfl, by omega, hz'⟩
    ·
     repeat' (first | (refine WO.opE (by intro; simp (disch := omega) only [go_sem]; rfl) (by simp only [pt8, pt0, pt2, pt3, pt4, pt5, pt7]; rfl) ?_) | (refine WO.opE (by intro; exact ev_lenS (by simp only [go_sem]; first | rfl | assumption)) (by simp only [pt8, pt1]; rfl) ?_) | (refine WC.seq ?_) | (refine WC.region ?_) | (refine WO.nil ?_) | (simp only [fl1, fl10]) | (refine WC.exit ?_) | (refine WC.em2 rfl (fun hp => ?_) (fun hp => ?_) <;> try (exfalso; first | omega | contradiction)))
     have hke : k = (enc q).length := by omega
     subst hke
     rw [List.take_length, ← htk] at hz
     have hee : (encs (qs.take i)).length + (enc q).length = (encs (qs.take (i + 1))).length := by rw [htk, List.length_append]
     rw [hee] at hz
     exact ⟨m - 1, by omega, _, H, z, i + 1, rfl, rfl, rfl, rfl, rfl, rfl, rfl, rfl, by omega, hz⟩
   ·
    repeat' (first | (refine WO.opE (by intro; simp (disch := omega) only [go_sem]; rfl) (by simp only [pt8, pt0, pt2, pt6, pt7]; rfl) ?_) | (refine WO.opE (by intro; exact ev_lenS (by simp only [go_sem]; first | rfl | assumption)) (by simp only [pt8, pt1]; rfl) ?_) | (refine WC.seq ?_) | (refine WC.region ?_) | (refine WO.nil ?_) | (simp only [fl1]) | (refine WC.exit ?_) | (refine WC.em2 rfl (fun hp => ?_) (fun hp => ?_) <;> try (exfalso; first | omega | contradiction)))
    have hie : i = qs.length := by omega
    subst hie
    rw [List.take_length] at hz
    have hbl := encs_le hq
    have hbo := encs_byte hq
    obtain ⟨bs, hbs⟩ : ∃ bs, bs = encs qs := ⟨_, rfl⟩
    rw [← hbs] at hz hbl hbo
    have hso : ∀ id g o k n c, s = .sref id g o k n c → id < H.length := fun id g o k n c e => by
     rw [e] at hs
     rcases hs with ⟨h, _⟩ | ⟨f, h⟩ <;> cases h
    have h8 := Ln.run_any (Sx := Z7.spec) (L := []) hz.bds ((show Ln.IntS s ss from hs).rd H) hso hss
    refine WO.call rfl rfl (h8.mono ?_)
    clear h8 hso
    rintro y ⟨H', L'⟩ ⟨hL, hsame, q', g', hq', hg', rfl⟩
    simp only at hL
    subst hL
    simp only [pt8, pt0]
    have hqc : q'.cells = some [q'] := IntS.cells hq'
    have hgc : g'.cells = some [g'] := IntS.cells hg'
    unfold AV.cells at hqc hgc
    by_cases hok : Ln.runOk bs ss
    ·have he0 : Ln.runE bs ss = 0 := if_pos hok
     have ha : Ln.runA bs ss = Ln.runM bs (ss.map Int.toNat) := if_pos hok
     obtain ⟨k, hk⟩ := got_pre (bs := bs) (ss := ss.map Int.toNat) (by omega)
     rw [ha, hk] at hg'
     rw [he0]
     generalize (Ln.runA bs ss).seq = sq at *
     repeat' (first | (refine WO.opE (by intro; simp (disch := omega) only [go_sem, List.length_append, List.append_assoc]; rfl) (by simp only [pt8, pt1, pt2, pt3, pt4, pt5]; rfl) ?_) | (refine WO.opN (by intro; simp (disch := omega) only [go_sem, ov_one0, ov_all2, Option.bind_eq_bind, Nat.reduceAdd, lk0, lk1, st0, st1, setBlk]; rfl) ?_) | (refine WC.seq ?_) | (refine WC.region ?_) | (refine WO.nil ?_) | (simp only [fl1]) | (refine WC.no rfl ?_) | (refine WC.skip ?_) | (refine WC.block ?_))
     have hls : ∀ j, j ∈ bs.take k → 0 ≤ j ∧ j < 256 := fun j hj => hbo j (List.mem_of_mem_take hj)
     obtain ⟨gs, hgs⟩ : ∃ gs, gs = bs.take k := ⟨_, rfl⟩
     have hgl2 : gs.length ≤ bs.length := by rw [hgs, List.length_take]; omega
     rw [← hgs] at hg' hls
     have hgg := IntS.len hg'
     refine WC.loopI (fun m st => ∃ T H z i, st = ⟨T, H, []⟩ ∧ T.length = 191 ∧ gt T 0 = .int .i64 n ∧ gt T 2 = s ∧ gt T 7 = .bool true ∧ gt T 10 = g ∧ gt T 18 = .pref (H'.length + 1) 0 0 ∧ gt T 20 = z ∧ gt T 21 = .int .i64 (i : Nat) ∧ m + i = gs.length ∧ Zz.look H (H'.length + 1) 0 = some [g'] ∧ ¬ inB z (H'.length + 1) ∧ SlH H z 1 (uB (gs.take i)) i) ?_ gs.length _ ⟨_, _, .snil, 0, rfl, rfl, rfl, rfl, rfl, rfl, rfl, rfl, rfl, by omega, lk1 rfl, fun h => h, SlH.nil⟩
     clear hz hsame
     rintro m _ ⟨T, H, z, i, rfl, hT, g0, g2, g7, g10, g18, g20, g21, hml, hH, hnz, hz⟩
     obtain ⟨f, rfl⟩ := ex191 hT
     clear hT
     replace g0 : f 0 = .int .i64 n := g0
     replace g2 : f 2 = s := g2
     replace g7 : f 7 = .bool true := g7
     replace g10 : f 10 = g := g10
     replace g18 : f 18 = .pref (H'.length + 1) 0 0 := g18
     replace g20 : f 20 = z := g20
     replace g21 : f 21 = .int .i64 (i : Nat) := g21
     simp only [g0, g2, g7, g10, g18, g20, g21]
     have hH2 : ∀ R, Zz.look (H ++ R) (H'.length + 1) 0 = some [g'] := fun R => look_appR hH
     have hHl := look_ltR hH
     by_cases hi : i < gs.length
     ·have hat := Zz.IntS.at hg' hi
      have hbb := hls _ (List.getElem_mem hi)
      have htb : uB (gs.take i) ++ [.int .u8 gs[i]] = uB (gs.take (i + 1)) := by rw [uB_app1, List.take_succ_eq_append_getElem hi]
      have hw1 := u8w hbb
      generalize gs[i] = b at *
      repeat' (first | (refine WO.opE (by intro; simp (disch := omega) only [go_sem, zeros, ov_one0, fillP, Option.bind_eq_bind, hat, hw1, hH]; rfl) (by simp only [pt8, pt0, pt1, pt2, pt3, pt4, pt5, pt6, pt7]; rfl) ?_) | (refine WO.opE (by intro; exact ev_lenS (by simp only [go_sem]; first | rfl | assumption)) (by simp only [pt8, pt6]; rfl) ?_) | (refine WC.seq ?_) | (refine WC.region ?_) | (refine WO.nil ?_) | (simp only [fl1, fl4]) | (refine WC.skip ?_) | (refine WC.block ?_) | (refine WC.em2 rfl (fun hp => ?_) (fun hp => ?_) <;> try (exfalso; first | omega | contradiction)))
      refine WO_appendSl (k := 1) (c := [.int .u8 b]) rfl rfl hz.more (by decide) (lk0 rfl) rfl (by omega) fun z' H2 hz' hk1 hk2 => ?_
      rw [htb] at hz'
      simp only [pt8, pt2]
      repeat' (first | (refine WO.opE (by intro; simp (disch := omega) only [go_sem]; rfl) (by simp only [pt8, pt0, pt1, pt4, pt5]; rfl) ?_) | (refine WC.region ?_) | (refine WO.nil ?_) | (simp only [fl10]))
      refine ⟨m - 1, by omega, _, H2, z', i + 1, rfl, rfl, rfl, rfl, rfl, rfl, rfl, rfl, rfl, by omega, ?_, ?_, hz'⟩
      ·rw [look_of_get (hk1 _ hnz (by rw [List.length_append]; omega))]
       exact hH2 _
      ·intro hj
       rcases hk2 _ hj with hj | hj
       ·exact hnz hj
       ·rw [List.length_append, List.length_singleton] at hj
        omega
     ·have hie : i = gs.length := by omega
      subst hie
      rw [List.take_length] at hz
      obtain ⟨xv, hxv, hby⟩ := byS_of hz rfl
      obtain ⟨i, tail, hi2, htk, hsh⟩ := encs_take hq k
      rw [← hbs, ← hgs] at htk
      have hil : (qs.take i).length = i := by rw [List.length_take]; omega
      have hqi : ∀ q ∈ qs.take i, MgOk q := fun q h => hq q (List.mem_of_mem_take h)
      have hgsl : gs.length = (encs (qs.take i)).length + tail.length := by rw [htk, List.length_append]
      rw [htk] at hby
      have hs9 := x9 (m := ⟨H, []⟩) hqi hsh hxv hby (by rw [List.length_append]; omega)
      have hhl := MgL.slV (ms := qs.take i) rfl
      have hhp := slV_pure (ms := qs.take i) (k := (qs.take i).length)
      rw [hil] at hs9 hhl hhp
      have hhn := hhl.len
      rw [hil] at hhn
      generalize slV (msF (qs.take i)) i = hv at *
      obtain ⟨y, hsl, hyl, hyp⟩ := hgs2 i hi2
      have hs10 := fun m => t10 (m := m) hhl hyl (by omega) hhp hyp
      have hVq : VoOk n (qs.map mgV) V := by rw [hqV]; exact hV
      have hsub : ∀ v ∈ vs.take i, v ∈ vs := fun v h => List.mem_of_mem_take h
      have hmt : (qs.take i).map mgV = vs.take i := by rw [List.map_take, hqV]
      have hVi : VoOk n ((qs.take i).map mgV) V := by
       rw [hmt]
       exact hV.sub hsub (by rw [List.length_take]; omega)
      have hs11 := fun m => t11 (m := m) (z := .snil) hgl hVq hgp
      have hs11b := fun m => t11 (m := m) (z := .snil) hhl hVi hhp
      rw [hqV] at hs11
      rw [hmt] at hs11b
      have hs12 := fun m => t12 (m := m) hn1 hV.V hsub
      have hs13 := fun m => t13 (m := m) (n := n) (vs := vs) (V := V)
      have hzl := hz.slen
      generalize lgV (logL n vs V) = la at *
      generalize lgV (logL n (vs.take i) V) = lb at *
      generalize (encs (qs.take i)).length = ue at *
      generalize gs.length = gl at *
      repeat' (first | (refine WO.opE (by intro; exact (by rw [ev_slice]; exact congrArg (Option.map _) (hsl _))) (by simp only [pt8, pt1]; rfl) ?_) | (refine WO.yes rfl ?_) | (refine WO.opE (by intro; simp (disch := omega) only [go_sem, hH]; rfl) (by simp only [pt8, pt0, pt1, pt2, pt3, pt4, pt5, pt6, pt7]; rfl) ?_) | (refine WO.opE (by intro; exact ev_lenS (by simp only [go_sem]; first | rfl | assumption)) (by simp only [pt8, pt0, pt1, pt2, pt6, pt7]; rfl) ?_) | (refine WO.specE rfl rfl (hs9) (by simp only [pt8, pt5]; rfl) ?_) | (refine WO.specE rfl rfl (hs10 _) (by simp only [pt8, pt2]; rfl) ?_) | (refine WO.specE rfl rfl (hs11 _) (by simp only [pt8, pt0]; rfl) ?_) | (refine WO.specE rfl rfl (hs11b _) (by simp only [pt8, pt6]; rfl) ?_) | (refine WO.specE rfl rfl (hs12 _) (by simp only [pt8, pt2]; rfl) ?_) | (refine WO.specE rfl rfl (hs13 _) (by simp only [pt8, pt5]; rfl) ?_) | (refine WC.seq ?_) | (refine WC.region ?_) | (refine WO.nil ?_) | (simp only [fl1]) | (refine WC.no rfl ?_) | (refine WC.skip ?_) | (refine WC.exit ?_) | (refine WC.ret ?_) | (refine WO.em2 rfl (by intro hp; simp only [hp, decide_true]; rfl) (by intro hp; simp only [hp, decide_false]; rfl) (fun hp => ?_) (fun hp => ?_) <;> try (exfalso; first | omega | contradiction)) | (refine WC.em2 rfl (fun hp => ?_) (fun hp => ?_) <;> try (exfalso; first | omega | contradiction)))
      exact ⟨_, rfl, rfl⟩
    ·have he1 : Ln.runE bs ss = 1 := if_neg hok
     rw [he1]
     generalize (Ln.runA bs ss).seq = sq at *
     repeat' (first | (refine WO.yes rfl ?_) | (refine WO.opE (by intro; simp (disch := omega) only [go_sem, List.length_append, List.append_assoc]; rfl) (by simp only [pt8, pt0, pt1, pt2, pt3, pt4, pt5, pt6, pt7]; rfl) ?_) | (refine WO.opN (by intro; simp (disch := omega) only [go_sem, ov_one0, ov_all2, Option.bind_eq_bind, Nat.reduceAdd, lk0, lk1, st0, st1, setBlk]; rfl) ?_) | (refine WC.seq ?_) | (refine WC.region ?_) | (refine WO.nil ?_) | (simp only [fl1, fl2]) | (refine WC.yes rfl ?_) | (refine WC.ret ?_))
     exact ⟨_, rfl, rfl⟩
  ·have hrv : runV n ms = .tuple [.agg [.snil, .snil, .snil, .snil], .int .i64 1] := if_neg hr
   rw [hrv] at hs5
   refine WF.fnE rfl (W0_fn Tryz.func3 cir3) (by show 3 ≤ 191; decide) ?_
   unfold ir3; dsimp only [k0, kI, mV, oO, oG]
   simp only [padTo, List.replicate, List.nil_append, List.append_nil]
   repeat' (first | (refine WO.yes rfl ?_) | (refine WO.noE rfl (by simp only [pt8, pt1, pt2, pt3, pt4]; rfl) ?_) | (refine WO.opE (by intro; simp (disch := omega) only [go_sem]; rfl) (by simp only [pt8, pt0, pt1, pt2, pt3, pt4, pt5, pt6, pt7]; rfl) ?_) | (refine WO.opN (by intro; simp (disch := omega) only [go_sem, ov_all4, Option.bind_eq_bind, Zz.look, Nat.reduceAdd, setBlk, List.set_cons_zero]; rfl) ?_) | (refine WO.opE (by intro; exact ev_lenS (by simp only [go_sem]; exact hx.len)) (by simp only [pt8, pt0]; rfl) ?_) | (refine WO.opE (by intro; exact ev_lenS (by simp only [go_sem]; exact hs.len)) (by simp only [pt8, pt4]; rfl) ?_) | (refine WO.specE rfl rfl (s4) (by simp only [pt8, pt6]; rfl) ?_) | (refine WO.specE rfl rfl (hs5 _) (by simp only [pt8, pt3]; rfl) ?_) | (refine WC.seq ?_) | (refine WC.region ?_) | (refine WO.nil ?_) | (simp only [fl1, fl2]) | (refine WC.yes rfl ?_) | (refine WC.skip ?_) | (refine WC.ret ?_) | (refine WO.em2 rfl (by intro hp; simp only [hp, decide_true]; rfl) (by intro hp; simp only [hp, decide_false]; rfl) (fun hp => ?_) (fun hp => ?_) <;> try (exfalso; first | omega | contradiction)) | (refine WC.em2 rfl (fun hp => ?_) (fun hp => ?_) <;> try (exfalso; first | omega | contradiction)))
   all_goals exact ⟨_, rfl, rfl⟩
 ·
  refine WF.fnE rfl (W0_fn Tryz.func3 cir3) (by show 3 ≤ 191; decide) ?_
  unfold ir3; dsimp only [k0, kI, mV, oO, oG]
  simp only [padTo, List.replicate, List.nil_append, List.append_nil]
  repeat' (first | (refine WO.yes rfl ?_) | (refine WO.noE rfl (by simp only [pt8, pt3, pt4, pt5]; rfl) ?_) | (refine WO.opE (by intro; simp (disch := omega) only [go_sem]; rfl) (by simp only [pt8, pt1, pt2, pt3, pt5, pt6, pt7]; rfl) ?_) | (refine WO.opE (by intro; exact ev_lenS (by simp only [go_sem]; exact hx.len)) (by simp only [pt8, pt0]; rfl) ?_) | (refine WO.opE (by intro; exact ev_lenS (by simp only [go_sem]; exact hs.len)) (by simp only [pt8, pt4]; rfl) ?_) | (refine WO.specE rfl rfl (s4) (by simp only [pt8, pt6]; rfl) ?_) | (refine WC.seq ?_) | (refine WC.region ?_) | (refine WO.nil ?_) | (simp only [fl1, fl2]) | (refine WC.yes rfl ?_) | (refine WC.ret ?_) | (refine WO.em2 rfl (by intro hp; simp only [hp, decide_true]; rfl) (by intro hp; simp only [hp, decide_false]; rfl) (fun hp => ?_) (fun hp => ?_) <;> try (exfalso; first | omega | contradiction)) | (refine WC.em2 rfl (fun hp => ?_) (fun hp => ?_) <;> try (exfalso; first | omega | contradiction)))
  all_goals first | (exfalso; omega) | exact ⟨_, rfl, rfl⟩
end Go.Proofs.YtgchabldcnmccacGreatDoor

