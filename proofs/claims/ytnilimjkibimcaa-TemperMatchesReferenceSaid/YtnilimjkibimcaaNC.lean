import Derived.Test.YtnilimjkibimcaaNe

set_option linter.unusedSimpArgs false
set_option linter.unusedVariables false

namespace Go.Proofs.Ytnilimjkibimcaa
open Go.Zz
set_option maxRecDepth 100000
set_option maxHeartbeats 8000000
theorem LatM.qlt {G : Hp} {rv : AV} {q : Nat} {xs : List AV} {bs : List Nat} {R : List (List Int)} (h : LatM G rv q xs bs R) (hR : 0 < R.length) : q < G.length := by
 have hxl := h.xl
 rcases h.gs with ⟨_, h⟩ | ⟨g, _, h, _⟩ | ⟨g, n, _, _, _, h1⟩
 ·subst h; simp at hxl; omega
 ·subst h; simp at hxl; omega
 ·exact look_lt h1
theorem LatM.push2 {G : Hp} {L : List (Option ALoop)} {rv x : AV} {q b : Nat} {xs : List AV} {bs : List Nat} {R : List (List Int)} {r : List Int} (h : LatM G rv q xs bs R) (hq : rv = .snil ∨ q < G.length ∧ b ≠ q) (hbb : b ∉ bs) (hx : RowM G x b r) (hR : R.length < 1000000) :
  ∃ rv' q' H', appendAV 1 24 ⟨G ++ [some ⟨0, [x]⟩], L⟩ rv (.sref G.length 0 0 1 1 (some 1)) = some (rv', ⟨H', L⟩) ∧ LatM H' rv' q' (xs ++ [x]) (bs ++ [b]) (R ++ [r]) ∧ (q' = q ∧ q < G.length ∧ rv ≠ .snil ∨ q' = G.length + 1) ∧ G.length + 1 ≤ H'.length ∧ ∀ j, j < G.length → (rv = .snil ∨ j ≠ q) → H'[j]? = G[j]? := by
 have hbl := hx.lt
 obtain ⟨q0, h0, hb0, hq0⟩ : ∃ q0, LatM G rv q0 xs bs R ∧ b ≠ q0 ∧ (q0 = q ∧ q < G.length ∧ rv ≠ .snil ∨ q0 = G.length + 1 ∧ rv = .snil) := by
  by_cases hn : rv = .snil
  ·have hxs : xs = [] := by
    rcases h.gs with ⟨_, h⟩ | ⟨g, h1, _⟩ | ⟨g, n, h1, _⟩
    ·exact h
    ·rw [h1] at hn; cases hn
    ·rw [h1] at hn; cases hn
   have h1 := h.xl
   have h2 := h.bl
   rw [hxs] at h1
   have hR : R = [] := List.length_eq_zero_iff.1 (by simpa using h1.symm)
   rw [hR] at h2
   have hb : bs = [] := List.length_eq_zero_iff.1 (by simpa using h2)
   rw [hxs, hR, hb, hn]
   exact ⟨G.length + 1, LatM.nil _ _, by omega, .inr ⟨rfl, rfl⟩⟩
  ·rcases hq with hq | hq
   ·exact absurd hq hn
   ·exact ⟨q, h, hq.2, .inl ⟨rfl, hq.1, hn⟩⟩
 have hxl := h0.xl
 obtain ⟨rv', q', H', a1, a2, a3, a4, a5⟩ := (h0.gs.more [some ⟨0, [x]⟩]).append (L := L) (bytes := 24) (n := 1) (cap := some 1) (id := G.length) (lk0 rfl) rfl Nat.one_pos Nat.one_pos ⟨by rw [Nat.div_one]; omega, by rw [Nat.div_one]; omega⟩
 rw [List.length_append, List.length_singleton] at a3 a4
 have hsame : ∀ j, j < G.length → j ≠ q0 → H'[j]? = G[j]? := fun j hj hne => by
  rw [a5 j (by simp; omega) hne, List.getElem?_append_left hj]
 have hqbs := List.nodup_cons.1 h0.nd
 refine ⟨rv', q', H', a1, ⟨a2, by simp [hxl], by simp [h0.bl], ?_, fun i hi => ?_⟩, ?_, a4, fun j hj hjq => hsame j hj ?_⟩
 ·rw [List.nodup_cons]
  refine ⟨fun hm => ?_, ?_⟩
  ·rcases List.mem_append.1 hm with hm | hm
   ·have := h0.blt hm
    rcases a3 with rfl | rfl
    ·exact hqbs.1 hm
    ·omega
   ·simp only [List.mem_singleton] at hm
    omega
  ·rw [List.nodup_append]
   refine ⟨hqbs.2, by simp, fun a ha c hc => ?_⟩
   simp only [List.mem_singleton] at hc
   subst hc
   exact fun e => hbb (e ▸ ha)
 ·have hbl' := h0.bl
  by_cases hi' : i < R.length
  ·have hrow := h0.row i hi'
   have hmem : bs.getD i 0 ∈ bs := by
    rw [List.getD_eq_getElem?_getD, List.getElem?_eq_getElem (by omega), Option.getD_some]
    exact List.getElem_mem _
   have hlt := hrow.lt
   have hne : bs.getD i 0 ≠ q0 := fun e => hqbs.1 (e ▸ hmem)
   have e1 : (xs ++ [x]).getD i und = xs.getD i und := by simp [List.getD_eq_getElem?_getD, List.getElem?_append_left (show i < xs.length by omega)]
   have e2 : (bs ++ [b]).getD i 0 = bs.getD i 0 := by simp [List.getD_eq_getElem?_getD, List.getElem?_append_left (show i < bs.length by omega)]
   have e3 : (R ++ [r]).getD i [] = R.getD i [] := by simp [List.getD_eq_getElem?_getD, List.getElem?_append_left hi']
   rw [e1, e2, e3]
   exact hrow.same (hsame _ (by omega) hne)
  ·have hie : i = R.length := by simp at hi; omega
   have e1 : (xs ++ [x]).getD i und = x := by simp [List.getD_eq_getElem?_getD, hie, hxl]
   have e2 : (bs ++ [b]).getD i 0 = b := by simp [List.getD_eq_getElem?_getD, hie, hbl']
   have e3 : (R ++ [r]).getD i [] = r := by simp [List.getD_eq_getElem?_getD, hie]
   rw [e1, e2, e3]
   exact hx.same (hsame b hbl hb0)
 ·rcases a3 with rfl | rfl
  ·rcases hq0 with ⟨rfl, h⟩ | ⟨rfl, _⟩
   ·exact .inl ⟨rfl, h⟩
   ·exact .inr rfl
  ·exact .inr rfl
 ·rcases hq0 with ⟨rfl, h1, h2⟩ | ⟨rfl, _⟩
  ·rcases hjq with h | h
   ·exact absurd h h2
   ·exact h
  ·omega
theorem f101 {E : Env} (hE : E.spec 101 = none) (hF : E.fn 101 = some ir101) (h90 : E.spec 90 = none) (g90 : E.fn 90 = some ir90) (h91 : E.spec 91 = some (borrowQ E9 91)) (h92 : E.spec 92 = none) (g92 : E.fn 92 = some ir92) (h133 : E.spec 133 = some (borrowE E15 133)) (h93 : E.spec 93 = none) (g93 : E.fn 93 = some ir93) {H : Hp} {L : List (Option ALoop)} {rv cv : AV} {q bc : Nat} {xs : List AV} {bs : List Nat} {X : List (List Int)} {c : List Int} {d : Int} {s : Nat} (hs6 : s ≤ 6) (hd : 0 < d) (hd9 : d ≤ 1000000000) (hlat : LatM H rv q xs bs X) (hX : LB X s d) (hqH : q < H.length) (hc : IM H cv bc c) (hcl : c.length = s) (hcb : ∀ k, k < s → -1000000000 ≤ c.getD k 0 ∧ c.getD k 0 ≤ 1000000000) (hbc : bc < H.length) :
  WF E (.func 101 [] []) [rv, cv, .int .i64 d] ⟨H, L⟩ fun y m' => ∃ rv' q' xs' bs' H', y = rv' ∧ m' = ⟨H', L⟩ ∧ LatM H' rv' q' xs' bs' (behind (divW X c d s)) ∧ Ext H H' ∧ (∀ b ∈ bs', H.length ≤ b) ∧ q' < H'.length := by
 have hXl := hX.len
 have hcv := hc.len
 rw [hcl] at hcv
 have hs1 : (s : Int) + 1 = ((s + 1 : Nat) : Int) := by omega
 refine WF.fnE hE hF (by show 3 ≤ 77; decide) ?_
 unfold ir101; dsimp only [k0, kI, mV, oO, oG]
 simp only [padTo, List.replicate, List.nil_append, List.append_nil]
 repeat' (first | (refine WO.opE (by intro; simp (disch := omega) only [go_sem, hs1]; rfl) (by simp only [pt8, pt0, pt1, pt2, pt6, pt7]; rfl) ?_) | (refine WO.opE (by intro; exact ev_lenS (by simp only [go_sem]; first | rfl | assumption)) (by simp only [pt8, pt7]; rfl) ?_) | (refine WC.seq ?_) | (refine WC.region ?_) | (refine WO.nil ?_) | (simp only [fl1]))
 refine WO.call rfl rfl ((f90 (E := E) h90 g90 (n := s + 1) (d := d) (by omega)).mono ?_)
 rintro rvw m' ⟨_, qw, xsw, bsw, H1, rfl, rfl, hlw, hext, hbw, hqw⟩
 have hqwl := hlw.qlt (by simp [multF])
 simp only [pt8, pt3]
 repeat' (first | (refine WO.opE (by intro; simp (disch := omega) only [go_sem]; rfl) (by simp only [pt8, pt0, pt1]; rfl) ?_) | (refine WC.seq ?_) | (refine WC.region ?_) | (refine WO.nil ?_) | (simp only [fl1]) | (refine WC.block ?_))
 have hbwl : ∀ b ∈ bsw, H.length ≤ b ∧ b < H1.length := fun b hb => ⟨hbw b hb, hlw.blt hb⟩
 refine WC.loopI (fun m st => ∃ T G i, st = ⟨T, G, L⟩ ∧ T.length = 77 ∧ gt T 0 = rv ∧ gt T 1 = cv ∧ gt T 2 = .int .i64 d ∧ gt T 7 = .int .i64 (s : Nat) ∧ gt T 8 = rvw ∧ gt T 9 = .int .i64 (i : Nat) ∧ m + i = s ∧ Ext H G ∧ H1.length ≤ G.length ∧ LatM G rvw qw xsw bsw (divA X c d s i)) ?_ s _ ⟨_, _, 0, rfl, rfl, rfl, rfl, rfl, rfl, rfl, rfl, by omega, hext, Nat.le_refl _, hlw⟩
 clear hlw hbw
 rintro m _ ⟨T, G, i, rfl, hT, g0, g1, g2, g7, g8, g9, hm, hE, hGl, hlw⟩
 obtain ⟨f, rfl⟩ := ex77 hT
 clear hT
 replace g0 : f 0 = rv := g0
 replace g1 : f 1 = cv := g1
 replace g2 : f 2 = .int .i64 d := g2
 replace g7 : f 7 = .int .i64 (s : Nat) := g7
 replace g8 : f 8 = rvw := g8
 replace g9 : f 9 = .int .i64 (i : Nat) := g9
 simp only [g0, g1, g2, g7, g8, g9]
 have hlb := divA_LB (c := c) hd hX (show i ≤ s by omega)
 have hlatG := hlat.keep (hE.2 q hqH) fun b hb => hE.2 b (hlat.blt hb)
 have hcG := hc.same (hE.2 bc hbc)
 by_cases his : i < s
 ·obtain ⟨gi, ai1, ai2, ai3, hRi⟩ := hlatG.at (i := i) (by omega)
  have hxc := hRi.cell
  unfold AV.cells at hxc
  have hil := hX.row i his
  generalize hxe : xs.getD i und = x at *
  repeat' (first | (refine WO.opE (by intro; simp (disch := omega) only [go_sem]; rfl) (by simp only [pt8, pt2, pt3, pt4, pt5, pt6]; rfl) ?_) | (refine WC.seq ?_) | (refine WC.region ?_) | (refine WO.nil ?_) | (simp only [fl1]) | (refine WC.skip ?_) | (refine WC.block ?_) | (refine WC.em2 rfl (fun hp => ?_) (fun hp => ?_) <;> try (exfalso; first | omega | contradiction)))
  refine WC.loopI (fun m2 st => ∃ T k, st = ⟨T, G, L⟩ ∧ T.length = 77 ∧ gt T 0 = rv ∧ gt T 1 = cv ∧ gt T 2 = .int .i64 d ∧ gt T 7 = .int .i64 (s : Nat) ∧ gt T 8 = rvw ∧ gt T 9 = .int .i64 (i : Nat) ∧ gt T 10 = .int .i64 (sumN c (X.getD i []) d k) ∧ gt T 11 = .int .i64 (k : Nat) ∧ m2 + k = s) ?_ s _ ⟨_, 0, rfl, rfl, rfl, rfl, rfl, rfl, rfl, rfl, rfl, rfl, by omega⟩
  clear g0 g1 g2 g7 g8 g9 f
  rintro m2 _ ⟨T, k, rfl, hT, g0, g1, g2, g7, g8, g9, g10, g11, hm2⟩
  obtain ⟨f, rfl⟩ := ex77 hT
  clear hT
  replace g0 : f 0 = rv := g0
  replace g1 : f 1 = cv := g1
  replace g2 : f 2 = .int .i64 d := g2
  replace g7 : f 7 = .int .i64 (s : Nat) := g7
  replace g8 : f 8 = rvw := g8
  replace g9 : f 9 = .int .i64 (i : Nat) := g9
  replace g10 : f 10 = .int .i64 (sumN c (X.getD i []) d k) := g10
  replace g11 : f 11 = .int .i64 (k : Nat) := g11
  simp only [g0, g1, g2, g7, g8, g9, g10, g11]
  have hsk := sumN_in (c := c) (x := X.getD i []) hd k
  by_cases hk : k < s
  ·obtain ⟨g1', o1, c1, b1, b2, b3, _⟩ := hRi.at (i := k) (by omega)
   obtain ⟨g2', o2, c2, d1, d2, d3, _⟩ := (hcG.row (by omega)).at (i := k) (by omega)
   have hck := hcb k hk
   have hxk := hX.el i k his hk
   have e : ent X i k = (X.getD i []).getD k 0 := rfl
   rw [e] at hxk
   have hz1 := emod_in (x := c.getD k 0) hd
   have hz2 := emod_in (x := (X.getD i []).getD k 0) hd
   have hmul := mul_bd (X := c.getD k 0 % d) (x := (X.getD i []).getD k 0 % d) (by omega) (by omega)
   have c1s := fun m => s91 (m := m) (d := d) (x := c.getD k 0) hd (by omega) ⟨by omega, by omega⟩
   have c2s := fun m => s91 (m := m) (d := d) (x := (X.getD i []).getD k 0) hd (by omega) ⟨by omega, by omega⟩
   have c3s := fun m => s91 (m := m) (d := d) (x := sumN c (X.getD i []) d k + c.getD k 0 % d * ((X.getD i []).getD k 0 % d)) hd (by omega) ⟨by omega, by omega⟩
   have hsu : (sumN c (X.getD i []) d k + c.getD k 0 % d * ((X.getD i []).getD k 0 % d)) % d = sumN c (X.getD i []) d (k + 1) := rfl
   rw [hsu] at c3s
   repeat' (first | (refine WO.opE (by intro; simp (disch := omega) only [go_sem]; rfl) (by simp only [pt8, pt1, pt2, pt3, pt4, pt5]; rfl) ?_) | (refine WT.spec rfl h91 (fun V => c1s _) (by simp only [pt8, pt4]; rfl) ?_) | (refine WT.spec rfl h91 (fun V => c2s _) (by simp only [pt8, pt5]; rfl) ?_) | (refine WT.spec rfl h91 (fun V => c3s _) (by simp only [pt8, pt1]; rfl) ?_) | (refine WC.seq ?_) | (refine WC.region ?_) | (refine WO.nil ?_) | (simp only [fl1, fl4, fl10]) | (refine WC.drawT ?_) | (refine WT.nil ?_) | (refine WT.free rfl (by intro; simp (disch := omega) only [go_sem, ai1, ai2, ai3, b1, b2, b3, d1, d2, d3]; rfl) rfl (by simp only [pt8, pt0, pt1, pt2, pt3, pt4, pt5, pt6, pt7]; rfl) ?_) | (refine WT.big rfl rfl (by intro; simp (disch := omega) only [go_sem, ai2, ai3, b2, b3, d2, d3]; rfl) (by simp (disch := omega) only [go_sem, touch]; rfl) (by first | exact .inl rfl | exact .inr (apart_nil _) | exact .inr trivial | (right; apply apart_mk; simp only [apartL, List.nil_append, List.cons_append, List.getElem?_cons_succ, List.getElem?_cons_zero, Tch.free, and_true, true_and]; first | done | omega)) (by simp only [pt8, pt0, pt2, pt3]; rfl) ?_) | (refine WC.skip ?_) | (refine WC.block ?_) | (refine WC.em2 rfl (fun hp => ?_) (fun hp => ?_) <;> try (exfalso; first | omega | contradiction)))
   exact ⟨m2 - 1, by omega, _, k + 1, rfl, rfl, rfl, rfl, rfl, rfl, rfl, rfl, rfl, rfl, by omega⟩
  ·have hke : k = s := by omega
   subst hke
   have hap := consRow (L := L) (y := sumN c (X.getD i []) d k) hRi (by omega) (by omega)
   rw [hil] at hap
   have hrow : RowM (G ++ [some ⟨0, [.int .i64 (sumN c (X.getD i []) d k)]⟩, some ⟨0, icells (narV X c d k i)⟩]) (.sref (G.length + 1) 0 0 1 (k + 1) none) (G.length + 1) (narV X c d k i) := by
    have := consRowM (G := G) (r := X.getD i []) (y := sumN c (X.getD i []) d k)
    rw [hil] at this
    exact this
   have hv : icells (sumN c (X.getD i []) d k :: X.getD i []) = icells (narV X c d k i) := rfl
   rw [hv] at hap
   have hlw1 : LatM (G ++ [some ⟨0, [.int .i64 (sumN c (X.getD i []) d k)]⟩, some ⟨0, icells (narV X c d k i)⟩]) rvw qw xsw bsw (divA X c d k i) := hlw.keep (List.getElem?_append_left (by omega)) fun b hb => List.getElem?_append_left (hlw.blt hb)
   have hbv : G.length + 1 ∉ qw :: bsw := fun hm => by
    rcases List.mem_cons.1 hm with h | h
    ·omega
    ·have := hlw.blt h; omega
   have hVB : VB (narV X c d k i) (k + 1) d := narV_VB hd hX his
   have hs : divA X c d k (i + 1) = (insI (k + 1) (divA X c d k i) (narV X c d k i) d (k + 1)).1 := rfl
   have lqi := look_lt ai2
   repeat' (first | (refine WO.opE (by intro; simp (disch := omega) only [go_sem, fillP, Option.bind_eq_bind, zeros, ov_one0, ai1, ai2, ai3, look_left]; rfl) (by simp only [pt8, pt0, pt1, pt2, pt3, pt4, pt5, pt6, pt7]; rfl) ?_) | (refine WO.opE (by intro; rw [ev_append]; exact hap) (by simp only [pt8, pt1]; rfl) ?_) | (refine WC.seq ?_) | (refine WC.region ?_) | (refine WO.nil ?_) | (simp only [fl1, fl4]) | (refine WC.exit ?_) | (refine WC.em2 rfl (fun hp => ?_) (fun hp => ?_) <;> try (exfalso; first | omega | contradiction)))
   generalize hG2 : G ++ [some ⟨0, [.int .i64 (sumN c (X.getD i []) d k)]⟩, some ⟨0, icells (narV X c d k i)⟩] = G2 at *
   have hG2l : G2.length = G.length + 2 := by rw [← hG2]; simp
   have hE2 : Ext G G2 := by rw [← hG2]; exact Ext.app _ _
   refine WO.call rfl rfl ((f92 (E := E) h92 g92 h91 h133 (by omega) hd hd9 hlw1 hlb (by omega) hrow hVB hbv).mono ?_)
   rintro y m' ⟨H', rfl, hlat2, _, hlen2, hkeep⟩
   simp only [pt8, pt3]
   have nb : ∀ b, b < H.length → b ∉ bsw := fun b hb h => by have := hbwl b h; omega
   have hHG := hE.1
   repeat' (first | (refine WO.opE (by intro; simp (disch := omega) only [go_sem]; rfl) (by simp only [pt8, pt0, pt1, pt7]; rfl) ?_) | (refine WC.region ?_) | (refine WO.nil ?_) | (simp only [fl10]))
   exact ⟨m - 1, by omega, _, H', i + 1, rfl, rfl, rfl, rfl, rfl, rfl, rfl, rfl, by omega, ⟨by omega, fun j hj => by rw [hkeep j (by omega) (nb j hj) (by omega), hE2.2 j (by omega), hE.2 j hj]⟩, by omega, by rw [hs]; exact hlat2⟩
 ·have hie : s = i := by omega
  subst hie
  repeat' (first | (refine WO.opE (by intro; simp (disch := omega) only [go_sem]; rfl) (by simp only [pt8, pt4, pt5, pt6]; rfl) ?_) | (refine WC.seq ?_) | (refine WC.region ?_) | (refine WO.nil ?_) | (simp only [fl1]) | (refine WC.exit ?_) | (refine WC.em2 rfl (fun hp => ?_) (fun hp => ?_) <;> try (exfalso; first | omega | contradiction)))
  refine WO.call rfl rfl ((f93 (E := E) h93 g93 h91 (by omega) hd hd9 hlw hlb (by omega)).mono ?_)
  rintro _ m' ⟨H2, rfl, hlat2, hlen2, hkeep⟩
  simp only [pt8, pt6]
  have hW : divW X c d s = redI (s + 1) (divA X c d s s) d (s + 1) := rfl
  rw [← hW] at hlat2
  have hWB : LB (divW X c d s) (s + 1) d := by rw [hW]; exact LB.redI hd hlb (Nat.le_refl _)
  generalize divW X c d s = W at *
  have hWl := hWB.len
  have nb : ∀ b, b < H.length → b ∉ bsw := fun b hb h => by have := hbwl b h; omega
  have hHG := hE.1
  have hE2 : Ext H H2 := ⟨by omega, fun j hj => by rw [hkeep j (by omega) (nb j hj), hE.2 j hj]⟩
  have hqH2 : qw < H2.length := by omega
  have hWb := hWB.behind
  have hbl := hWb.len
  have hbsl := hlat2.bl
  have hnd := List.nodup_cons.1 hlat2.nd
  have hmem : ∀ t, t < s + 1 → bsw.getD t 0 ∈ bsw := fun t ht => by
   rw [List.getD_eq_getElem?_getD, List.getElem?_eq_getElem (by omega), Option.getD_some]
   exact List.getElem_mem _
  repeat' (first | (refine WO.opE (by intro; simp (disch := omega) only [go_sem]; rfl) (by simp only [pt8, pt4, pt5]; rfl) ?_) | (refine WC.seq ?_) | (refine WC.region ?_) | (refine WO.nil ?_) | (simp only [fl1]) | (refine WC.block ?_))
  refine WC.loopI (fun m st => ∃ T G ov qo xo i, st = ⟨T, G, L⟩ ∧ T.length = 77 ∧ gt T 7 = .int .i64 (s : Nat) ∧ gt T 8 = rvw ∧ gt T 12 = ov ∧ gt T 13 = .int .i64 ((i + 1 : Nat) : Int) ∧ m + i = s ∧ H2.length ≤ G.length ∧ (∀ b, b < H2.length → G[b]? = H2[b]?) ∧ LatM G ov qo xo ((bsw.drop 1).take i) ((behind W).take i) ∧ (ov = .snil ∨ H2.length ≤ qo ∧ qo < G.length)) ?_ s _ ⟨_, H2, .snil, 0, [], 0, rfl, rfl, rfl, rfl, rfl, rfl, by omega, Nat.le_refl _, fun b _ => rfl, LatM.nil _ _, .inl rfl⟩
  clear g0 g1 g2 g7 g8 g9 f
  rintro m _ ⟨T, G, ov, qo, xo, i, rfl, hT, g7, g8, g12, g13, hm, hGl, hkp, hlo, hqo⟩
  obtain ⟨f, rfl⟩ := ex77 hT
  clear hT
  replace g7 : f 7 = .int .i64 (s : Nat) := g7
  replace g8 : f 8 = rvw := g8
  replace g12 : f 12 = ov := g12
  replace g13 : f 13 = .int .i64 ((i + 1 : Nat) : Int) := g13
  simp only [g7, g8, g12, g13]
  have hi1 : ((i + 1 : Nat) : Int) + 1 = ((i + 1 + 1 : Nat) : Int) := by omega
  have hovc : ov.cells = some [ov] := by
   rcases hlo.gs with ⟨rfl, _⟩ | ⟨g, rfl, _⟩ | ⟨g, n, rfl, _⟩ <;> rfl
  unfold AV.cells at hovc
  by_cases his : i < s
  ·obtain ⟨gi, ai1, ai2, ai3, hRi⟩ := hlat2.at (i := i + 1) (by omega)
   have hm1 := hmem (i + 1) (by omega)
   have hb1 := hlat2.blt hm1
   have hRG := hRi.same (hkp _ hb1)
   have hai2 : Zz.look G qw gi = some xsw := (look_of_get (hkp qw hqH2)).trans ai2
   have hxc := hRi.cell
   unfold AV.cells at hxc
   have hil := hWB.row (i + 1) (by omega)
   obtain ⟨zv, hz1, hzr⟩ := hRG.tail (by rw [hil]; omega)
   have hbe := behind_at (W := W) (i := i) (by omega)
   rw [← hbe] at hzr
   have hzc := hzr.cell
   unfold AV.cells at hzc
   generalize hxe : xsw.getD (i + 1) und = x at *
   have hdr : (bsw.drop 1).take (i + 1) = (bsw.drop 1).take i ++ [bsw.getD (i + 1) 0] := by
    rw [List.take_add_one, List.getElem?_drop, Nat.add_comm 1 i, List.getElem?_eq_getElem (by omega), List.getD_eq_getElem?_getD, List.getElem?_eq_getElem (by omega)]
    rfl
   have hbb : bsw.getD (i + 1) 0 ∉ (bsw.drop 1).take i := fun hmm => by
    obtain ⟨t, ht, e⟩ := List.mem_iff_getElem.1 hmm
    rw [List.length_take, List.length_drop] at ht
    rw [List.getElem_take, List.getElem_drop] at e
    have e' : bsw.getD (1 + t) 0 = bsw.getD (i + 1) 0 := by rw [List.getD_eq_getElem?_getD, List.getElem?_eq_getElem (by omega)]; exact e
    have := getD_inj hnd.2 (by omega) (by omega) e'
    omega
   obtain ⟨ov', qo', H', a1, hlo', hqo', hlen', hsame⟩ := hlo.push2 (L := L) (by rcases hqo with h | h; exact .inl h; exact .inr ⟨h.2, by omega⟩) hbb hzr (by simp; omega)
   rw [← take_succ (by omega), ← hdr] at hlo'
   have hlqi := look_lt hai2
   repeat' (first | (refine WO.opE (by intro; simp (disch := omega) only [go_sem, fillP, Option.bind_eq_bind, zeros, ov_one0, ai1, hai2, ai3, hz1, hzc, hi1, Option.map_none, Option.map_some]; rfl) (by simp only [pt8, pt0, pt1, pt2, pt3, pt4, pt5, pt6, pt7]; rfl) ?_) | (refine WO.opE (by intro; rw [ev_append]; exact a1) (by simp only [pt8, pt3]; rfl) ?_) | (refine WC.seq ?_) | (refine WC.region ?_) | (refine WO.nil ?_) | (simp only [fl1, fl10]) | (refine WC.skip ?_) | (refine WC.block ?_) | (refine WC.em2 rfl (fun hp => ?_) (fun hp => ?_) <;> try (exfalso; first | omega | contradiction)))
   exact ⟨m - 1, by omega, _, H', ov', qo', _, i + 1, rfl, rfl, rfl, rfl, rfl, rfl, by omega, by omega, fun b hb => by
    rw [hsame b (by omega) (by rcases hqo with h | h; exact .inl h; exact .inr (by omega)), hkp b hb], hlo', .inr ⟨by
    rcases hqo' with ⟨h1, _, h2⟩ | h
    ·rcases hqo with h | h
     ·exact absurd h h2
     ·omega
    ·omega, hlo'.qlt (by simp; omega)⟩⟩
  ·have hie : s = i := by omega
   subst hie
   have hdl : (bsw.drop 1).length = s := by rw [List.length_drop]; omega
   rw [List.take_of_length_le (by omega), List.take_of_length_le (by omega)] at hlo
   repeat' (first | (refine WO.opE (by intro; simp (disch := omega) only [go_sem]; rfl) (by simp only [pt8, pt0, pt1, pt4, pt6, pt7]; rfl) ?_) | (refine WC.seq ?_) | (refine WC.region ?_) | (refine WO.nil ?_) | (simp only [fl1]) | (refine WC.exit ?_) | (refine WC.ret ?_) | (refine WC.em2 rfl (fun hp => ?_) (fun hp => ?_) <;> try (exfalso; first | omega | contradiction)))
   obtain ⟨qo, hlo, _, hqoG⟩ := hlo.fit (a := 0) (by omega) (by omega)
   exact ⟨_, rfl, ov, qo, xo, _, G, rfl, rfl, hlo, ⟨by omega, fun j hj => by rw [hkp j (by omega), hE2.2 j hj]⟩, fun b hb => (hbwl b (List.mem_of_mem_drop hb)).1, hqoG⟩
set_option maxRecDepth 100000
set_option maxHeartbeats 8000000
theorem mem_take_succ {js : List Nat} {j k : Nat} (hk : k < js.length) : j ∈ js.take (k + 1) ↔ j ∈ js.take k ∨ js.getD k 0 = j := by
 rw [take_succN hk, List.mem_append, List.mem_singleton]
 exact ⟨fun h => h.imp id Eq.symm, fun h => h.imp id Eq.symm⟩
theorem free_take {js : List Nat} {j : Nat} (hj : j < 6) : (([0, 1, 2, 3, 4, 5] : List Nat).take (j + 1)).filter (fun v => !decide (v ∈ js)) = (([0, 1, 2, 3, 4, 5] : List Nat).take j).filter (fun v => !decide (v ∈ js)) ++ (if j ∈ js then [] else [j]) := by
 have e : ([0, 1, 2, 3, 4, 5] : List Nat).take (j + 1) = ([0, 1, 2, 3, 4, 5] : List Nat).take j ++ [j] := by
  rcases (by omega : j = 0 ∨ j = 1 ∨ j = 2 ∨ j = 3 ∨ j = 4 ∨ j = 5) with rfl | rfl | rfl | rfl | rfl | rfl <;> rfl
 rw [e, List.filter_append]
 congr 1
 by_cases h : j ∈ js
 ·rw [if_pos h, List.filter_cons_of_neg (by simp [h]), List.filter_nil]
 ·rw [if_neg h, List.filter_cons_of_pos (by simp [h]), List.filter_nil]
theorem natPush {G : Hp} {L : List (Option ALoop)} {v : AV} {q : Nat} {w : List Nat} (h : GS 1 G v q (ncells w)) (hl : w.length < 1000000) (x : Nat) (X : Hp) {id : Nat} (hid : Zz.look (G ++ X) id 0 = some [.int .i64 (x : Int)]) :
  ∃ v' q' H', appendAV 1 8 ⟨G ++ X, L⟩ v (.sref id 0 0 1 1 (some 1)) = some (v', ⟨H', L⟩) ∧ GS 1 H' v' q' (ncells (w ++ [x])) := by
 obtain ⟨v', q', H', a1, a2, a3, a4, a5⟩ := (h.more X).append (L := L) (bytes := 8) (n := 1) (cap := some 1) hid rfl Nat.one_pos (by decide) ⟨by rw [ncells_len]; omega, by rw [ncells_len]; omega⟩
 exact ⟨v', q', H', a1, by rw [ncells_app]; exact a2⟩
theorem f100 {jv : AV} {js : List Nat} (hjv : NatS jv js) (hjl : js.length < 1000000) : WF E20 (.func 100 [] []) [jv] ⟨[], []⟩ fun y m' => ∃ q, GS 1 m'.heap y q (ncells (freeF js)) := by
 have hjvl := hjv.len
 refine WF.fnE rfl (fn_of Try.func100 cir100) (by show 1 ≤ 33; decide) ?_
 unfold ir100; dsimp only [k0, kI, mV, oO, oG]
 simp only [padTo, List.replicate, List.nil_append, List.append_nil]
 repeat' (first | (refine WO.opE (by intro; simp (disch := omega) only [go_sem]; rfl) (by simp only [pt2, pt3, pt4]; rfl) ?_) | (refine WC.seq ?_) | (refine WC.region ?_) | (refine WO.nil ?_) | (simp only [fl1]) | (refine WC.block ?_))
 refine WC.loopI (fun m s => ∃ T G ov q j, s = ⟨T, G, []⟩ ∧ T.length = 33 ∧ gt T 0 = jv ∧ gt T 3 = ov ∧ gt T 4 = .int .i64 (j : Nat) ∧ m + j = 6 ∧ GS 1 G ov q (ncells ((([0, 1, 2, 3, 4, 5] : List Nat).take j).filter fun v => !decide (v ∈ js)))) ?_ 6 _ ⟨_, [], .snil, 0, 0, rfl, rfl, rfl, rfl, rfl, by omega, .inl ⟨rfl, rfl⟩⟩
 rintro m _ ⟨T, G, ov, q, j, rfl, hT, g0, g3, g4, hm, hgs⟩
 obtain ⟨f, rfl⟩ := ex33 hT
 clear hT
 replace g0 : f 0 = jv := g0
 replace g3 : f 3 = ov := g3
 replace g4 : f 4 = .int .i64 (j : Nat) := g4
 simp only [g0, g3, g4]
 have hovc : ov.cells = some [ov] := by
  rcases hgs with ⟨rfl, _⟩ | ⟨g, rfl, _⟩ | ⟨g, n, rfl, _⟩ <;> rfl
 unfold AV.cells at hovc
 by_cases hj : j < 6
 ·have hft := free_take (js := js) hj
  repeat' (first | (refine WO.opE (by intro; simp (disch := omega) only [go_sem]; rfl) (by simp only [pt8, pt0, pt5, pt6, pt7]; rfl) ?_) | (refine WC.seq ?_) | (refine WC.region ?_) | (refine WO.nil ?_) | (simp only [fl1]) | (refine WC.skip ?_) | (refine WC.block ?_) | (refine WC.em2 rfl (fun hp => ?_) (fun hp => ?_) <;> try (exfalso; first | omega | contradiction)))
  refine WC.loopI (fun m2 s => ∃ T k, s = ⟨T, G, []⟩ ∧ T.length = 33 ∧ gt T 0 = jv ∧ gt T 3 = ov ∧ gt T 4 = .int .i64 (j : Nat) ∧ gt T 5 = .bool (decide (j ∈ js.take k)) ∧ gt T 6 = .int .i64 (k : Nat) ∧ m2 + k = js.length) ?_ js.length _ ⟨_, 0, rfl, rfl, rfl, rfl, rfl, rfl, rfl, by omega⟩
  clear g0 g3 g4 f
  rintro m2 _ ⟨T, k, rfl, hT, g0, g3, g4, g5, g6, hm2⟩
  obtain ⟨f, rfl⟩ := ex33 hT
  clear hT
  replace g0 : f 0 = jv := g0
  replace g3 : f 3 = ov := g3
  replace g4 : f 4 = .int .i64 (j : Nat) := g4
  replace g5 : f 5 = .bool (decide (j ∈ js.take k)) := g5
  replace g6 : f 6 = .int .i64 (k : Nat) := g6
  simp only [g0, g3, g4, g5, g6]
  by_cases hk : k < js.length
  ·obtain ⟨t2, hat2⟩ := hjv.at hk
   have hms := mem_take_succ (j := j) hk
   by_cases hb : j ∈ js.take k
   ·have hd : decide (j ∈ js.take k) = true := decide_eq_true hb
    have hd2 : (true : Bool) = decide (j ∈ js.take (k + 1)) := (decide_eq_true (hms.2 (.inl hb))).symm
    rw [hd]
    repeat' (first | (refine WO.noE rfl (by simp only [pt8, pt0, pt3, pt4, pt5, pt6, pt7]; rfl) ?_) | (refine WO.opE (by intro; simp (disch := omega) only [go_sem]; rfl) (by simp only [pt8, pt0, pt1, pt2, pt3, pt4, pt5, pt6, pt7]; rfl) ?_) | (refine WO.opE (by intro; exact ev_lenS (by simp only [go_sem]; first | rfl | assumption)) (by simp only [pt8, pt5]; rfl) ?_) | (refine WC.seq ?_) | (refine WC.region ?_) | (refine WO.nil ?_) | (simp only [fl1, fl10]) | (refine WC.skip ?_) | (refine WC.block ?_) | (refine WC.em2 rfl (fun hp => ?_) (fun hp => ?_) <;> try (exfalso; first | omega | contradiction)))
    exact ⟨m2 - 1, by omega, _, k + 1, rfl, rfl, rfl, rfl, rfl, congrArg AV.bool hd2, rfl, by omega⟩
   ·have hd : decide (j ∈ js.take k) = false := decide_eq_false hb
    have hd2 : decide (((js.getD k 0 : Nat) : Int) = ((j : Nat) : Int)) = decide (j ∈ js.take (k + 1)) := by
     rw [decide_eq_decide, hms]
     constructor
     ·intro h; exact .inr (by omega)
     ·rintro (h | h)
      ·exact absurd h hb
      ·rw [h]
    rw [hd]
    repeat' (first | (refine WO.yes rfl ?_) | (refine WO.opE (by intro; simp (disch := omega) only [go_sem, hat2]; rfl) (by simp only [pt8, pt0, pt1, pt2, pt3, pt4, pt5, pt6, pt7]; rfl) ?_) | (refine WO.opE (by intro; exact ev_lenS (by simp only [go_sem]; first | rfl | assumption)) (by simp only [pt8, pt5]; rfl) ?_) | (refine WC.seq ?_) | (refine WC.region ?_) | (refine WO.nil ?_) | (simp only [fl1, fl10]) | (refine WC.skip ?_) | (refine WC.block ?_) | (refine WC.em2 rfl (fun hp => ?_) (fun hp => ?_) <;> try (exfalso; first | omega | contradiction)))
    exact ⟨m2 - 1, by omega, _, k + 1, rfl, rfl, rfl, rfl, rfl, congrArg AV.bool hd2, rfl, by omega⟩
  ·have hke : k = js.length := by omega
   subst hke
   rw [List.take_length] at g5 ⊢
   by_cases hb : j ∈ js
   ·rw [if_pos hb, List.append_nil] at hft
    have hd : decide (j ∈ js) = true := decide_eq_true hb
    rw [hd]
    repeat' (first | (refine WO.opE (by intro; simp (disch := omega) only [go_sem]; rfl) (by simp only [pt8, pt1, pt2, pt3, pt4, pt6]; rfl) ?_) | (refine WO.opE (by intro; exact ev_lenS (by simp only [go_sem]; first | rfl | assumption)) (by simp only [pt8, pt5]; rfl) ?_) | (refine WC.seq ?_) | (refine WC.region ?_) | (refine WO.nil ?_) | (simp only [fl1, fl10]) | (refine WC.no rfl ?_) | (refine WC.skip ?_) | (refine WC.exit ?_) | (refine WC.em2 rfl (fun hp => ?_) (fun hp => ?_) <;> try (exfalso; first | omega | contradiction)))
    exact ⟨m - 1, by omega, _, G, ov, q, j + 1, rfl, rfl, rfl, rfl, rfl, by omega, by rw [hft]; exact hgs⟩
   ·rw [if_neg hb] at hft
    have hd : decide (j ∈ js) = false := decide_eq_false hb
    rw [hd]
    obtain ⟨v', q', H', a1, a2⟩ := natPush (L := []) hgs (by
     have := List.Sublist.length_le (List.filter_sublist (l := ([0, 1, 2, 3, 4, 5] : List Nat).take j) (p := fun v => !decide (v ∈ js)))
     rw [List.length_take] at this
     omega) j [some ⟨0, [.int .i64 (j : Int)]⟩] (lk0 rfl)
    rw [← hft] at a2
    repeat' (first | (refine WO.opE (by intro; simp (disch := omega) only [go_sem, fillP, Option.bind_eq_bind, zeros, ov_one0]; rfl) (by simp only [pt8, pt1, pt2, pt3, pt4, pt5, pt6]; rfl) ?_) | (refine WO.opE (by intro; exact ev_lenS (by simp only [go_sem]; first | rfl | assumption)) (by simp only [pt8, pt5]; rfl) ?_) | (refine WO.opE (by intro; rw [ev_append]; exact a1) (by simp only [pt8, pt7]; rfl) ?_) | (refine WC.seq ?_) | (refine WC.region ?_) | (refine WO.nil ?_) | (simp only [fl1, fl10]) | (refine WC.yes rfl ?_) | (refine WC.exit ?_) | (refine WC.em2 rfl (fun hp => ?_) (fun hp => ?_) <;> try (exfalso; first | omega | contradiction)))
    exact ⟨m - 1, by omega, _, H', v', q', j + 1, rfl, rfl, rfl, rfl, rfl, by omega, a2⟩
 ·have hje : j = 6 := by omega
  subst hje
  repeat' (first | (refine WO.opE (by intro; simp (disch := omega) only [go_sem]; rfl) (by simp only [pt8, pt0, pt2, pt7]; rfl) ?_) | (refine WC.seq ?_) | (refine WC.region ?_) | (refine WO.nil ?_) | (simp only [fl1]) | (refine WC.no rfl ?_) | (refine WC.exit ?_) | (refine WC.ret ?_))
  exact ⟨_, rfl, q, hgs⟩
theorem GS.nat {H : Hp} {v : AV} {q : Nat} {l : List Nat} (h : GS 1 H v q (ncells l)) : ∃ x, NatS x l ∧ Zz.resV H v = some x := by
 obtain ⟨x, e1, e2⟩ := (JS.of_gs h).resC
 refine ⟨x, e2, ?_⟩
 rcases h with ⟨rfl, _⟩ | ⟨g, rfl, _⟩ | ⟨g, n, rfl, _⟩ <;> exact e1
theorem s100 {jv : AV} {js : List Nat} (hjv : NatS jv js) (hjl : js.length < 1000000) : ∃ x, NatS x (freeF js) ∧ ∀ m, borrowE E20 100 [jv] m = some (x, m) := by
 obtain ⟨n, y, m', h1, q, h2⟩ := (f100 hjv hjl).ex
 obtain ⟨x, e1, e2⟩ := GS.nat h2
 exact ⟨x, e1, fun m => borrowE_of (pures_cons hjv.pureA rfl) ⟨⟨n, _, m', h1, e2⟩⟩⟩
noncomputable def E21 : Env := E20.put 100 (borrowE E20 100)
theorem E21_ok : EnvOk Try.prog E21 := Env.put_ok E20_ok (borrowE_ok E20_ok (callable Try.func100 (by kernel_rfl)))
theorem f31 {l : AV} {rows : List (List Int)} (hl : RwL l rows) (hv : VM rows) : WF E21 (.func 31 [] []) [l] ⟨[], []⟩ fun y m' => ∃ v q, y = .tuple [v, .int .i64 0] ∧ GS 6 m'.heap v q (flatR (kerFR rows)) := by
 have hr8 := hv.1
 have c26 := fun m => s26 (m := m) hl (by omega)
 rw [decide_eq_true hv] at c26
 obtain ⟨iv, jv, hiv, hjv, c88⟩ := s88 (l' := l) (ov' := .sref 0 0 0 1 6 (some 6)) (ov := .sval true 6 [.int .i64 5, .int .i64 4, .int .i64 3, .int .i64 2, .int .i64 1, .int .i64 0]) hl hv (.inr ⟨true, rfl⟩) okJ_bwd (by decide)
 obtain ⟨hok, _⟩ := s82 (ov := .sval true 6 [.int .i64 5, .int .i64 4, .int .i64 3, .int .i64 2, .int .i64 1, .int .i64 0]) hl hv (.inr ⟨true, rfl⟩) okJ_bwd (by decide)
 have c88' := c88 ⟨[some ⟨0, [.int .i64 5, .int .i64 4, .int .i64 3, .int .i64 2, .int .i64 1, .int .i64 0]⟩], []⟩ (hl.byVal _) rfl
 have hF : frame rows [5, 4, 3, 2, 1, 0] ([5, 4, 3, 2, 1, 0] : List Nat).length = bwdF rows := rfl
 rw [hF] at hok hiv hjv
 have hB := hok.toB hv (fun i hi => hl.six hi) okJ_bwd (by decide)
 clear hok hF c88
 have hker : kerFR rows = (kerXR rows (bwdF rows) (bwdF rows).js.length).map (kerR rows (bwdF rows)) := rfl
 generalize bwdF rows = S at *
 obtain ⟨hd0, hd9⟩ := hB.abs
 have hn6 := hB.six
 have hil6 := hB.len
 have hs6 := free_len S.js
 have hjl := hjv.len
 obtain ⟨fv, hfv, c100⟩ := s100 hjv (by omega)
 have hfl := hfv.len
 have c89 := fun m => s89 (m := m) (c := 1) hl hiv hjv hB.i (by decide) (hB.j.toW fun i hi => hl.six hi) (fun s hs => by
  have h1 := prodB_vol hv (is := s) (hB.nd.sublist hs.sublist) fun x hx => hB.i x (hs.subset hx)
  omega) hv.2.1 (by omega) (by omega) (by omega) (hl.byVal _) (hiv.byV _) (hjv.byV _)
 rw [← hB.d] at c89
 have hbd := hB.bd
 have hmx := absI_max S.d
 have hlc := hl.cells
 have hic := hiv.cells
 have hjc := hjv.cells
 unfold AV.cells at hlc hic hjc
 refine WF.fnE rfl (fn_of Try.func31 cir31) (by show 1 ≤ 149; decide) ?_
 unfold ir31; dsimp only [k0, kI, mV, oO, oG]
 simp only [padTo, List.replicate, List.nil_append, List.append_nil]
 repeat' (first | (refine WO.opE (by intro; simp (disch := omega) only [go_sem, Zz.look, fillP, Option.bind_eq_bind, zeros, ov_one0, ov_one1, ov_one2, ov_one3, hmx, Int.zero_sub]; rfl) (by simp only [pt8, pt0, pt1, pt2, pt3, pt4, pt5, pt6, pt7]; rfl) ?_) | (refine WO.opN (by intro; simp (disch := omega) only [go_sem, Zz.look, Option.bind_eq_bind, ov_all2, Nat.reduceAdd]; rfl) ?_) | (refine WO.opE (by intro; exact ev_lenS (by simp only [go_sem]; first | rfl | assumption)) (by simp only [pt8, pt1]; rfl) ?_) | (refine WO.specE rfl rfl (c26 _) (by simp only [pt8, pt2, pt5]; rfl) ?_) | (refine WO.specE rfl rfl (c88') (by simp only [pt8, pt2]; rfl) ?_) | (refine WO.specE rfl rfl (c100 _) (by simp only [pt8, pt2, pt5]; rfl) ?_) | (refine WO.specE rfl rfl (c89 _) (by simp only [pt8, pt2, pt3]; rfl) ?_) | (refine WC.seq ?_) | (refine WC.region ?_) | (refine WO.nil ?_) | (simp only [fl1]) | (refine WC.no rfl ?_) | (refine WC.skip ?_))
 refine WO.call rfl rfl ((f90 (E := E21) rfl (fn_of Try.func90 cir90) (n := (freeF S.js).length) (d := 1) (by omega)).mono ?_)
 rintro rv m' ⟨_, q, xs, bs, G0, rfl, rfl, hlat, hext, hbs, _⟩
 have k10 : Zz.look G0 1 0 = some [iv, jv] := hext.look rfl
 obtain ⟨q, hlat, _, hqG⟩ := hlat.fit (a := 0) (by omega) (by have := look_lt k10; omega)
 simp only [pt8, pt2]
 repeat' (first | (refine WO.opE (by intro; simp (disch := omega) only [go_sem]; rfl) (by simp only [pt8, pt1, pt2]; rfl) ?_) | (refine WC.seq ?_) | (refine WC.region ?_) | (refine WO.nil ?_) | (simp only [fl1]) | (refine WC.block ?_))
 have hlat0 : LatM G0 rv q xs bs (kerXR rows S 0) := hlat
 refine WC.loopI (fun m st => ∃ T G rv q xs bs k, st = ⟨T, G, []⟩ ∧ T.length = 149 ∧ gt T 0 = l ∧ gt T 5 = .pref 1 0 0 ∧ gt T 6 = fv ∧ gt T 7 = .int .i64 S.d ∧ gt T 8 = .int .i64 (absI S.d) ∧ gt T 9 = rv ∧ gt T 10 = .int .i64 (k : Nat) ∧ m + k = S.js.length ∧ Zz.look G 1 0 = some [iv, jv] ∧ LatM G rv q xs bs (kerXR rows S k) ∧ q < G.length) ?_ S.js.length _ ⟨_, G0, rv, q, xs, bs, 0, rfl, rfl, rfl, rfl, rfl, rfl, rfl, rfl, rfl, by omega, k10, hlat0, hqG⟩
 clear hlat k10 hqG hext hlat0 hbs
 rintro m _ ⟨T, G, rv, q, xs, bs, k, rfl, hT, g0, g5, g6, g7, g8, g9, g10, hm, k1, hlat, hqG⟩
 obtain ⟨f, rfl⟩ := ex149 hT
 clear hT
 replace g0 : f 0 = l := g0
 replace g5 : f 5 = .pref 1 0 0 := g5
 replace g6 : f 6 = fv := g6
 replace g7 : f 7 = .int .i64 S.d := g7
 replace g8 : f 8 = .int .i64 (absI S.d) := g8
 replace g9 : f 9 = rv := g9
 replace g10 : f 10 = .int .i64 (k : Nat) := g10
 simp only [g0, g5, g6, g7, g8, g9, g10]
 have hXB := kerXR_LB hB k
 have l1 := look_lt k1
 by_cases hk : k < S.js.length
 ·have htab := tab_len rows S k
  have hgs0 : GS 1 G .snil G.length (icells ((tabF rows S k).take 0)) := .inl ⟨rfl, rfl⟩
  repeat' (first | (refine WO.opE (by intro; simp (disch := omega) only [go_sem, k1]; rfl) (by simp only [pt8, pt3, pt4, pt5, pt7]; rfl) ?_) | (refine WO.opE (by intro; exact ev_lenS (by simp only [go_sem]; first | rfl | assumption)) (by simp only [pt8, pt6]; rfl) ?_) | (refine WC.seq ?_) | (refine WC.region ?_) | (refine WO.nil ?_) | (simp only [fl1]) | (refine WC.skip ?_) | (refine WC.block ?_) | (refine WC.em2 rfl (fun hp => ?_) (fun hp => ?_) <;> try (exfalso; first | omega | contradiction)))
  refine WC.loopI (fun m2 st => ∃ T G2 cv q2 n, st = ⟨T, G2, []⟩ ∧ T.length = 149 ∧ gt T 0 = l ∧ gt T 5 = .pref 1 0 0 ∧ gt T 6 = fv ∧ gt T 7 = .int .i64 S.d ∧ gt T 8 = .int .i64 (absI S.d) ∧ gt T 9 = rv ∧ gt T 10 = .int .i64 (k : Nat) ∧ gt T 11 = cv ∧ gt T 12 = .int .i64 (n : Nat) ∧ m2 + n = (freeF S.js).length ∧ G.length ≤ G2.length ∧ GS 1 G2 cv q2 (icells ((tabF rows S k).take n)) ∧ G.length ≤ q2 ∧ ∀ b, b < G.length → G2[b]? = G[b]?) ?_ (freeF S.js).length _ ⟨_, G, .snil, G.length, 0, rfl, rfl, rfl, rfl, rfl, rfl, rfl, rfl, rfl, rfl, rfl, by omega, Nat.le_refl _, hgs0, Nat.le_refl _, fun b _ => rfl⟩
  clear g0 g5 g6 g7 g8 g9 g10 f hgs0
  rintro m2 _ ⟨T, G2, cv, q2, n, rfl, hT, g0, g5, g6, g7, g8, g9, g10, g11, g12, hm2, hG2, hgs, hq2, hkp⟩
  obtain ⟨f, rfl⟩ := ex149 hT
  clear hT
  replace g0 : f 0 = l := g0
  replace g5 : f 5 = .pref 1 0 0 := g5
  replace g6 : f 6 = fv := g6
  replace g7 : f 7 = .int .i64 S.d := g7
  replace g8 : f 8 = .int .i64 (absI S.d) := g8
  replace g9 : f 9 = rv := g9
  replace g10 : f 10 = .int .i64 (k : Nat) := g10
  replace g11 : f 11 = cv := g11
  replace g12 : f 12 = .int .i64 (n : Nat) := g12
  simp only [g0, g5, g6, g7, g8, g9, g10, g11, g12]
  have k12 : Zz.look G2 1 0 = some [iv, jv] := (look_of_get (hkp 1 l1)).trans k1
  have hvc : cv.cells = some [cv] := by
   rcases hgs with ⟨rfl, _⟩ | ⟨g, rfl, _⟩ | ⟨g, n, rfl, _⟩ <;> rfl
  unfold AV.cells at hvc
  by_cases hn : n < (freeF S.js).length
  ·obtain ⟨t2, hat2⟩ := hfv.at hn
   have hj6 := (free_mem.1 (getD_mem hn)).1
   obtain ⟨sv, hsv, c94⟩ := s94 (j := (freeF S.js).getD n 0) hjv (by omega) hk
   have c89b := fun m => s89 (m := m) (c := 2) hl hiv hsv hB.i (by decide) (okW_set (fun i hi => hl.six hi) hB.j k hj6) (okP_two hv hB.nd hB.i (by omega)) hv.2.1 (by omega) (by simp; omega) (by omega) (hl.byVal _) (hiv.byV _) (hsv.byV _)
   rw [← tab_at hn] at c89b
   have htb := tab_bd hB hv (fun i hi => hl.six hi) hk hn
   have hts : (tabF rows S k).take n ++ [(tabF rows S k).getD n 0] = (tabF rows S k).take (n + 1) := by
    rw [List.take_add_one, List.getD_eq_getElem?_getD, List.getElem?_eq_getElem (by omega)]
    rfl
   obtain ⟨v', q', H2, a1, a2, a3, a4, a5⟩ := intPush (L := []) hgs (by rw [List.length_take]; omega) ((tabF rows S k).getD n 0) [some ⟨0, [.int .i64 ((tabF rows S k).getD n 0)]⟩] (lk0 rfl)
   rw [hts] at a2
   simp only [List.length_cons, List.length_nil, Nat.zero_add] at a3 a4 a5
   repeat' (first | (refine WO.opE (by intro; simp (disch := omega) only [go_sem]; rfl) (by simp only [pt8, pt2, pt3, pt5]; rfl) ?_) | (refine WO.opE (by intro; exact ev_lenS (by simp only [go_sem]; first | rfl | assumption)) (by simp only [pt8, pt4]; rfl) ?_) | (refine WT.spec rfl rfl (fun V => c94 _) (by simp only [pt8, pt3]; rfl) ?_) | (refine WT.spec rfl rfl (fun V => c89b _) (by simp only [pt8, pt4]; rfl) ?_) | (refine WC.seq ?_) | (refine WC.region ?_) | (refine WO.nil ?_) | (simp only [fl1, fl4]) | (refine WC.drawT ?_) | (refine WT.free rfl (by intro; simp (disch := omega) only [go_sem, fillP, Option.bind_eq_bind, zeros, ov_one0, hat2, k12]; rfl) rfl (by simp only [pt8, pt0, pt1, pt2, pt3, pt4, pt5, pt6, pt7]; rfl) ?_) | (refine WT.big rfl rfl (by intro; simp (disch := omega) only [go_sem, fillP, Option.bind_eq_bind, zeros, ov_one0, k12]; rfl) (by simp (disch := omega) only [go_sem, touch]; rfl) (by first | exact .inl rfl | exact .inr (apart_nil _) | exact .inr trivial | (right; apply apart_mk; simp only [apartL, List.nil_append, List.cons_append, List.getElem?_cons_succ, List.getElem?_cons_zero, Tch.free, and_true, true_and]; first | done | omega)) (by simp only [pt8, pt2, pt3, pt5]; rfl) ?_) | (refine WC.skip ?_) | (refine WC.block ?_) | (refine WC.em2 rfl (fun hp => ?_) (fun hp => ?_) <;> try (exfalso; first | omega | contradiction)))
   refine WT.append (sv := cv) (xv := .sref G2.length 0 0 1 1 (some 1)) rfl rfl a1 (apart_nil _) (apart_nil _) (by simp only [pt8, pt6]; rfl) ?_
   repeat' (first | (refine WO.opE (by intro; simp (disch := omega) only [go_sem]; rfl) (by simp only [pt8, pt4, pt6, pt7]; rfl) ?_) | (refine WC.region ?_) | (refine WO.nil ?_) | (simp only [fl10]) | (refine WT.nil ?_) | (refine WT.free rfl (by intro; simp (disch := omega) only [go_sem]; rfl) rfl (by simp only [pt8, pt3]; rfl) ?_))
   exact ⟨m2 - 1, by omega, _, H2, v', q', n + 1, rfl, rfl, rfl, rfl, rfl, rfl, rfl, rfl, rfl, rfl, rfl, by omega, by omega, a2, by omega, fun b hb => by
    rw [a5 b (by omega) (by omega), List.getElem?_append_left (by omega), hkp b hb]⟩
  ·have hne : n = (freeF S.js).length := by omega
   subst hne
   rw [List.take_of_length_le (by omega)] at hgs
   have hlat2 : LatM G2 rv q xs bs (kerXR rows S k) := hlat.keep (hkp q hqG) fun b hb => hkp b (hlat.blt hb)
   obtain ⟨bc, hbc, hIM⟩ : ∃ bc, bc < G2.length ∧ IM G2 cv bc (tabF rows S k) := by
    by_cases hr : 0 < (tabF rows S k).length
    ·have := RowM.of_gs hgs hr
     exact ⟨q2, this.lt, .inr this⟩
    ·have hr0 : tabF rows S k = [] := List.length_eq_zero_iff.1 (by omega)
     rw [hr0] at hgs ⊢
     rcases hgs with ⟨rfl, _⟩ | ⟨g, rfl, _, h2⟩ | ⟨g, n, _, h1, h2, _⟩
     ·exact ⟨0, by omega, .inl ⟨rfl, rfl⟩⟩
     ·exact ⟨q2, look_lt h2, .inr ⟨g, 0, some 0, [], rfl, h2, by simp, rfl, .inr rfl⟩⟩
     ·simp [icells] at h1; omega
   have hsk : kerXR rows S (k + 1) = behind (divW (kerXR rows S k) (tabF rows S k) (absI S.d) (freeF S.js).length) := rfl
   repeat' (first | (refine WO.opE (by intro; simp (disch := omega) only [go_sem]; rfl) (by simp only [pt8, pt0, pt1, pt2, pt3, pt5, pt7]; rfl) ?_) | (refine WO.opE (by intro; exact ev_lenS (by simp only [go_sem]; first | rfl | assumption)) (by simp only [pt8, pt4]; rfl) ?_) | (refine WC.seq ?_) | (refine WC.region ?_) | (refine WO.nil ?_) | (simp only [fl1, fl4]) | (refine WC.exit ?_) | (refine WC.em2 rfl (fun hp => ?_) (fun hp => ?_) <;> try (exfalso; first | omega | contradiction)))
   refine WO.call rfl rfl ((f101 (E := E21) rfl (fn_of Try.func101 cir101) rfl (fn_of Try.func90 cir90) rfl rfl (fn_of Try.func92 cir92) rfl rfl (fn_of Try.func93 cir93) hs6 hd0 hd9 hlat2 hXB (by omega) hIM htab (fun t ht => tab_bd hB hv (fun i hi => hl.six hi) hk ht) hbc).mono ?_)
   rintro rv' m' ⟨_, q', xs', bs', H', rfl, rfl, e1, e2, e3, e5⟩
   simp only [pt8, pt2]
   rw [← hsk] at e1
   repeat' (first | (refine WO.opE (by intro; simp (disch := omega) only [go_sem]; rfl) (by simp only [pt8, pt0, pt1, pt2]; rfl) ?_) | (refine WC.region ?_) | (refine WO.nil ?_) | (simp only [fl10]))
   exact ⟨m - 1, by omega, _, H', rv', q', xs', bs', k + 1, rfl, rfl, rfl, rfl, rfl, rfl, rfl, rfl, rfl, by omega, e2.look k12, e1, e5⟩
 ·have hke : k = S.js.length := by omega
  subst hke
  have hrl := hlat.len
  rw [hXB.len] at hrl
  generalize hXe : kerXR rows S S.js.length = X at *
  repeat' (first | (refine WO.opE (by intro; simp (disch := omega) only [go_sem, k1]; rfl) (by simp only [pt8, pt3, pt4, pt5, pt6, pt7]; rfl) ?_) | (refine WO.opE (by intro; exact ev_lenS (by simp only [go_sem]; first | rfl | assumption)) (by simp only [pt8, pt6]; rfl) ?_) | (refine WC.seq ?_) | (refine WC.region ?_) | (refine WO.nil ?_) | (simp only [fl1]) | (refine WC.exit ?_) | (refine WC.block ?_) | (refine WC.em2 rfl (fun hp => ?_) (fun hp => ?_) <;> try (exfalso; first | omega | contradiction)))
  have hXl := hXB.len
  have hflat0 : flatR ((X.take 0).map (kerR rows S)) = [] := rfl
  obtain ⟨GL, hGL⟩ : ∃ GL, GL = G.length := ⟨_, rfl⟩
  refine WC.loopI (fun m st => ∃ T G' ov qo i, st = ⟨T, G', []⟩ ∧ T.length = 149 ∧ gt T 0 = l ∧ gt T 5 = .pref 1 0 0 ∧ gt T 6 = fv ∧ gt T 7 = .int .i64 S.d ∧ gt T 9 = rv ∧ gt T 13 = ov ∧ gt T 14 = .int .i64 (i : Nat) ∧ m + i = (freeF S.js).length ∧ GL ≤ G'.length ∧ (∀ b, b < GL → G'[b]? = G[b]?) ∧ GS 6 G' ov qo (flatR ((X.take i).map (kerR rows S))) ∧ GL ≤ qo) ?_ (freeF S.js).length _ ⟨_, G, .snil, GL, 0, rfl, rfl, rfl, rfl, rfl, rfl, rfl, rfl, rfl, by omega, by omega, fun b _ => rfl, .inl ⟨rfl, hflat0⟩, Nat.le_refl _⟩
  obtain ⟨Gs, hGs⟩ : ∃ Gs, Gs = G := ⟨_, rfl⟩
  rw [← hGs] at k1 hlat hqG hGL l1 ⊢
  clear hGs G g0 g5 g6 g7 g8 g9 g10 f
  rintro m _ ⟨T, G, ov, qo, i, rfl, hT, g0, g5, g6, g7, g9, g13, g14, hm, hGl, hkp, hgs, hqo⟩
  obtain ⟨f, rfl⟩ := ex149 hT
  clear hT
  replace g0 : f 0 = l := g0
  replace g5 : f 5 = .pref 1 0 0 := g5
  replace g6 : f 6 = fv := g6
  replace g7 : f 7 = .int .i64 S.d := g7
  replace g9 : f 9 = rv := g9
  replace g13 : f 13 = ov := g13
  replace g14 : f 14 = .int .i64 (i : Nat) := g14
  simp only [g0, g5, g6, g7, g9, g13, g14]
  by_cases hin : i < (freeF S.js).length
  ·obtain ⟨gi, ai1, ai2, ai3, hRi⟩ := hlat.at (i := i) (by omega)
   have hai2 : ∀ c : List AV, Zz.look (G ++ [some ⟨0, c⟩]) q gi = some xs := fun c => (look_left (by omega)).trans ((look_of_get (hkp q (by omega))).trans ai2)
   have hxc := hRi.cell
   unfold AV.cells at hxc
   have hil := hXB.row i hin
   have hRl := hRi.lt
   generalize hxe : xs.getD i und = x at *
   have hz6 : ([.int .i64 0, .int .i64 0, .int .i64 0, .int .i64 0, .int .i64 0, .int .i64 0] : List AV) = icells (List.replicate 6 0) := rfl
   have k1G : ∀ c : List AV, Zz.look (G ++ [some ⟨0, c⟩]) 1 0 = some [iv, jv] := fun c => (look_left (by omega)).trans ((look_of_get (hkp 1 (by omega))).trans k1)
   have hxB : ∀ k, k < (freeF S.js).length → 0 ≤ (X.getD i []).getD k 0 ∧ (X.getD i []).getD k 0 ≤ 1000000000 := fun k hk => by
    have := hXB.el i k hin hk
    have e : ent X i k = (X.getD i []).getD k 0 := rfl
    rw [e] at this
    omega
   repeat' (first | (refine WO.opE (by intro; simp (disch := omega) only [go_sem, hz6]; rfl) (by simp only [pt8, pt0, pt3, pt4, pt6, pt7]; rfl) ?_) | (refine WO.opE (by intro; exact ev_lenS (by simp only [go_sem]; first | rfl | assumption)) (by simp only [pt8, pt5]; rfl) ?_) | (refine WC.seq ?_) | (refine WC.region ?_) | (refine WO.nil ?_) | (simp only [fl1]) | (refine WC.skip ?_) | (refine WC.block ?_) | (refine WC.em2 rfl (fun hp => ?_) (fun hp => ?_) <;> try (exfalso; first | omega | contradiction)))
   refine WC.loopI (fun m2 s => ∃ T w n, s = ⟨T, G ++ [some ⟨0, icells w⟩], []⟩ ∧ T.length = 149 ∧ gt T 0 = l ∧ gt T 5 = .pref 1 0 0 ∧ gt T 6 = fv ∧ gt T 7 = .int .i64 S.d ∧ gt T 9 = rv ∧ gt T 13 = ov ∧ gt T 14 = .int .i64 (i : Nat) ∧ gt T 15 = .pref G.length 0 0 ∧ gt T 16 = .int .i64 (n : Nat) ∧ m2 + n = (freeF S.js).length ∧ w.length = 6 ∧ (∀ t, t < n → w.getD ((freeF S.js).getD t 0) 0 = (X.getD i []).getD t 0)) ?_ (freeF S.js).length _ ⟨_, List.replicate 6 0, 0, rfl, rfl, rfl, rfl, rfl, rfl, rfl, rfl, rfl, rfl, rfl, by omega, rfl, fun t ht => by omega⟩
   clear g0 g5 g6 g7 g9 g13 g14 f
   rintro m2 _ ⟨T, w, n, rfl, hT, g0, g5, g6, g7, g9, g13, g14, g15, g16, hm2, hwl, hw1⟩
   obtain ⟨f, rfl⟩ := ex149 hT
   clear hT
   replace g0 : f 0 = l := g0
   replace g5 : f 5 = .pref 1 0 0 := g5
   replace g6 : f 6 = fv := g6
   replace g7 : f 7 = .int .i64 S.d := g7
   replace g9 : f 9 = rv := g9
   replace g13 : f 13 = ov := g13
   replace g14 : f 14 = .int .i64 (i : Nat) := g14
   replace g15 : f 15 = .pref G.length 0 0 := g15
   replace g16 : f 16 = .int .i64 (n : Nat) := g16
   simp only [g0, g5, g6, g7, g9, g13, g14, g15, g16]
   by_cases hn : n < (freeF S.js).length
   ·obtain ⟨t2, hat2⟩ := hfv.at hn
    have hj6 := (free_mem.1 (getD_mem hn)).1
    obtain ⟨g1', o1, c1, b1, b2, b3, _⟩ := hRi.at (i := n) (by omega)
    have b2G : ∀ c : List AV, Zz.look (G ++ [some ⟨0, c⟩]) (bs.getD i 0) g1' = some c1 := fun c => (look_left (by omega)).trans ((look_of_get (hkp _ (by omega))).trans b2)
    have hovw := icells_over (r := w) (j := (freeF S.js).getD n 0) (by omega) ((X.getD i []).getD n 0)
    repeat' (first | (refine WO.opE (by intro; simp (disch := omega) only [go_sem, hat2, ai1, hai2, ai3, b1, b2G, b3, Nat.mul_one]; rfl) (by simp only [pt8, pt0, pt1, pt2, pt3, pt4, pt5, pt6, pt7]; rfl) ?_) | (refine WO.opN (by intro; simp (disch := omega) only [go_sem, Option.bind_eq_bind, app_s0, hovw, lk0]; rfl) ?_) | (refine WO.opE (by intro; exact ev_lenS (by simp only [go_sem]; first | rfl | assumption)) (by simp only [pt8, pt3]; rfl) ?_) | (refine WC.seq ?_) | (refine WC.region ?_) | (refine WO.nil ?_) | (simp only [fl1, fl10]) | (refine WC.calm rfl ?_) | (refine WC.skip ?_) | (refine WC.block ?_) | (refine WC.em2 rfl (fun hp => ?_) (fun hp => ?_) <;> try (exfalso; first | omega | contradiction)))
    exact ⟨m2 - 1, by omega, _, w.set ((freeF S.js).getD n 0) ((X.getD i []).getD n 0), n + 1, rfl, rfl, rfl, rfl, rfl, rfl, rfl, rfl, rfl, rfl, rfl, by omega, by simpa using hwl, fun t ht => by
     by_cases e : t = n
     ·subst e; rw [getD_set_self (by omega)]
     ·rw [getD_set_ne fun h => e (getD_inj (free_nodup _) hn (by omega) h).symm]
      exact hw1 t (by omega)⟩
   ·have hne : n = (freeF S.js).length := by omega
    subst hne
    repeat' (first | (refine WO.opE (by intro; simp (disch := omega) only [go_sem]; rfl) (by simp only [pt8, pt1, pt2, pt4]; rfl) ?_) | (refine WO.opE (by intro; exact ev_lenS (by simp only [go_sem]; first | rfl | assumption)) (by simp only [pt8, pt3]; rfl) ?_) | (refine WC.seq ?_) | (refine WC.region ?_) | (refine WO.nil ?_) | (simp only [fl1]) | (refine WC.exit ?_) | (refine WC.block ?_) | (refine WC.em2 rfl (fun hp => ?_) (fun hp => ?_) <;> try (exfalso; first | omega | contradiction)))
    refine WC.loopI (fun m3 s => ∃ T w k, s = ⟨T, G ++ [some ⟨0, icells w⟩], []⟩ ∧ T.length = 149 ∧ gt T 0 = l ∧ gt T 5 = .pref 1 0 0 ∧ gt T 6 = fv ∧ gt T 7 = .int .i64 S.d ∧ gt T 9 = rv ∧ gt T 13 = ov ∧ gt T 14 = .int .i64 (i : Nat) ∧ gt T 15 = .pref G.length 0 0 ∧ gt T 17 = .int .i64 (k : Nat) ∧ m3 + k = S.js.length ∧ w.length = 6 ∧ (∀ t, t < (freeF S.js).length → w.getD ((freeF S.js).getD t 0) 0 = (X.getD i []).getD t 0) ∧ (∀ t, t < k → w.getD (S.js.getD t 0) 0 = (-sumK rows S (X.getD i []) t (freeF S.js).length).tdiv S.d)) ?_ S.js.length _ ⟨_, w, 0, rfl, rfl, rfl, rfl, rfl, rfl, rfl, rfl, rfl, rfl, rfl, by omega, hwl, hw1, fun t ht => by omega⟩
    clear g0 g5 g6 g7 g9 g13 g14 g15 g16 f hwl hw1
    rintro m3 _ ⟨T, w, k, rfl, hT, g0, g5, g6, g7, g9, g13, g14, g15, g17, hm3, hwl, hw0, hw1⟩
    obtain ⟨f, rfl⟩ := ex149 hT
    clear hT
    replace g0 : f 0 = l := g0
    replace g5 : f 5 = .pref 1 0 0 := g5
    replace g6 : f 6 = fv := g6
    replace g7 : f 7 = .int .i64 S.d := g7
    replace g9 : f 9 = rv := g9
    replace g13 : f 13 = ov := g13
    replace g14 : f 14 = .int .i64 (i : Nat) := g14
    replace g15 : f 15 = .pref G.length 0 0 := g15
    replace g17 : f 17 = .int .i64 (k : Nat) := g17
    simp only [g0, g5, g6, g7, g9, g13, g14, g15, g17]
    by_cases hk : k < S.js.length
    ·obtain ⟨tj, hatj⟩ := hjv.at hk
     have hj6 : S.js.getD k 0 < 6 := hB.j.2 _ (getD_mem hk)
     have htb := fun n (hn : n < (freeF S.js).length) => tab_bd hB hv (fun i hi => hl.six hi) hk hn
     have hsb := sumK_bd (k := k) hxB htb
     repeat' (first | (refine WO.opE (by intro; simp (disch := omega) only [go_sem, k1G]; rfl) (by simp only [pt8, pt2, pt3, pt4, pt5, pt7]; rfl) ?_) | (refine WO.opE (by intro; exact ev_lenS (by simp only [go_sem]; first | rfl | assumption)) (by simp only [pt8, pt6]; rfl) ?_) | (refine WC.seq ?_) | (refine WC.region ?_) | (refine WO.nil ?_) | (simp only [fl1]) | (refine WC.skip ?_) | (refine WC.block ?_) | (refine WC.em2 rfl (fun hp => ?_) (fun hp => ?_) <;> try (exfalso; first | omega | contradiction)))
     refine WC.loopI (fun m4 s => ∃ T n, s = ⟨T, G ++ [some ⟨0, icells w⟩], []⟩ ∧ T.length = 149 ∧ gt T 0 = l ∧ gt T 5 = .pref 1 0 0 ∧ gt T 6 = fv ∧ gt T 7 = .int .i64 S.d ∧ gt T 9 = rv ∧ gt T 13 = ov ∧ gt T 14 = .int .i64 (i : Nat) ∧ gt T 15 = .pref G.length 0 0 ∧ gt T 17 = .int .i64 (k : Nat) ∧ gt T 18 = .int .i64 (sumK rows S (X.getD i []) k n) ∧ gt T 19 = .int .i64 (n : Nat) ∧ m4 + n = (freeF S.js).length) ?_ (freeF S.js).length _ ⟨_, 0, rfl, rfl, rfl, rfl, rfl, rfl, rfl, rfl, rfl, rfl, rfl, rfl, rfl, by omega⟩
     clear g0 g5 g6 g7 g9 g13 g14 g15 g17 f
     rintro m4 _ ⟨T, n, rfl, hT, g0, g5, g6, g7, g9, g13, g14, g15, g17, g18, g19, hm4⟩
     obtain ⟨f, rfl⟩ := ex149 hT
     clear hT
     replace g0 : f 0 = l := g0
     replace g5 : f 5 = .pref 1 0 0 := g5
     replace g6 : f 6 = fv := g6
     replace g7 : f 7 = .int .i64 S.d := g7
     replace g9 : f 9 = rv := g9
     replace g13 : f 13 = ov := g13
     replace g14 : f 14 = .int .i64 (i : Nat) := g14
     replace g15 : f 15 = .pref G.length 0 0 := g15
     replace g17 : f 17 = .int .i64 (k : Nat) := g17
     replace g18 : f 18 = .int .i64 (sumK rows S (X.getD i []) k n) := g18
     replace g19 : f 19 = .int .i64 (n : Nat) := g19
     simp only [g0, g5, g6, g7, g9, g13, g14, g15, g17, g18, g19]
     have hsk := hsb n (by omega)
     by_cases hn : n < (freeF S.js).length
     ·obtain ⟨t2, hat2⟩ := hfv.at hn
      have hj6' := (free_mem.1 (getD_mem hn)).1
      obtain ⟨g1', o1, c1, b1, b2, b3, _⟩ := hRi.at (i := n) (by omega)
      have b2G : ∀ c : List AV, Zz.look (G ++ [some ⟨0, c⟩]) (bs.getD i 0) g1' = some c1 := fun c => (look_left (by omega)).trans ((look_of_get (hkp _ (by omega))).trans b2)
      obtain ⟨sv, hsv, c94⟩ := s94 (j := (freeF S.js).getD n 0) hjv (by omega) hk
      have c89b := fun m => s89 (m := m) (c := 2) hl hiv hsv hB.i (by decide) (okW_set (fun i hi => hl.six hi) hB.j k hj6') (okP_two hv hB.nd hB.i (by omega)) hv.2.1 (by omega) (by simp; omega) (by omega) (hl.byVal _) (hiv.byV _) (hsv.byV _)
      rw [← tab_at hn] at c89b
      have hse : sumK rows S (X.getD i []) k (n + 1) = sumK rows S (X.getD i []) k n + (tabF rows S k).getD n 0 * (X.getD i []).getD n 0 := rfl
      have hmul := mul_bd (htb n hn) (hxB n hn)
      rw [Int.mul_comm] at hse hmul
      have hsk1 := hsb (n + 1) (by omega)
      repeat' (first | (refine WO.opE (by intro; simp (disch := omega) only [go_sem]; rfl) (by simp only [pt8, pt2, pt3, pt5, pt6, pt7]; rfl) ?_) | (refine WO.opE (by intro; exact ev_lenS (by simp only [go_sem]; first | rfl | assumption)) (by simp only [pt8, pt4]; rfl) ?_) | (refine WT.spec rfl rfl (fun V => c94 _) (by simp only [pt8, pt2]; rfl) ?_) | (refine WT.spec rfl rfl (fun V => c89b _) (by simp only [pt8, pt3]; rfl) ?_) | (refine WC.seq ?_) | (refine WC.region ?_) | (refine WO.nil ?_) | (simp only [fl1, fl4, fl10]) | (refine WC.drawT ?_) | (refine WT.nil ?_) | (refine WT.free rfl (by intro; simp (disch := omega) only [go_sem, ai1, hai2, ai3, b1, b2G, b3, k1G, hat2]; rfl) rfl (by simp only [pt8, pt0, pt1, pt2, pt3, pt4, pt5, pt6, pt7]; rfl) ?_) | (refine WT.big rfl rfl (by intro; simp (disch := omega) only [go_sem, hai2, ai3, b2G, b3, k1G]; rfl) (by simp (disch := omega) only [go_sem, touch]; rfl) (by first | exact .inl rfl | exact .inr (apart_nil _) | exact .inr trivial | (right; apply apart_mk; simp only [apartL, List.nil_append, List.cons_append, List.getElem?_cons_succ, List.getElem?_cons_zero, Tch.free, and_true, true_and]; first | done | omega)) (by simp only [pt8, pt1, pt2, pt4, pt7]; rfl) ?_) | (refine WC.skip ?_) | (refine WC.block ?_) | (refine WC.em2 rfl (fun hp => ?_) (fun hp => ?_) <;> try (exfalso; first | omega | contradiction)))
      exact ⟨m4 - 1, by omega, _, n + 1, rfl, rfl, rfl, rfl, rfl, rfl, rfl, rfl, rfl, rfl, rfl, congrArg (AV.int .i64) hse.symm, rfl, by omega⟩
     ·have hne : n = (freeF S.js).length := by omega
      subst hne
      have hd0' : ¬ S.d = 0 := hB.ne
      have htdb := tdiv_bd (a := -sumK rows S (X.getD i []) k (freeF S.js).length) (M := 9000000000000000000) hd0' (by omega)
      have hovw := icells_over (r := w) (j := S.js.getD k 0) (by omega) ((-sumK rows S (X.getD i []) k (freeF S.js).length).tdiv S.d)
      repeat' (first | (refine WO.opE (by intro; simp (disch := omega) only [go_sem, k1G, hatj, hd0', if_false, Int.zero_sub, Nat.mul_one]; rfl) (by simp only [pt8, pt0, pt1, pt2, pt3, pt4, pt5, pt6, pt7]; rfl) ?_) | (refine WO.opN (by intro; simp (disch := omega) only [go_sem, Option.bind_eq_bind, app_s0, hovw, lk0]; rfl) ?_) | (refine WO.opE (by intro; exact ev_lenS (by simp only [go_sem]; first | rfl | assumption)) (by simp only [pt8, pt4]; rfl) ?_) | (refine WC.seq ?_) | (refine WC.region ?_) | (refine WO.nil ?_) | (simp only [fl1, fl3, fl6, fl9, fl10]) | (refine WC.calm rfl ?_) | (refine WC.exit ?_) | (refine WC.em2 rfl (fun hp => ?_) (fun hp => ?_) <;> try (exfalso; first | omega | contradiction)))
      exact ⟨m3 - 1, by omega, _, w.set (S.js.getD k 0) ((-sumK rows S (X.getD i []) k (freeF S.js).length).tdiv S.d), k + 1, rfl, rfl, rfl, rfl, rfl, rfl, rfl, rfl, rfl, rfl, rfl, by omega, by simpa using hwl, fun t ht => by
       rw [getD_set_ne (js_ne hk ht)]
       exact hw0 t ht, fun t ht => by
       by_cases e : t = k
       ·subst e; rw [getD_set_self (by omega)]
       ·rw [getD_set_ne fun h => by have := getD_inj hB.j.1 hk (by omega) h; omega]
        exact hw1 t (by omega)⟩
    ·have hke : k = S.js.length := by omega
     subst hke
     have hwe : w = kerR rows S (X.getD i []) := kerR_of hwl hB.j.1 hw1 hw0
     have hnext : (X.take i).map (kerR rows S) ++ [w] = (X.take (i + 1)).map (kerR rows S) := by
      rw [hwe, List.take_add_one, List.map_append, List.getElem?_eq_getElem (by omega), List.getD_eq_getElem?_getD, List.getElem?_eq_getElem (by omega)]
      rfl
     have hmlw : (icells w).length = 6 := by rw [icells_len, hwl]
     have hcutw := icells_cut hwl
     have hovw := fun x0 x1 x2 x3 x4 x5 => icells_over6 hwl (x0 := x0) (x1 := x1) (x2 := x2) (x3 := x3) (x4 := x4) (x5 := x5)
     obtain ⟨ov', q', H2, a1, a2, a3, a4, a5⟩ := rowPush (L := []) hgs kerR_six hwl (by simp; omega) [some ⟨0, icells w⟩, some ⟨0, icells w⟩] (lk1 rfl)
     rw [hnext] at a2
     simp only [List.length_cons, List.length_nil, Nat.zero_add, Nat.reduceAdd] at a3 a4
     have hk5 : ∀ j, j < G.length → j ≠ qo → H2[j]? = G[j]? := fun j h1 h2 => by rw [a5 j (by simp; omega) h2, List.getElem?_append_left h1]
     repeat' (first | (refine WO.opE (by intro; simp (disch := omega) only [go_sem, fillP, Option.bind_eq_bind, List.append_assoc, zeros, List.length_append, k1G, hcutw, hovw, hmlw, lk0]; rfl) (by simp only [pt8, pt0, pt1, pt2, pt3, pt4, pt5, pt6, pt7]; rfl) ?_) | (refine WO.opE (by intro; exact ev_lenS (by simp only [go_sem]; first | rfl | assumption)) (by simp only [pt8, pt6]; rfl) ?_) | (refine WO.opE (by intro; rw [ev_append]; exact a1) (by simp only [pt8, pt3]; rfl) ?_) | (refine WC.seq ?_) | (refine WC.region ?_) | (refine WO.nil ?_) | (simp only [fl1, fl10]) | (refine WC.exit ?_) | (refine WC.em2 rfl (fun hp => ?_) (fun hp => ?_) <;> try (exfalso; first | omega | contradiction)))
     exact ⟨m - 1, by omega, _, H2, ov', q', i + 1, rfl, rfl, rfl, rfl, rfl, rfl, rfl, rfl, rfl, by omega, by omega, fun b hb => by rw [hk5 b (by omega) (by omega), hkp b hb], a2, by omega⟩
  ·have hie : i = (freeF S.js).length := by omega
   subst hie
   rw [List.take_of_length_le (by omega), ← hker] at hgs
   repeat' (first | (refine WO.opE (by intro; simp (disch := omega) only [go_sem]; rfl) (by simp only [pt8, pt2, pt3, pt4, pt6]; rfl) ?_) | (refine WO.opE (by intro; exact ev_lenS (by simp only [go_sem]; first | rfl | assumption)) (by simp only [pt8, pt5]; rfl) ?_) | (refine WC.seq ?_) | (refine WC.region ?_) | (refine WO.nil ?_) | (simp only [fl1]) | (refine WC.exit ?_) | (refine WC.ret ?_) | (refine WC.em2 rfl (fun hp => ?_) (fun hp => ?_) <;> try (exfalso; first | omega | contradiction)))
   exact ⟨_, rfl, ov, qo, rfl, hgs⟩
noncomputable def E22 : Env := E21.put 31 (borrowE E21 31)
end Go.Proofs.Ytnilimjkibimcaa

