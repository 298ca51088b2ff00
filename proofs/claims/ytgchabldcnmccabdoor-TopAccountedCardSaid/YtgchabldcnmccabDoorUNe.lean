import Derived.Test.YtgchabldcnmccabDoorUNA

set_option linter.unusedSimpArgs false
set_option linter.unusedVariables false

namespace Go.Proofs.YtgchabldcnmccabDoor
open Go.Zz
set_option maxRecDepth 100000
set_option maxHeartbeats 8000000
def IX (G : Hp) (N7 : Nat) (x : AV) (r : List Int) : Prop := (x = .snil /\ r = []) \/ ∃ b, 3 <= b /\ b ≠ N7 /\ b < G.length /\ RowM G x b r
theorem IX.im {G : Hp} {N7 : Nat} {x : AV} {r : List Int} (h : IX G N7 x r) (hG : 0 < G.length) : ∃ b, b < G.length /\ IM G x b r := by
 rcases h with h | ⟨b, _, _, h1, h2⟩
 ·exact ⟨0, hG, .inl h⟩
 ·exact ⟨b, h1, .inr h2⟩
theorem IX.of_gs {G : Hp} {N7 q : Nat} {v : AV} {r : List Int} (h : GS 1 G v q (zaa r)) (h3 : 3 <= q) (h7 : q ≠ N7) : IX G N7 v r := by
 by_cases hr : 0 < r.length
 ·have := RowM.of_gs h hr;exact .inr ⟨q, h3, h7, this.lt, this⟩
 ·have hr0 : r = [] := List.length_eq_zero_iff.1 (by omega);subst hr0
  rcases h with ⟨rfl, _⟩ | ⟨g, rfl, _, h2⟩ | ⟨g, n, _, h1, h2, _⟩
  ·exact .inl ⟨rfl, rfl⟩
  ·exact .inr ⟨q, h3, h7, zah h2, g, 0, some 0, [], rfl, h2, by simp, rfl, .inr rfl⟩
  ·simp [zaa] at h1; omega
structure KM (G : Hp) (fr fc tc : List AV) (rows : List (List Int)) (S : Fr) (N7 k : Nat) : Prop where
 k0 : Zz.look G 0 0 = some fr
 k1 : Zz.look G 1 0 = some fc
 k2 : Zz.look G 2 0 = some tc
 tl : tc.length = S.js.length
 tn : ∀ t, k <= t -> t < S.js.length -> tc.getD t und = .snil
 td : ∀ t, t < k -> IX G N7 (tc.getD t und) (zdi rows S t)
theorem KM.keep {G G' : Hp} {fr fc tc : List AV} {rows : List (List Int)} {S : Fr} {N7 k : Nat} (h : KM G fr fc tc rows S N7 k) (hN : 3 <= N7) (hl : G.length <= G'.length) (hk : ∀ b, b < G.length -> b ≠ N7 -> G'[b]? = G[b]?) : KM G' fr fc tc rows S N7 k := by
 refine ⟨(zad (hk 0 (zah h.k0) (by omega))).trans h.k0, (zad (hk 1 (zah h.k1) (by omega))).trans h.k1, (zad (hk 2 (zah h.k2) (by omega))).trans h.k2, h.tl, h.tn, fun t ht => ?_⟩
 rcases h.td t ht with h | ⟨b, h1, h2, h3, h4⟩
 ·exact .inl h
 ·exact .inr ⟨b, h1, h2, by omega, h4.same (hk b h3 h2)⟩
theorem znm (n : Nat) : za0 [AV.snil] n = List.replicate n .snil := by
 induction n with
 | zero => rfl
 | succ n ih => rw [za0, ih]; rfl
theorem zs2 {call : AV -> List AV -> Mem -> Option (AV × Mem)} {T : List AV} {G : Hp} {L : List (Option ALoop)} {n : Nat} {l c : Opd} (hn : n <= 8) (h1 : l.ev T = .int .i64 (n : Int)) (h2 : c.ev T = .int .i64 (n : Int)) :
  zaW call T ⟨G, L⟩ (.makeSlice 1 24 [.snil] l c) = some (.sref G.length 0 0 1 n (some n), ⟨G ++ [some ⟨0, List.replicate n .snil⟩], L⟩) := by
 rw [zbE, h1, h2]
 show (if _ then _ else _) = _
 rw [if_pos ⟨by omega, by omega, by omega, by omega⟩, <- znm];rfl
theorem zhm {c : List AV} {l : List Nat} {k : Nat} (h : c.take k = zas l) (hk : k = l.length) {n : Nat} (hn : n < l.length) : c[n]? = some (.int .i64 ((l.getD n 0 : Nat) : Int)) := by
 have := congrArg (fun l => l[n]?) h;simp only [List.getElem?_take, if_pos (show n < k by omega)] at this;rw [this, zd6 hn]
theorem f30 {l : AV} {rows : List (List Int)} (hl : RwL l rows) (hv : VM rows) : WF E19 (.func 20 [] []) [l] ⟨[], []⟩ fun y m' => ∃ v q, y = .tuple [v, .int .i64 0] /\ GS 6 m'.heap v q (zbi (zf1 rows)) := by
 have hr8 := hv.1;have hlen := hl.len
 have c25 := fun m => s25 (m := m) hl (by omega)
 rw [decide_eq_true hv] at c25;obtain ⟨ov, hov, c95⟩ := s95;obtain ⟨hok, iv, jv, hiv, hjv, c82⟩ := s82 hl hv hov zj5 (by decide);have hF : frame rows [5, 4, 3, 2, 1, 0] ([5, 4, 3, 2, 1, 0] : List Nat).length = zhj rows := rfl;rw [hF] at hok hiv hjv c82;have hB := hok.toB hv (fun i hi => hl.six hi) zj5 (by decide);clear hok hF;have hker : zf1 rows = (zlw rows (zhj rows) (zhj rows).js.length).map (zeC rows (zhj rows)) := rfl;generalize zhj rows = S at *;obtain ⟨hd0, hd9⟩ := hB.abs;have hn6 := hB.six;have hjl := hjv.len;have hil6 := hB.len;have hs6 := zps S.js;have hbd := hB.bd
 have c81 := fun m => s81 (m := m) (x := S.d) (by omega)
 have hlc := hl.cells;have hic := hiv.cells;have hjc := hjv.cells;unfold AV.cells at hlc hic hjc
 have c83 := fun m => s83r (m := m)
 refine zx0 rfl (zaz Tryd.func20 zsk) (by show 1 <= 138; decide) ?_;unfold ir20;simp only [zaw, List.replicate, zNA, zAN]
 repeat' (first |refine zE (by intro; simp (disch := omega) only [go_sem]; rfl) ?_ |refine zx2 (by intro; simp (disch := omega) only [go_sem, Zz.look, Option.bind_eq_bind, zh2, Nat.reduceAdd]; rfl) ?_ |refine zS rfl rfl (c25 _) ?_ |refine zS rfl rfl (c95 _) ?_ |refine zS rfl rfl (c82 _) ?_ |refine zS rfl rfl (c83 _) ?_ |refine zy1 ?_ |refine zy2 ?_ |refine zy3 ?_ |(simp only [fl1]) |refine zy9 rfl ?_ |refine zy6 ?_)
 refine WO.call rfl rfl ((f96 (fv := .func 42 [] [.pref 0 0 0]) (p := fun v => decide (v ∈ S.js)) (b := 1) (g := 0) (l := [0, 1, 2, 3, 4, 5]) (by decide) rfl rfl (fun G hG v => f97 (l := l) (iv := iv) (d := S.d) hjv (by omega) v ((zad (hG 0 (by decide))).trans rfl))).mono ?_);rintro y m' ⟨G0, fc, rfl, rfl, k1, hfl, hft, hG0l, hG0k⟩;simp only [pt8, pt4];have hfr : ([0, 1, 2, 3, 4, 5].filter fun v => !decide (v ∈ S.js)) = zam S.js := rfl;rw [hfr] at hft ⊢;have k0 : Zz.look G0 0 0 = some [l, iv, jv, .int .i64 S.d] := (zad (hG0k 0 (by decide))).trans rfl;have hG0l' : G0.length = 2 := hG0l;clear hG0k hfr hG0l
 have hfc : ∀ n, n < (zam S.js).length -> fc[n]? = some (.int .i64 (((zam S.js).getD n 0 : Nat) : Int)) := fun n hn => zhm hft rfl hn
 repeat' (first |refine zE (by intro; simp (disch := omega) only [go_sem, Nat.reduceAdd, k0, hG0l']; rfl) ?_ |refine WO.opE (by intro; exact zaf (by simp only [go_sem]; first | rfl | assumption)) (by simp only [pt8, pt7]; rfl) ?_ |refine zE (by intro; exact zs2 (by omega) rfl rfl) ?_ |refine zy1 ?_ |refine zy2 ?_ |refine zy3 ?_ |(simp only [fl1]))
 refine WO.call rfl rfl ((f84 (E := E19) rfl (zaz Tryd.func44 zqN) (n := (zam S.js).length) (d := 1) (by omega)).mono ?_);rintro _ m' ⟨rv0, q0, xs0, bs0, H1, rfl, rfl, hlat0, hext, hbs0, hq0, hqH0⟩;simp only [pt8, pt3]
 have hrc0 : rv0.cells = some [rv0] := by
  rcases hlat0.gs with ⟨rfl, _⟩ | ⟨g, rfl, _⟩ | ⟨g, n, rfl, _⟩ <;> rfl
 unfold AV.cells at hrc0;have k0' : Zz.look H1 0 0 = some [l, iv, jv, .int .i64 S.d] := hext.look ((zap (zah k0)).trans k0);have k1' : Zz.look H1 1 0 = some fc := hext.look ((zap (zah k1)).trans k1)
 have k2' : Zz.look H1 2 0 = some (List.replicate S.js.length .snil) := by
  refine hext.look ?_
  have : (2 : Nat) = G0.length := by omega
  rw [this];exact lk0 rfl
 have hH1 : 3 <= H1.length := by have := hext.1; simp at this; omega
 have hq03 : 3 <= q0 := by simp at hq0; omega
 have hbs03 : ∀ b ∈ bs0, 3 <= b := fun b hb => by have := hbs0 b hb; simp at this; omega
 repeat' (first |refine zE (by intro; simp (disch := omega) only [go_sem, Nat.reduceAdd, k0', zap]; rfl) ?_ |refine zx2 (by intro; simp (disch := omega) only [go_sem, Option.bind_eq_bind, zbB, zbG, Nat.reduceAdd, lk0]; rfl) ?_ |refine WO.opE (by intro; exact zaf (by simp only [go_sem]; first | rfl | assumption)) (by simp only [pt8, pt6]; rfl) ?_ |refine zy1 ?_ |refine zy2 ?_ |refine zy3 ?_ |(simp only [fl1]) |refine zy5 ?_)
 obtain ⟨N7, hN7⟩ : ∃ N7, N7 = H1.length := ⟨_, rfl⟩
 have hKM0 : KM (H1 ++ [some ⟨0, [.int .i64 1, rv0]⟩]) [l, iv, jv, .int .i64 S.d] fc (List.replicate S.js.length .snil) rows S N7 0 :=
  ⟨(zap (by omega)).trans k0', (zap (by omega)).trans k1', (zap (by omega)).trans k2', List.length_replicate, fun t _ ht => by simp [List.getD_eq_getElem?_getD, ht], fun t ht => by omega⟩
 have hlat1 : LatM (H1 ++ [some ⟨0, [.int .i64 1, rv0]⟩]) rv0 q0 xs0 bs0 (zlw rows S 0) := hlat0.keep (List.getElem?_append_left hqH0) fun b hb => List.getElem?_append_left (hlat0.blt hb)
 have k7' : Zz.look (H1 ++ [some ⟨0, [.int .i64 1, rv0]⟩]) N7 0 = some [.int .i64 1, rv0] := by rw [hN7]; exact lk0 rfl
 refine zx9 (fun m st => ∃ T G tc dl rv q xs bs k, st = ⟨T, G, []⟩ /\ T.length = 138 /\ gt T 4 = .pref 0 0 0 /\ gt T 5 = .sref 1 0 0 1 (zam S.js).length (some 6) /\ gt T 6 = .sref 2 0 0 1 S.js.length (some S.js.length) /\ gt T 7 = .pref N7 0 0 /\ gt T 37 = jv /\ gt T 38 = .int .i64 (S.js.length : Nat) /\ gt T 39 = .int .i64 (k : Nat) /\ m + k = S.js.length /\ KM G [l, iv, jv, .int .i64 S.d] fc tc rows S N7 k /\ Zz.look G N7 0 = some [.int .i64 dl, rv] /\ LatM G rv q xs bs (zlw rows S k) /\ q < G.length /\ 3 <= q /\ ∀ b ∈ bs, 3 <= b) ?_ S.js.length _ ⟨_, _, _, 1, rv0, q0, xs0, bs0, 0, rfl, rfl, rfl, rfl, by first | rfl | (rw [hG0l']; rfl), by rw [hN7]; rfl, rfl, rfl, rfl, by omega, hKM0, k7', hlat1, by rw [List.length_append]; omega, hq03, hbs03⟩
 have hN3 : 3 <= N7 := by omega
 clear hKM0 hlat1 k7' hlat0 k0' k1' k2' hext hbs0 hq0 hqH0 hrc0 hH1 hN7 k0 k1 hG0l' hbs03 hq03;rintro m _ ⟨T, G, tc, dl, rv, q, xs, bs, k, rfl, hT, g4, g5, g6, g7, g37, g38, g39, hm, hKM, k7, hlat, hqG, hq3, hbs3⟩;obtain ⟨f, rfl⟩ := exG hT;clear hT;change f 4 = _ at g4;change f 5 = _ at g5;change f 6 = _ at g6;change f 7 = _ at g7;change f 37 = _ at g37;change f 38 = _ at g38;change f 39 = _ at g39;simp only [tb, Nat.reduceAdd, g4, g5, g6, g7, g37, g38, g39];have k0 := hKM.k0;have k1 := hKM.k1;have hXB := zj4 hB k
 by_cases hk : k < S.js.length
 ·have htn := hKM.tn k (Nat.le_refl _) hk;have htl := hKM.tl
  have hgs0 : GS 1 G (tc.getD k und) G.length (zaa ((zdi rows S k).take 0)) := by rw [htn]; exact .inl ⟨rfl, rfl⟩
  have hix2 : zaj 1 (.sref 2 0 0 1 S.js.length (some S.js.length)) (.int .i64 (k : Int)) = some (.pref 2 0 k) := by rw [zbl, zbb hk]; simp
  have htab := zmR rows S k;have h7l := zah k7
  repeat' (first |refine zE (by intro; simp (disch := omega) only [go_sem]; rfl) ?_ |refine WO.opE (by intro; exact zaf (by simp only [go_sem]; first | rfl | assumption)) (by simp only [pt8, pt3]; rfl) ?_ |refine zy1 ?_ |refine zy2 ?_ |refine zy3 ?_ |(simp only [fl1]) |refine zy6 ?_ |refine zy5 ?_ |refine zy4 rfl (fun hp => ?_) (fun hp => ?_) <;> try (exfalso; first | omega | contradiction))
  refine zx9 (fun m2 st => ∃ T G2 v q2 n, st = ⟨T, G2, []⟩ /\ T.length = 138 /\ gt T 4 = .pref 0 0 0 /\ gt T 5 = .sref 1 0 0 1 (zam S.js).length (some 6) /\ gt T 6 = .sref 2 0 0 1 S.js.length (some S.js.length) /\ gt T 7 = .pref N7 0 0 /\ gt T 8 = .int .i64 (k : Nat) /\ gt T 37 = jv /\ gt T 38 = .int .i64 (S.js.length : Nat) /\ gt T 39 = .int .i64 (k : Nat) /\ gt T 42 = .sref 1 0 0 1 (zam S.js).length (some 6) /\ gt T 43 = .int .i64 ((zam S.js).length : Nat) /\ gt T 44 = .int .i64 (n : Nat) /\ m2 + n = (zam S.js).length /\ G.length <= G2.length /\ GS 1 G2 v q2 (zaa ((zdi rows S k).take n)) /\ G.length <= q2 /\ Zz.look G2 2 0 = some (tc.set k v) /\ ∀ b, b < G.length -> b ≠ 2 -> G2[b]? = G[b]?) ?_ (zam S.js).length _ ⟨_, G, tc.getD k und, G.length, 0, rfl, rfl, rfl, rfl, rfl, rfl, rfl, rfl, rfl, rfl, rfl, rfl, rfl, by omega, Nat.le_refl _, hgs0, Nat.le_refl _, by
   have e : tc.set k (tc.getD k und) = tc := by
    apply List.ext_getElem (by simp);intro i h1 h2
    by_cases e : k = i
    ·subst e; rw [List.getElem_set_self]; simp [List.getD_eq_getElem?_getD, h2]
    ·rw [List.getElem_set_ne e]
   rw [e]; exact hKM.k2, fun b _ _ => rfl⟩
  clear g4 g5 g6 g7 g37 g38 g39 f hgs0;rintro m2 _ ⟨T, G2, v, q2, n, rfl, hT, g4, g5, g6, g7, g8, g37, g38, g39, g42, g43, g44, hm2, hG2, hgs, hq2, k22, hkp⟩;obtain ⟨f, rfl⟩ := exG hT;clear hT;change f 4 = _ at g4;change f 5 = _ at g5;change f 6 = _ at g6;change f 7 = _ at g7;change f 8 = _ at g8;change f 37 = _ at g37;change f 38 = _ at g38;change f 39 = _ at g39;change f 42 = _ at g42;change f 43 = _ at g43;change f 44 = _ at g44;simp only [tb, Nat.reduceAdd, g4, g5, g6, g7, g8, g37, g38, g39, g42, g43, g44];have k02 : Zz.look G2 0 0 = some [l, iv, jv, .int .i64 S.d] := (zad (hkp 0 (zah k0) (by omega))).trans k0;have k12 : Zz.look G2 1 0 = some fc := (zad (hkp 1 (zah k1) (by omega))).trans k1
  have htg : (tc.set k v)[k]? = some v := by rw [List.getElem?_set_self (by omega)]
  have hvc : v.cells = some [v] := by
   rcases hgs with ⟨rfl, _⟩ | ⟨g, rfl, _⟩ | ⟨g, n, rfl, _⟩ <;> rfl
  unfold AV.cells at hvc;have l22 := zah k22
  by_cases hn : n < (zam S.js).length
  ·have hfn := hfc n hn
   have hixn : zaj 1 (.sref 1 0 0 1 (zam S.js).length (some 6)) (.int .i64 (n : Int)) = some (.pref 1 0 n) := by rw [zbl, zbb hn]; simp
   have hj6 := (zbu.1 (zbg hn)).1
   have c87 := fun m => s87 (m := m) (d := S.d) (k := k) (j := (zam S.js).getD n 0) hl hv hiv hjv hB.i hB.nd hB.j (by omega) hn6 hk hj6
   rw [<- zkS hn] at c87;have htb := zn2 hB hv (fun i hi => hl.six hi) hk hn
   have hts : (zdi rows S k).take n ++ [(zdi rows S k).getD n 0] = (zdi rows S k).take (n + 1) := by
    rw [List.take_add_one, List.getD_eq_getElem?_getD, List.getElem?_eq_getElem (by omega)];rfl
   obtain ⟨v', q', H2, a1, a2, a3, a4, a5⟩ := zrZ (L := []) hgs (by rw [List.length_take]; omega) ((zdi rows S k).getD n 0) [some ⟨0, [.int .i64 ((zdi rows S k).getD n 0)]⟩] (lk0 rfl);rw [hts] at a2;simp only [List.length_cons, List.length_nil, Nat.zero_add] at a3 a4 a5;have k23 : Zz.look H2 2 0 = some (tc.set k v) := (zad ((a5 2 (by omega) (by have := zah hKM.k2; omega)).trans (List.getElem?_append_left l22))).trans k22;have hov := zcM (c := tc.set k v) (k := k) (x := v') (by simp; omega);rw [List.set_set] at hov
   have hvc' : v'.cells = some [v'] := by
    rcases a2 with ⟨rfl, _⟩ | ⟨g, rfl, _⟩ | ⟨g, n, rfl, _⟩ <;> rfl
   unfold AV.cells at hvc';have l23 := zah k23;have h2G := zah hKM.k2
   repeat' (first |refine zE (by intro; simp (disch := omega) only [go_sem, hixn, hfn, k12]; rfl) ?_ |refine zP rfl rfl (fun V => c87 _) ?_ |refine zy1 ?_ |refine zy2 ?_ |refine zy3 ?_ |(simp only [fl1, fl4]) |refine zx4 ?_ |refine zF rfl (by intro; simp (disch := omega) only [go_sem, zaZ, Option.bind_eq_bind, za0, zaF, k02, hix2, k22, htg, zl8]; rfl) rfl ?_ |refine WT.big rfl rfl (by intro; simp (disch := omega) only [go_sem, zaZ, Option.bind_eq_bind, za0, zaF, k02, k22, htg, zl8]; rfl) (by simp (disch := omega) only [go_sem, zbh]; rfl) (by first | exact .inl rfl | exact .inr (zan _) | exact .inr trivial | (right; apply zau; simp only [zaR, zNA, zCA, List.getElem?_cons_succ, List.getElem?_cons_zero, Tch.free, and_true, true_and]; first | done | omega)) (by simp only [pt8, pt2, pt5, pt6]; rfl) ?_ |refine zy6 ?_ |refine zy5 ?_ |refine zy4 rfl (fun hp => ?_) (fun hp => ?_) <;> try (exfalso; first | omega | contradiction))
   refine WT.append (sv := v) (xv := .sref G2.length 0 0 1 1 (some 1)) rfl rfl a1 (zan _) (zan _) (by simp only [pt8, pt3]; rfl) ?_
   repeat' (first |refine zE (by intro; simp (disch := omega) only [go_sem]; rfl) ?_ |refine zy2 ?_ |refine zy3 ?_ |(simp only [zbr]) |refine zx6 ?_ |refine zF rfl (by intro; simp (disch := omega) only [go_sem, hix2]; rfl) rfl ?_ |refine zx3 rfl rfl (by intro; simp (disch := omega) only [go_sem, Option.bind_eq_bind, k23, hov, hvc']; rfl) (by simp (disch := omega) only [go_sem, zbh]; rfl) (by first | exact .inl rfl | exact .inr (zan _) | exact .inr trivial | (right; apply zau; simp only [zaR, zNA, zCA, List.getElem?_cons_succ, List.getElem?_cons_zero, Tch.free, and_true, true_and]; first | done | omega)) ?_)
   exact ⟨m2 - 1, by omega, _, H2.set 2 (some ⟨0, tc.set k v'⟩), v', q', n + 1, rfl, rfl, rfl, rfl, rfl, rfl, rfl, rfl, rfl, rfl, rfl, rfl, rfl, by omega, by rw [List.length_set]; omega, by
    rcases a2 with h | ⟨g, h1, h2, h3⟩ | ⟨g, n, h1, h2, h3, h4⟩
    ·exact .inl h
    ·exact .inr (.inl ⟨g, h1, h2, (zad (List.getElem?_set_ne (by omega))).trans h3⟩)
    ·exact .inr (.inr ⟨g, n, h1, h2, h3, (zad (List.getElem?_set_ne (by omega))).trans h4⟩), by omega, zaJ l23, fun b hb hb2 => by
    rw [List.getElem?_set_ne (Ne.symm hb2), a5 b (by omega) (by omega), List.getElem?_append_left (by omega), hkp b hb hb2]⟩
  ·have hne : n = (zam S.js).length := by omega
   subst hne;rw [List.take_of_length_le (by omega)] at hgs;have k72 : Zz.look G2 N7 0 = some [.int .i64 dl, rv] := (zad (hkp N7 h7l (by omega))).trans k7
   have hlat2 : LatM G2 rv q xs bs (zlw rows S k) := hlat.keep (hkp q hqG (by omega)) fun b hb => hkp b (hlat.blt hb) (by have := hbs3 b hb; omega)
   have hIX : IX G2 N7 v (zdi rows S k) := IX.of_gs hgs (by have := zah hKM.k2; omega) (by omega)
   have hKM2 : KM G2 [l, iv, jv, .int .i64 S.d] fc (tc.set k v) rows S N7 (k + 1) := by
    refine ⟨k02, k12, k22, by rw [List.length_set]; exact htl, fun t h1 h2 => ?_, fun t ht => ?_⟩
    ·have := hKM.tn t (by omega) h2;rw [List.getD_eq_getElem?_getD, List.getElem?_set_ne (by omega), <- List.getD_eq_getElem?_getD];exact this
    ·by_cases e : t = k
     ·subst e;rw [List.getD_eq_getElem?_getD, htg];exact hIX
     ·have e2 : (tc.set k v).getD t und = tc.getD t und := by rw [List.getD_eq_getElem?_getD, List.getElem?_set_ne (by omega), <- List.getD_eq_getElem?_getD]
      rw [e2]
      rcases hKM.td t (by omega) with h | ⟨b, h1, h2, h3, h4⟩
      ·exact .inl h
      ·exact .inr ⟨b, h1, h2, by omega, h4.same (hkp b h3 (by omega))⟩
   obtain ⟨bc, hbc, hIM⟩ := hIX.im (by omega);have hsk : zlw rows S (k + 1) = behind (zlI (zlw rows S k) (zdi rows S k) (zbm S.d) (zam S.js).length) := rfl
   repeat' (first |refine zE (by intro; simp (disch := omega) only [go_sem]; rfl) ?_ |refine zP rfl rfl (fun V => c81 _) ?_ |refine zy1 ?_ |refine zy2 ?_ |refine zy3 ?_ |(simp only [fl1, fl3, fl4, fl6, fl9]) |refine zx4 ?_ |refine zF rfl (by intro; simp (disch := omega) only [go_sem, k72, hix2, k22, htg, k02]; rfl) rfl ?_ |refine WT.big rfl rfl (by intro; simp (disch := omega) only [go_sem, k72, k22, htg, k02]; rfl) (by simp (disch := omega) only [go_sem, zbh]; rfl) (by first | exact .inl rfl | exact .inr (zan _) | exact .inr trivial | (right; apply zau; simp only [zaR, zNA, zCA, List.getElem?_cons_succ, List.getElem?_cons_zero, Tch.free, and_true, true_and]; first | done | omega)) (by simp only [pt8, pt2, pt4, pt6]; rfl) ?_ |refine zy8 ?_ |refine zy4 rfl (fun hp => ?_) (fun hp => ?_) <;> try (exfalso; first | omega | contradiction))
   refine WT.callM (fun y H' => ∃ rv' q' xs' bs', y = .agg [.int .i64 (zbm S.d), rv'] /\ LatM H' rv' q' xs' bs' (zlw rows S (k + 1)) /\ Ext G2 H' /\ (∀ b ∈ bs', G2.length <= b) /\ G2.length <= q' /\ q' < H'.length) rfl rfl ?_ ?_
   ·refine (f99 hs6 hd0 hd9 hlat2 hXB (by omega) hIM htab (fun t ht => zn2 hB hv (fun i hi => hl.six hi) hk ht) hbc).mono ?_;rintro y m' ⟨rv', q', xs', bs', H', rfl, rfl, e1, e2, e3, e4, e5⟩;exact ⟨rfl, ⟨e2.1, fun b hb => .inl (e2.2 b hb)⟩, rv', q', xs', bs', rfl, by rw [hsk]; exact e1, e2, e3, e4, e5⟩
   ·rintro _ H' _ ⟨rv', q', xs', bs', rfl, e1, e2, e3, e4, e5⟩;simp only [pt8, pt6];have k7H : Zz.look H' N7 0 = some [.int .i64 dl, rv] := e2.look k72;have l7H := zah k7H
    have hrc' : rv'.cells = some [rv'] := by
     rcases e1.gs with ⟨rfl, _⟩ | ⟨g, rfl, _⟩ | ⟨g, n, rfl, _⟩ <;> rfl
    unfold AV.cells at hrc'
    have hsetN : ∀ b, b ≠ N7 -> (H'.set N7 (some ⟨0, [.int .i64 (zbm S.d), rv']⟩))[b]? = H'[b]? := fun b hb => List.getElem?_set_ne (Ne.symm hb)
    repeat' (first |refine zE (by intro; simp (disch := omega) only [go_sem]; rfl) ?_ |refine zy2 ?_ |refine zy3 ?_ |(simp only [zbr]) |refine zx6 ?_ |refine zx3 rfl rfl (by intro; simp (disch := omega) only [go_sem, zbG, Nat.reduceAdd, k7H]; rfl) (by simp (disch := omega) only [go_sem, zbh]; rfl) (by first | exact .inl rfl | exact .inr (zan _) | exact .inr trivial | (right; apply zau; simp only [zaR, zNA, zCA, List.getElem?_cons_succ, List.getElem?_cons_zero, Tch.free, and_true, true_and]; first | done | omega)) ?_)
    exact ⟨m - 1, by omega, _, H'.set N7 (some ⟨0, [.int .i64 (zbm S.d), rv']⟩), tc.set k v, zbm S.d, rv', q', xs', bs', k + 1, rfl, rfl, rfl, rfl, rfl, rfl, rfl, rfl, rfl, by omega, hKM2.keep hN3 (by rw [List.length_set]; exact e2.1) fun b h1 h2 => by rw [hsetN b h2, e2.2 b h1], zaJ l7H, e1.keep (hsetN _ (by omega)) fun b hb => hsetN _ (by have := e3 b hb; omega), by rw [List.length_set]; exact e5, by omega, fun b hb => by have := e3 b hb; omega⟩
 ·have hke : k = S.js.length := by omega
  subst hke;have hrl := hlat.len;rw [hXB.len] at hrl;generalize hXe : zlw rows S S.js.length = X at *
  repeat' (first |refine zE (by intro; simp (disch := omega) only [go_sem, k7]; rfl) ?_ |refine WO.opE (by intro; exact zaf (by simp only [go_sem]; first | rfl | assumption)) (by simp only [pt8, pt2]; rfl) ?_ |refine zy1 ?_ |refine zy2 ?_ |refine zy3 ?_ |(simp only [fl1]) |refine zy8 ?_ |refine zy5 ?_ |refine zy4 rfl (fun hp => ?_) (fun hp => ?_) <;> try (exfalso; first | omega | contradiction))
  have hXl := hXB.len;have hflat0 : zbi ((X.take 0).map (zeC rows S)) = [] := rfl
  obtain ⟨GL, hGL⟩ : ∃ GL, GL = G.length := ⟨_, rfl⟩
  have h2G := zah hKM.k2;refine zx9 (fun m st => ∃ T G' ov qo i, st = ⟨T, G', []⟩ /\ T.length = 138 /\ gt T 4 = .pref 0 0 0 /\ gt T 5 = .sref 1 0 0 1 (zam S.js).length (some 6) /\ gt T 6 = .sref 2 0 0 1 S.js.length (some S.js.length) /\ gt T 11 = ov /\ gt T 73 = rv /\ gt T 74 = .int .i64 ((zam S.js).length : Nat) /\ gt T 75 = .int .i64 (i : Nat) /\ m + i = (zam S.js).length /\ GL <= G'.length /\ (∀ b, b < GL -> G'[b]? = G[b]?) /\ GS 6 G' ov qo (zbi ((X.take i).map (zeC rows S))) /\ GL <= qo) ?_ (zam S.js).length _ ⟨_, G, .snil, GL, 0, rfl, rfl, rfl, rfl, rfl, rfl, rfl, rfl, rfl, by omega, by omega, fun b _ => rfl, .inl ⟨rfl, hflat0⟩, Nat.le_refl _⟩
  obtain ⟨Gs, hGs⟩ : ∃ Gs, Gs = G := ⟨_, rfl⟩
  rw [<- hGs] at hKM k0 k1 k7 hlat hqG hGL h2G ⊢;clear hGs G g4 g5 g6 g7 g37 g38 g39 f k7;rintro m _ ⟨T, G, ov, qo, i, rfl, hT, g4, g5, g6, g11, g73, g74, g75, hm, hGl, hkp, hgs, hqo⟩;obtain ⟨f, rfl⟩ := exG hT;clear hT;change f 4 = _ at g4;change f 5 = _ at g5;change f 6 = _ at g6;change f 11 = _ at g11;change f 73 = _ at g73;change f 74 = _ at g74;change f 75 = _ at g75;simp only [tb, Nat.reduceAdd, g4, g5, g6, g11, g73, g74, g75]
  by_cases hin : i < (zam S.js).length
  ·obtain ⟨gi, ai1, ai2, ai3, hRi⟩ := hlat.at (i := i) (by omega);have hai2 : Zz.look G q gi = some xs := (zad (hkp q (by omega))).trans ai2;have hxc := hRi.cell;unfold AV.cells at hxc;have hil := hXB.row i hin;have hRl := hRi.lt;generalize hxe : xs.getD i und = x at *;have hz6 : ([.int .i64 0, .int .i64 0, .int .i64 0, .int .i64 0, .int .i64 0, .int .i64 0] : List AV) = zaa (List.replicate 6 0) := rfl
   have k0G : ∀ c : List AV, Zz.look (G ++ [some ⟨0, c⟩]) 0 0 = some [l, iv, jv, .int .i64 S.d] := fun c => (zap (by omega)).trans ((zad (hkp 0 (by omega))).trans k0)
   have k1G : ∀ c : List AV, Zz.look (G ++ [some ⟨0, c⟩]) 1 0 = some fc := fun c => (zap (by omega)).trans ((zad (hkp 1 (by omega))).trans k1)
   have k2G : ∀ c : List AV, Zz.look (G ++ [some ⟨0, c⟩]) 2 0 = some tc := fun c => (zap (by omega)).trans ((zad (hkp 2 (by omega))).trans hKM.k2)
   have hxB : ∀ k, k < (zam S.js).length -> 0 <= (X.getD i []).getD k 0 /\ (X.getD i []).getD k 0 <= 1000000000 := fun k hk => by
    have := hXB.el i k hin hk;have e : ent X i k = (X.getD i []).getD k 0 := rfl;rw [e] at this;omega
   repeat' (first |refine zE (by intro; simp (disch := omega) only [go_sem, ai1, hai2, ai3, hz6]; rfl) ?_ |refine WO.opE (by intro; exact zaf (by simp only [go_sem]; first | rfl | assumption)) (by simp only [pt8, pt0]; rfl) ?_ |refine zy1 ?_ |refine zy2 ?_ |refine zy3 ?_ |(simp only [fl1]) |refine zy6 ?_ |refine zy5 ?_ |refine zy4 rfl (fun hp => ?_) (fun hp => ?_) <;> try (exfalso; first | omega | contradiction))
   refine zx9 (fun m2 s => ∃ T w n, s = ⟨T, G ++ [some ⟨0, zaa w⟩], []⟩ /\ T.length = 138 /\ gt T 4 = .pref 0 0 0 /\ gt T 5 = .sref 1 0 0 1 (zam S.js).length (some 6) /\ gt T 6 = .sref 2 0 0 1 S.js.length (some S.js.length) /\ gt T 11 = ov /\ gt T 13 = x /\ gt T 14 = .pref G.length 0 0 /\ gt T 73 = rv /\ gt T 74 = .int .i64 ((zam S.js).length : Nat) /\ gt T 75 = .int .i64 (i : Nat) /\ gt T 79 = .sref 1 0 0 1 (zam S.js).length (some 6) /\ gt T 80 = .int .i64 ((zam S.js).length : Nat) /\ gt T 81 = .int .i64 (n : Nat) /\ m2 + n = (zam S.js).length /\ w.length = 6 /\ (∀ t, t < n -> w.getD ((zam S.js).getD t 0) 0 = (X.getD i []).getD t 0) /\ ∀ t, t < S.js.length -> w.getD (S.js.getD t 0) 0 = 0) ?_ (zam S.js).length _ ⟨_, List.replicate 6 0, 0, rfl, rfl, rfl, rfl, rfl, rfl, rfl, rfl, rfl, rfl, rfl, rfl, rfl, rfl, by omega, rfl, fun t ht => by omega, fun t ht => zrL 6 _⟩;clear g4 g5 g6 g11 g73 g74 g75 f ai1 ai3;rintro m2 _ ⟨T, w, n, rfl, hT, g4, g5, g6, g11, g13, g14, g73, g74, g75, g79, g80, g81, hm2, hwl, hw1, hw2⟩;obtain ⟨f, rfl⟩ := exG hT;clear hT;change f 4 = _ at g4;change f 5 = _ at g5;change f 6 = _ at g6;change f 11 = _ at g11;change f 13 = _ at g13;change f 14 = _ at g14;change f 73 = _ at g73;change f 74 = _ at g74;change f 75 = _ at g75;change f 79 = _ at g79;change f 80 = _ at g80;change f 81 = _ at g81;simp only [tb, Nat.reduceAdd, g4, g5, g6, g11, g13, g14, g73, g74, g75, g79, g80, g81]
   by_cases hn : n < (zam S.js).length
   ·have hfn := hfc n hn
    have hixn : zaj 1 (.sref 1 0 0 1 (zam S.js).length (some 6)) (.int .i64 (n : Int)) = some (.pref 1 0 n) := by rw [zbl, zbb hn]; simp
    have hj6 := (zbu.1 (zbg hn)).1;have hjn := (zbu.1 (zbg hn)).2;obtain ⟨g1', o1, c1, b1, b2, b3, _⟩ := hRi.at (i := n) (by omega)
    have b2G : ∀ c : List AV, Zz.look (G ++ [some ⟨0, c⟩]) (bs.getD i 0) g1' = some c1 := fun c => (zap (by omega)).trans ((zad (hkp _ (by omega))).trans b2)
    have hovw := zbp (r := w) (j := (zam S.js).getD n 0) (by omega) ((X.getD i []).getD n 0)
    repeat' (first |refine zE (by intro; simp (disch := omega) only [go_sem, hixn, hfn, k1G, b1, b2G, b3, Nat.mul_one]; rfl) ?_ |refine zx2 (by intro; simp (disch := omega) only [go_sem, Option.bind_eq_bind, zbB, hovw, lk0]; rfl) ?_ |refine zy1 ?_ |refine zy2 ?_ |refine zy3 ?_ |(simp only [zbr]) |refine zy6 ?_ |refine zy5 ?_ |refine zy4 rfl (fun hp => ?_) (fun hp => ?_) <;> try (exfalso; first | omega | contradiction))
    exact ⟨m2 - 1, by omega, _, w.set ((zam S.js).getD n 0) ((X.getD i []).getD n 0), n + 1, rfl, rfl, rfl, rfl, rfl, rfl, rfl, rfl, rfl, rfl, rfl, rfl, rfl, rfl, by omega, by simpa using hwl, fun t ht => by
     by_cases e : t = n
     ·subst e; rw [zaD (by omega)]
     ·rw [zay fun h => e (zfc (zfj _) hn (by omega) h).symm]
      exact hw1 t (by omega), fun t ht => by
     rw [zay (zqM ht hn).symm]
     exact hw2 t ht⟩
   ·have hne : n = (zam S.js).length := by omega
    subst hne
    repeat' (first |refine zE (by intro; simp (disch := omega) only [go_sem, k0G]; rfl) ?_ |refine WO.opE (by intro; exact zaf (by simp only [go_sem]; first | rfl | assumption)) (by simp only [pt8, pt7]; rfl) ?_ |refine zy1 ?_ |refine zy2 ?_ |refine zy3 ?_ |(simp only [fl1]) |refine zy8 ?_ |refine zy5 ?_ |refine zy4 rfl (fun hp => ?_) (fun hp => ?_) <;> try (exfalso; first | omega | contradiction))
    refine zx9 (fun m3 s => ∃ T w k, s = ⟨T, G ++ [some ⟨0, zaa w⟩], []⟩ /\ T.length = 138 /\ gt T 4 = .pref 0 0 0 /\ gt T 5 = .sref 1 0 0 1 (zam S.js).length (some 6) /\ gt T 6 = .sref 2 0 0 1 S.js.length (some S.js.length) /\ gt T 11 = ov /\ gt T 13 = x /\ gt T 14 = .pref G.length 0 0 /\ gt T 73 = rv /\ gt T 74 = .int .i64 ((zam S.js).length : Nat) /\ gt T 75 = .int .i64 (i : Nat) /\ gt T 94 = jv /\ gt T 95 = .int .i64 (S.js.length : Nat) /\ gt T 96 = .int .i64 (k : Nat) /\ m3 + k = S.js.length /\ w.length = 6 /\ (∀ t, t < (zam S.js).length -> w.getD ((zam S.js).getD t 0) 0 = (X.getD i []).getD t 0) /\ (∀ t, t < k -> w.getD (S.js.getD t 0) 0 = (-zhF rows S (X.getD i []) t (zam S.js).length).tdiv S.d) /\ ∀ t, k <= t -> t < S.js.length -> w.getD (S.js.getD t 0) 0 = 0) ?_ S.js.length _ ⟨_, w, 0, rfl, rfl, rfl, rfl, rfl, rfl, rfl, rfl, rfl, rfl, rfl, rfl, rfl, rfl, by omega, hwl, hw1, fun t ht => by omega, fun t _ ht => hw2 t ht⟩;clear g4 g5 g6 g11 g13 g14 g73 g74 g75 g79 g80 g81 f hwl hw1 hw2;rintro m3 _ ⟨T, w, k, rfl, hT, g4, g5, g6, g11, g13, g14, g73, g74, g75, g94, g95, g96, hm3, hwl, hw0, hw1, hw2⟩;obtain ⟨f, rfl⟩ := exG hT;clear hT;change f 4 = _ at g4;change f 5 = _ at g5;change f 6 = _ at g6;change f 11 = _ at g11;change f 13 = _ at g13;change f 14 = _ at g14;change f 73 = _ at g73;change f 74 = _ at g74;change f 75 = _ at g75;change f 94 = _ at g94;change f 95 = _ at g95;change f 96 = _ at g96;simp only [tb, Nat.reduceAdd, g4, g5, g6, g11, g13, g14, g73, g74, g75, g94, g95, g96]
    by_cases hk : k < S.js.length
    ·obtain ⟨t2, hat2⟩ := hjv.at hk;have hj6 : S.js.getD k 0 < 6 := hB.j.2 _ (zbg hk)
     have htb := fun n (hn : n < (zam S.js).length) => zn2 hB hv (fun i hi => hl.six hi) hk hn
     have hsb := znN (k := k) hxB htb;have hs0 : zhF rows S (X.getD i []) k 0 = 0 := rfl
     repeat' (first |refine zE (by intro; simp (disch := omega) only [go_sem, hat2]; rfl) ?_ |refine WO.opE (by intro; exact zaf (by simp only [go_sem]; first | rfl | assumption)) (by simp only [pt8, pt6]; rfl) ?_ |refine zy1 ?_ |refine zy2 ?_ |refine zy3 ?_ |(simp only [fl1]) |refine zy6 ?_ |refine zy5 ?_ |refine zy4 rfl (fun hp => ?_) (fun hp => ?_) <;> try (exfalso; first | omega | contradiction))
     refine zx9 (fun m4 s => ∃ T w n, s = ⟨T, G ++ [some ⟨0, zaa w⟩], []⟩ /\ T.length = 138 /\ gt T 4 = .pref 0 0 0 /\ gt T 5 = .sref 1 0 0 1 (zam S.js).length (some 6) /\ gt T 6 = .sref 2 0 0 1 S.js.length (some S.js.length) /\ gt T 11 = ov /\ gt T 13 = x /\ gt T 14 = .pref G.length 0 0 /\ gt T 17 = .int .i64 (k : Nat) /\ gt T 18 = .int .i64 ((S.js.getD k 0 : Nat) : Int) /\ gt T 73 = rv /\ gt T 74 = .int .i64 ((zam S.js).length : Nat) /\ gt T 75 = .int .i64 (i : Nat) /\ gt T 94 = jv /\ gt T 95 = .int .i64 (S.js.length : Nat) /\ gt T 96 = .int .i64 (k : Nat) /\ gt T 101 = .sref 1 0 0 1 (zam S.js).length (some 6) /\ gt T 102 = .int .i64 ((zam S.js).length : Nat) /\ gt T 103 = .int .i64 (n : Nat) /\ m4 + n = (zam S.js).length /\ w.length = 6 /\ (∀ t, t < (zam S.js).length -> w.getD ((zam S.js).getD t 0) 0 = (X.getD i []).getD t 0) /\ (∀ t, t < k -> w.getD (S.js.getD t 0) 0 = (-zhF rows S (X.getD i []) t (zam S.js).length).tdiv S.d) /\ (w.getD (S.js.getD k 0) 0 = -zhF rows S (X.getD i []) k n) /\ ∀ t, k + 1 <= t -> t < S.js.length -> w.getD (S.js.getD t 0) 0 = 0) ?_ (zam S.js).length _ ⟨_, w, 0, rfl, rfl, rfl, rfl, rfl, rfl, rfl, rfl, rfl, rfl, rfl, rfl, rfl, rfl, rfl, rfl, rfl, rfl, rfl, by omega, hwl, hw0, hw1, by rw [hs0]; exact hw2 k (Nat.le_refl _) hk, fun t h1 h2 => hw2 t (by omega) h2⟩;clear g4 g5 g6 g11 g13 g14 g73 g74 g75 g94 g95 g96 f hwl hw0 hw1 hw2;rintro m4 _ ⟨T, w, n, rfl, hT, g4, g5, g6, g11, g13, g14, g17, g18, g73, g74, g75, g94, g95, g96, g101, g102, g103, hm4, hwl, hw0, hw1, hwk, hw2⟩;obtain ⟨f, rfl⟩ := exG hT;clear hT;change f 4 = _ at g4;change f 5 = _ at g5;change f 6 = _ at g6;change f 11 = _ at g11;change f 13 = _ at g13;change f 14 = _ at g14;change f 17 = _ at g17;change f 18 = _ at g18;change f 73 = _ at g73;change f 74 = _ at g74;change f 75 = _ at g75;change f 94 = _ at g94;change f 95 = _ at g95;change f 96 = _ at g96;change f 101 = _ at g101;change f 102 = _ at g102;change f 103 = _ at g103;simp only [tb, Nat.reduceAdd, g4, g5, g6, g11, g13, g14, g17, g18, g73, g74, g75, g94, g95, g96, g101, g102, g103];have hia := zaK (r := w) (j := S.js.getD k 0) (by omega);rw [hwk] at hia
     have hovw := fun y => zbp (r := w) (j := S.js.getD k 0) (by omega) y
     by_cases hn : n < (zam S.js).length
     ·obtain ⟨g1', o1, c1, b1, b2, b3, _⟩ := hRi.at (i := n) (by omega)
      have b2G : ∀ c : List AV, Zz.look (G ++ [some ⟨0, c⟩]) (bs.getD i 0) g1' = some c1 := fun c => (zap (by omega)).trans ((zad (hkp _ (by omega))).trans b2)
      have htl := zmR rows S k
      obtain ⟨bt, hbt1, hbt2⟩ : ∃ bt, bt < Gs.length /\ RowM Gs (tc.getD k und) bt (zdi rows S k) := by
       rcases hKM.td k hk with ⟨_, h⟩ | ⟨b, _, _, h1, h2⟩
       ·rw [h] at htl; simp at htl; omega
       ·exact ⟨b, h1, h2⟩
      have htc : tc[k]? = some (tc.getD k und) := by
       rw [List.getD_eq_getElem?_getD, List.getElem?_eq_getElem (by rw [hKM.tl]; exact hk), Option.getD_some]
      have htcc := hbt2.cell;unfold AV.cells at htcc;obtain ⟨g2', o2, c2, d1, d2, d3, _⟩ := hbt2.at (i := n) (by omega)
      have d2G : ∀ c : List AV, Zz.look (G ++ [some ⟨0, c⟩]) bt g2' = some c2 := fun c => (zap (by omega)).trans ((zad (hkp _ (by omega))).trans d2)
      generalize tc.getD k und = tv at *
      have hix2 : zaj 1 (.sref 2 0 0 1 S.js.length (some S.js.length)) (.int .i64 (k : Int)) = some (.pref 2 0 k) := by rw [zbl, zbb hk]; simp
      have hse : zhF rows S (X.getD i []) k (n + 1) = zhF rows S (X.getD i []) k n + (zdi rows S k).getD n 0 * (X.getD i []).getD n 0 := rfl;have hmul := zjr (htb n hn) (hxB n hn);have hsk := hsb n (by omega);have hsk1 := hsb (n + 1) (by omega)
      have hse2 : -zhF rows S (X.getD i []) k n - (zdi rows S k).getD n 0 * (X.getD i []).getD n 0 = -zhF rows S (X.getD i []) k (n + 1) := by omega
      repeat' (first |refine zE (by intro; simp (disch := omega) only [go_sem, hia, hix2, k2G, htc, d1, d2G, d3, b1, b2G, b3, lk0, hse2, Nat.mul_one]; rfl) ?_ |refine zx2 (by intro; simp (disch := omega) only [go_sem, Option.bind_eq_bind, zbB, hovw, lk0]; rfl) ?_ |refine zy1 ?_ |refine zy2 ?_ |refine zy3 ?_ |(simp only [fl1, zbr]) |refine zx5 rfl ?_ |refine zy6 ?_ |refine zy5 ?_ |refine zy4 rfl (fun hp => ?_) (fun hp => ?_) <;> try (exfalso; first | omega | contradiction))
      exact ⟨m4 - 1, by omega, _, w.set (S.js.getD k 0) (-zhF rows S (X.getD i []) k (n + 1)), n + 1, rfl, rfl, rfl, rfl, rfl, rfl, rfl, rfl, rfl, rfl, rfl, rfl, rfl, rfl, rfl, rfl, rfl, rfl, rfl, by omega, by simpa using hwl, fun t ht => by
       rw [zay (zqM hk ht)]
       exact hw0 t ht, fun t ht => by
       rw [zay fun h => by have := zfc hB.j.1 hk (by omega) h; omega]
       exact hw1 t ht, by rw [zaD (by omega)], fun t h1 h2 => by
       rw [zay fun h => by have := zfc hB.j.1 hk (by omega) h; omega]
       exact hw2 t h1 h2⟩
     ·have hne : n = (zam S.js).length := by omega
      subst hne;have hd0' : ¬ S.d = 0 := hB.ne;have hsk := hsb (zam S.js).length (Nat.le_refl _);have htdb := zgE (a := -zhF rows S (X.getD i []) k (zam S.js).length) (M := 9000000000000000000) hd0' (by omega)
      repeat' (first |refine zE (by intro; simp (disch := omega) only [go_sem, k0G, hia, lk0, hd0', if_false, Nat.mul_one]; rfl) ?_ |refine zx2 (by intro; simp (disch := omega) only [go_sem, Option.bind_eq_bind, zbB, hovw, lk0]; rfl) ?_ |refine zy1 ?_ |refine zy2 ?_ |refine zy3 ?_ |(simp only [fl1, fl3, fl6, fl9, zbr]) |refine zx5 rfl ?_ |refine zy8 ?_ |refine zy4 rfl (fun hp => ?_) (fun hp => ?_) <;> try (exfalso; first | omega | contradiction))
      exact ⟨m3 - 1, by omega, _, w.set (S.js.getD k 0) ((-zhF rows S (X.getD i []) k (zam S.js).length).tdiv S.d), k + 1, rfl, rfl, rfl, rfl, rfl, rfl, rfl, rfl, rfl, rfl, rfl, rfl, rfl, rfl, by omega, by simpa using hwl, fun t ht => by
       rw [zay (zqM hk ht)]
       exact hw0 t ht, fun t ht => by
       by_cases e : t = k
       ·subst e; rw [zaD (by omega)]
       ·rw [zay fun h => by have := zfc hB.j.1 hk (by omega) h; omega]
        exact hw1 t (by omega), fun t h1 h2 => by
       rw [zay fun h => by have := zfc hB.j.1 hk (by omega) h; omega]
       exact hw2 t h1 h2⟩
    ·have hke : k = S.js.length := by omega
     subst hke;have hwe : w = zeC rows S (X.getD i []) := zrd hwl hB.j.1 hw1 hw0
     have hnext : (X.take i).map (zeC rows S) ++ [w] = (X.take (i + 1)).map (zeC rows S) := by
      rw [hwe, List.take_add_one, List.map_append, List.getElem?_eq_getElem (by omega), List.getD_eq_getElem?_getD, List.getElem?_eq_getElem (by omega)];rfl
     have hmlw : (zaa w).length = 6 := by rw [zae, hwl]
     have hcutw := zav hwl
     have hovw := fun x0 x1 x2 x3 x4 x5 => zaN hwl (x0 := x0) (x1 := x1) (x2 := x2) (x3 := x3) (x4 := x4) (x5 := x5)
     obtain ⟨ov', q', H2, a1, a2, a3, a4, a5⟩ := zn8 (L := []) hgs zib hwl (by simp; omega) [some ⟨0, zaa w⟩, some ⟨0, zaa w⟩] (lk1 rfl);rw [hnext] at a2;simp only [List.length_cons, List.length_nil, Nat.zero_add, Nat.reduceAdd] at a3 a4
     have hk5 : ∀ j, j < G.length -> j ≠ qo -> H2[j]? = G[j]? := fun j h1 h2 => by rw [a5 j (by simp; omega) h2, List.getElem?_append_left h1]
     repeat' (first |refine zE (by intro; simp (disch := omega) only [go_sem, zaZ, Option.bind_eq_bind, List.append_assoc, za0, List.length_append, hcutw, hovw, hmlw, lk0]; rfl) ?_ |refine zE (by intro; rw [zbj]; exact a1) ?_ |refine zy1 ?_ |refine zy2 ?_ |refine zy3 ?_ |(simp only [zbr]) |refine zy8 ?_ |refine zy4 rfl (fun hp => ?_) (fun hp => ?_) <;> try (exfalso; first | omega | contradiction))
     exact ⟨m - 1, by omega, _, H2, ov', q', i + 1, rfl, rfl, rfl, rfl, rfl, rfl, rfl, rfl, rfl, by omega, by omega, fun b hb => by rw [hk5 b (by omega) (by omega), hkp b hb], a2, by omega⟩
  ·have hie : i = (zam S.js).length := by omega
   subst hie;rw [List.take_of_length_le (by omega), <- hker] at hgs
   repeat' (first |refine zE (by intro; simp (disch := omega) only [go_sem]; rfl) ?_ |refine zy1 ?_ |refine zy2 ?_ |refine zy3 ?_ |(simp only [fl1]) |refine zy8 ?_ |refine zy7 ?_ |refine zy4 rfl (fun hp => ?_) (fun hp => ?_) <;> try (exfalso; first | omega | contradiction))
   exact ⟨_, rfl, ov, qo, rfl, hgs⟩
noncomputable def E20 : Env := E19.put 20 (zar E19 20)
theorem ztp : EnvOk Tryd.prog E20 := Env.put_ok zmp (zax zmp (zaq Tryd.func20 (by kernel_rfl)))
end Go.Proofs.YtgchabldcnmccabDoor

