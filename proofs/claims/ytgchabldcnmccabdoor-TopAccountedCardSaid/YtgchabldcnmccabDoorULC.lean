import Derived.Test.YtgchabldcnmccabDoorULB
import Derived.Test.YtgchabldcnmccabDoorUPV

set_option linter.unusedSimpArgs false
set_option linter.unusedVariables false

namespace Go.Proofs.YtgchabldcnmccabDoor
open Go.Zz
set_option maxRecDepth 100000
set_option maxHeartbeats 8000000
theorem zo7 (a b : Nat) : Nat.gcd b (a % b) = Nat.gcd a b := by rw [Nat.gcd_comm a b, Nat.gcd_rec b a, Nat.gcd_comm]
theorem f76 {l : AV} {rows : List (List Int)} (hl : RwL l rows) (hmax : rows.length < 9223372036854775807) {v : List Int} (h6 : v.length = 6) :
  WF M4 (.func 9 [] []) [l, .agg (zaa v)] ⟨[], []⟩ fun y m' => y = .tuple [.int .i64 (zk0 rows v), .int .i64 (znj rows v)] := by
 obtain ⟨xr, xc, hxr, hxc, c122⟩ := s122 hl hmax
 have c125 := fun m => s125 (m := m) h6
 have hcv := zav h6
 have hml : (zaa v).length = 6 := by rw [zae, h6]
 have c2 : Zz.cut [xr, xc] 0 2 = some [xr, xc] := rfl
 by_cases hA : VM rows /\ okB 1000000000 v
 ·have eC : zjP rows = 0 := if_pos hA.1;have eh : zie rows = zaI rows := if_pos hA.1;have ek : zo1 rows = (zbx rows).js := if_pos hA.1;rw [eC] at c122;rw [eh] at hxr;rw [ek] at hxc
  have s6 : Six rows := fun i hi => hl.six hi
  have hD := znD hA.1 s6;obtain ⟨hF, hN⟩ := zkv (v := v) hA.1 s6
  have hP := (zkY hA.1 s6)
  have hpv : ∀ i, i < (zaI rows).length -> zls rows i <= 1000000000 := fun i hi => by
   have h1 := (zd1 _ hP.1 _ (Nat.le_refl _)).2 (i + 1) hi;have h2 := (zd1 _ hP.1 i (by omega)).1;have h3 : zaP (zls rows) (i + 1) = zaP (zls rows) i * zls rows i := rfl;have h4 := hP.1 i hi;have h5 := Int.mul_le_mul_of_nonneg_right h2 (show 0 <= zls rows i by omega);omega
  have hok : decide (okB 1000000000 v) = true := decide_eq_true hA.2;rw [hok] at c125;have hxl := hxr.len;have hle := hD.le
  have eO : znj rows v = if zjV (zaI rows) (zbx rows).js v then 0 else 3 := if_pos hA
  have eN : zr1 rows v = zaP (zdA (zaI rows) (zbx rows).js v) (zaI rows).length := rfl
  have eD : zk0 rows v = if znj rows v = 0 then if zcD (zaI rows) (zbx rows).js v (zaI rows).length = zer6 then zr1 rows v else 0 else 0 := rfl
  rw [eD, eO, eN];clear eD eO eN
  have hF2 : ∀ i, i < (zaI rows).length -> zdA (zaI rows) (zbx rows).js v i = zgF (zls rows i) ((zcD (zaI rows) (zbx rows).js v i).getD ((zbx rows).js.getD i 0) 0) := fun i hi => rfl
  have hpe : ∀ i, i < (zaI rows).length -> (rw_ (zaI rows) i).getD ((zbx rows).js.getD i 0) 0 = zls rows i := fun i hi => rfl
  generalize zls rows = pv at *;generalize (zbx rows).js = js at *;generalize zaI rows = h at *;refine zx0 rfl (zaz Tryd.func9 cir9) (by show 2 <= 94; decide) ?_;unfold ir9;simp only [zaw, List.replicate, zNA, zAN]
  repeat' (first |refine zx1 rfl ?_ |refine zE (by intro; simp (disch := omega) only [go_sem, Zz.look, zCA, zNA, hcv]; rfl) ?_ |refine zx2 (by intro; simp (disch := omega) only [go_sem, Zz.look, Option.bind_eq_bind, zbG, Nat.reduceAdd, zat, List.set_cons_zero, List.set_cons_succ]; rfl) ?_ |refine WO.opE (by intro; exact zaf (by simp only [go_sem]; first | rfl | assumption)) (by simp only [pt8, pt6]; rfl) ?_ |refine zS rfl rfl (c122 _) ?_ |refine zS rfl rfl (c125 _) ?_ |refine zy1 ?_ |refine zy2 ?_ |refine zy3 ?_ |(simp only [fl1]) |refine zy9 rfl ?_ |refine zy6 ?_ |refine zy5 ?_)
  clear c122 c125 hcv hml c2 hok;refine zx9 (fun m s => ∃ T R i, s = ⟨T, some ⟨0, zaa (zcD h js v i)⟩ :: some ⟨0, [xr, xc]⟩ :: R, []⟩ /\ T.length = 94 /\ gt T 3 = .pref 0 0 0 /\ gt T 6 = .pref 1 0 0 /\ gt T 8 = .int .i64 (zaP (zdA h js v) i) /\ gt T 29 = xr /\ gt T 30 = .int .i64 (h.length : Nat) /\ gt T 31 = .int .i64 (i : Nat) /\ m + i = h.length /\ okB 1000000000 (zcD h js v i) /\ ∀ k, k < i -> okB 1000000000 (zjF h js v k) /\ okB 1000000000 (zcD h js v (k + 1))) ?_ h.length _ ⟨_, [], 0, rfl, rfl, rfl, rfl, rfl, rfl, rfl, rfl, by omega, hA.2, fun k hk => by omega⟩;rintro m _ ⟨T, R, i, rfl, hT, g3, g6, g8, g29, g30, g31, hm, hok, hoks⟩;obtain ⟨f, rfl⟩ := exG hT;clear hT;change f 3 = _ at g3;change f 6 = _ at g6;change f 8 = _ at g8;change f 29 = _ at g29;change f 30 = _ at g30;change f 31 = _ at g31;simp only [tb, Nat.reduceAdd, g3, g6, g8, g29, g30, g31]
  have q0 : ∀ (c : List AV) (S : Hp), Zz.look (some ⟨0, c⟩ :: some ⟨0, [xr, xc]⟩ :: S) 0 0 = some c := fun _ _ => rfl
  have q1 : ∀ (c : List AV) (S : Hp), Zz.look (some ⟨0, c⟩ :: some ⟨0, [xr, xc]⟩ :: S) 1 0 = some [xr, xc] := fun _ _ => rfl
  have w0 : ∀ (c d : List AV) (S : Hp), zat (some ⟨0, c⟩ :: some ⟨0, [xr, xc]⟩ :: S) 0 0 d = some ⟨0, d⟩ :: some ⟨0, [xr, xc]⟩ :: S := fun _ _ _ => rfl
  have k0 : Zz.cut [xr, xc] 0 1 = some [xr] := rfl;have k1 : Zz.cut [xr, xc] 1 1 = some [xc] := rfl;have hu6 := zge (h := h) (js := js) h6 i;have hcu := zav hu6
  have hul : (zaa (zcD h js v i)).length = 6 := by rw [zae, hu6]
  by_cases hi : i < h.length
  ·have k6 := hD.six i hi;have hat := hxr.at hi;have hcut := zcu (t := zet h i) k6;have hcr : (rw_ h i).map (AV.int .i64) = zaa (rw_ h i) := rfl;rw [hcr] at hat hcut;have hgc := zav k6
   have hov := fun x0 x1 x2 x3 x4 x5 => zaN k6 (x0 := x0) (x1 := x1) (x2 := x2) (x3 := x3) (x4 := x4) (x5 := x5)
   have hgl : (zaa (rw_ h i)).length = 6 := by rw [zae, k6]
   obtain ⟨t, hjat⟩ := hxc.at (k := i) (by rw [hD.len]; exact hi);have hplt := hD.lt i hi;have hpos := hD.pos i hi;have hpb := hpv i hi;have hia := zaK (r := zcD h js v i) (j := js.getD i 0) (by omega);have hib := zaK (r := rw_ h i) (j := js.getD i 0) (by omega);have hxb := hok _ hplt;have hbd := hD.bd i hi;have hFi := hF i hi;have hFe := hF2 i hi;have hNi := hN i (by omega);have hNi1 := hN (i + 1) (by omega)
   have kl : ∀ (c : List AV) (d : List AV), Zz.look (some ⟨0, c⟩ :: some ⟨0, [xr, xc]⟩ :: (R ++ [some ⟨0, d⟩])) (R.length + 1 + 1) 0 = some d := fun c d => by
    simp [Zz.look]
   have ks : ∀ (c d e : List AV), zat (some ⟨0, c⟩ :: some ⟨0, [xr, xc]⟩ :: (R ++ [some ⟨0, d⟩])) (R.length + 1 + 1) 0 e = some ⟨0, c⟩ :: some ⟨0, [xr, xc]⟩ :: (R ++ [some ⟨0, e⟩]) := fun c d e => by simp [zat]
   rw [hpe i hi] at hib hpos;generalize hx : (zcD h js v i).getD (js.getD i 0) 0 = x at *;generalize hpp : pv i = p at *
   have hmx : max x (0 - x) = ((x.natAbs : Nat) : Int) := by omega
   have hpn : ((p.natAbs : Nat) : Int) = p := by omega
   repeat' (first |refine zE (by intro; simp (disch := omega) only [go_sem, hat, hcut, q0, q1, kl, hjat, hia, hib, hmx, Nat.mul_one, List.length_cons, zCA]; rfl) ?_ |refine zx2 (by intro; simp (disch := omega) only [go_sem, Option.bind_eq_bind, zbB, hov, hgl, kl]; rfl) ?_ |refine zy1 ?_ |refine zy2 ?_ |refine zy3 ?_ |refine zx5 rfl ?_ |refine zy6 ?_ |refine zy5 ?_ |refine zy4 rfl (fun hp => ?_) (fun hp => ?_) <;> try (exfalso; first | omega | contradiction))
   refine zx9 (fun m s => ∃ T a b, s = ⟨T, some ⟨0, zaa (zcD h js v i)⟩ :: some ⟨0, [xr, xc]⟩ :: (R ++ [some ⟨0, zaa (rw_ h i)⟩]), []⟩ /\ T.length = 94 /\ gt T 3 = .pref 0 0 0 /\ gt T 6 = .pref 1 0 0 /\ gt T 8 = .int .i64 (zaP (zdA h js v) i) /\ gt T 10 = .pref (R.length + 1 + 1) 0 0 /\ gt T 11 = .int .i64 (js.getD i 0 : Nat) /\ gt T 12 = .int .i64 p /\ gt T 29 = xr /\ gt T 30 = .int .i64 (h.length : Nat) /\ gt T 31 = .int .i64 (i : Nat) /\ gt T 13 = .int .i64 (a : Nat) /\ gt T 14 = .int .i64 (b : Nat) /\ m = b /\ a <= 1000000000 /\ b <= 1000000000 /\ Nat.gcd a b = zoF p x) ?_ x.natAbs _ ⟨_, p.natAbs, x.natAbs, rfl, rfl, rfl, rfl, rfl, rfl, rfl, rfl, rfl, rfl, rfl, (by simp only [gt8, gt5, hpn]), rfl, rfl, by omega, by omega, rfl⟩;clear g3 g6 g8 g29 g30 g31 f;rintro m2 _ ⟨T, a, b, rfl, hT, g3, g6, g8, g10, g11, g12, g29, g30, g31, g13, g14, hm2, ha9, hb9, hgc2⟩;obtain ⟨f, rfl⟩ := exG hT;clear hT;change f 3 = _ at g3;change f 6 = _ at g6;change f 8 = _ at g8;change f 10 = _ at g10;change f 11 = _ at g11;change f 12 = _ at g12;change f 29 = _ at g29;change f 30 = _ at g30;change f 31 = _ at g31;change f 13 = _ at g13;change f 14 = _ at g14;simp only [tb, Nat.reduceAdd, g3, g6, g8, g10, g11, g12, g29, g30, g31, g13, g14]
   by_cases hb0 : b = 0
   ·subst hb0;rw [Nat.gcd_zero_right] at hgc2
    have hap : 0 < a := by
     rw [hgc2];exact Nat.gcd_pos_of_pos_left _ (by omega)
    have han : ((a : Nat) : Int) ≠ 0 := by omega
    have hk : p.tdiv ((a : Nat) : Int) = zdA h js v i := by
     rw [hFe, hgc2];rfl
    have hz0 : ((0 : Nat) : Int) = 0 := rfl
    have hb1 : -1000000000 <= p.tdiv ((a : Nat) : Int) /\ p.tdiv ((a : Nat) : Int) <= 1000000000 := by rw [hk]; omega
    rw [hz0] at g14;simp only [hz0]
    repeat' (first |refine zE (by intro; simp (disch := omega) only [go_sem, han, hk, if_false]; rfl) ?_ |refine zy1 ?_ |refine zy2 ?_ |refine zy3 ?_ |(simp only [fl1]) |refine zy9 rfl ?_ |refine zy8 ?_ |refine zy5 ?_)
    refine zx9 (fun m s => ∃ T w j, s = ⟨T, some ⟨0, zaa w⟩ :: some ⟨0, [xr, xc]⟩ :: (R ++ [some ⟨0, zaa (rw_ h i)⟩]), []⟩ /\ T.length = 94 /\ gt T 3 = .pref 0 0 0 /\ gt T 6 = .pref 1 0 0 /\ gt T 8 = .int .i64 (zaP (zdA h js v) i) /\ gt T 10 = .pref (R.length + 1 + 1) 0 0 /\ gt T 11 = .int .i64 (js.getD i 0 : Nat) /\ gt T 12 = .int .i64 p /\ gt T 29 = xr /\ gt T 30 = .int .i64 (h.length : Nat) /\ gt T 31 = .int .i64 (i : Nat) /\ gt T 13 = .int .i64 (zdA h js v i) /\ gt T 62 = .int .i64 (j : Nat) /\ m + j = 6 /\ w.length = 6 /\ (∀ t, t < j -> w.getD t 0 = (zjF h js v i).getD t 0) /\ ∀ t, j <= t -> w.getD t 0 = (zcD h js v i).getD t 0) ?_ 6 _ ⟨_, zcD h js v i, 0, rfl, rfl, rfl, rfl, rfl, rfl, rfl, rfl, rfl, rfl, rfl, rfl, rfl, by omega, hu6, fun t ht => by omega, fun t _ => rfl⟩;clear g3 g6 g8 g29 g30 g31 g10 g11 g12 g13 g14 f;rintro m3 _ ⟨T, w, j, rfl, hT, g3, g6, g8, g10, g11, g12, g29, g30, g31, g13, g62, hm3, hw6, hw1, hw2⟩;obtain ⟨f, rfl⟩ := exG hT;clear hT;change f 3 = _ at g3;change f 6 = _ at g6;change f 8 = _ at g8;change f 10 = _ at g10;change f 11 = _ at g11;change f 12 = _ at g12;change f 29 = _ at g29;change f 30 = _ at g30;change f 31 = _ at g31;change f 13 = _ at g13;change f 62 = _ at g62;simp only [tb, Nat.reduceAdd, g3, g6, g8, g10, g11, g12, g29, g30, g31, g13, g62]
    have hwl : (zaa w).length = 6 := by rw [zae, hw6]
    by_cases hj : j < 6
    ·have hja := zaK (r := w) (j := j) (by omega);rw [hw2 j (Nat.le_refl _)] at hja;have hovw := zbp (r := w) (j := j) (by omega) ((zcD h js v i).getD j 0 * zdA h js v i);have hmb := zp7 (hok j hj) (show -1000000000 <= zdA h js v i /\ zdA h js v i <= 1000000000 by omega);have hsj : (zjF h js v i).getD j 0 = (zcD h js v i).getD j 0 * zdA h js v i := ziv hj
     repeat' (first |refine zE (by intro; simp (disch := omega) only [go_sem, q0, hja, Nat.mul_one, Nat.zero_add]; rfl) ?_ |refine zx2 (by intro; simp (disch := omega) only [go_sem, Option.bind_eq_bind, q0, hovw, Nat.zero_add]; rfl) ?_ |refine zy1 ?_ |refine zy2 ?_ |refine zy3 ?_ |(simp only [zbr]) |refine zy6 ?_ |refine zy5 ?_ |refine zy4 rfl (fun hp => ?_) (fun hp => ?_) <;> try (exfalso; first | omega | contradiction))
     exact ⟨m3 - 1, by omega, _, w.set j ((zcD h js v i).getD j 0 * zdA h js v i), j + 1, rfl, rfl, rfl, rfl, rfl, rfl, rfl, rfl, rfl, rfl, rfl, rfl, rfl, by omega, by simpa using hw6, fun t ht => by
      by_cases e : t = j
      ·subst e; rw [zaD (by omega), hsj]
      ·rw [zay (by omega)]; exact hw1 t (by omega), fun t ht => by rw [zay (by omega)]; exact hw2 t (by omega)⟩
    ·have hje : j = 6 := by omega
     subst hje
     have hwe : w = zjF h js v i := zbf (by rw [hw6]; exact (znV _ _).symm) fun t ht => hw1 t (by omega)
     subst hwe;have hcs := zav hw6
     have d125 := fun m => s125 (m := m) hw6
     by_cases hS : okB 1000000000 (zjF h js v i)
     ·rw [decide_eq_true hS] at d125;have hn6 := zge (h := h) (js := js) h6 (i + 1)
      have hnl : (zaa (zcD h js v (i + 1))).length = 6 := by rw [zae, hn6]
      have hcn := zav hn6
      have hovn : Zz.over (zaa (zjF h js v i)) 0 (zaa (zcD h js v (i + 1))) = some (zaa (zcD h js v (i + 1))) := by
       unfold Zz.over;rw [hwl, hnl];simp [hwl]
      have hic := zaK (r := zjF h js v i) (j := js.getD i 0) (by omega)
      have hpne : p ≠ 0 := by omega
      have hqb := zgE (b := p) (M := 1000000000) hpne (hS _ hplt)
      have hqe : ((zjF h js v i).getD (js.getD i 0) 0).tdiv p = zp8 h js v i := by
       unfold zp8;rw [hpe i hi, hpp]
      rw [hqe] at hqb
      have c126 := fun m => s126 (m := m) hw6 k6 hS hbd hqb
      have hs0 : zmm (zjF h js v i) (zp8 h js v i) (rw_ h i) = zcD h js v (i + 1) := rfl;rw [hs0] at c126
      have e125 := fun m => s125 (m := m) hn6
      have hb2 := zgE (b := p) (M := 1000000000) hpne (hS _ hplt);have hne : zaP (zdA h js v) (i + 1) = zaP (zdA h js v) i * zdA h js v i := rfl
      by_cases hV : okB 1000000000 (zcD h js v (i + 1))
      ·rw [decide_eq_true hV] at e125;rw [hne] at hNi1;generalize hqq : zp8 h js v i = Q at *;generalize (zjF h js v i).getD (js.getD i 0) 0 = sx at *
       repeat' (first |refine zE (by intro; simp (disch := omega) only [go_sem, q0, hcs, hcn]; rfl) ?_ |refine zS rfl rfl (d125 _) ?_ |refine zS rfl rfl (e125 _) ?_ |refine zP rfl rfl (fun V => c126 ⟨V, []⟩) ?_ |refine zy1 ?_ |refine zy2 ?_ |refine zy3 ?_ |(simp only [fl1, zbr]) |refine zx4 ?_ |refine zx6 ?_ |refine zF rfl (by intro; simp (disch := omega) only [go_sem, q0, kl, hcs, hgc, hic, hpne, hqe, if_false, Nat.mul_one]; rfl) rfl ?_ |refine WT.big rfl rfl (by intro; simp (disch := omega) only [go_sem, q0, kl, hcs, hgc, hic, if_false]; rfl) (by simp (disch := omega) only [go_sem, zbh]; rfl) (by first | exact .inl rfl | exact .inr (zan _) | exact .inr trivial | (right; apply zau; simp only [zaR, zNA, zCA, List.getElem?_cons_succ, List.getElem?_cons_zero, Tch.free, and_true, true_and]; first | done | omega)) (by simp only [pt8, pt1, pt3, pt6]; rfl) ?_ |refine zx3 rfl rfl (by intro; simp (disch := omega) only [go_sem, Option.bind_eq_bind, q0, hnl, hovn]; rfl) (by simp (disch := omega) only [go_sem, zbh]; rfl) (by first | exact .inl rfl | exact .inr (zan _) | exact .inr trivial | (right; apply zau; simp only [zaR, zNA, zCA, List.getElem?_cons_succ, List.getElem?_cons_zero, Tch.free, and_true, true_and]; first | done | omega)) ?_ |refine zy9 rfl ?_ |refine zy6 ?_ |refine zy8 ?_)
       exact ⟨m - 1, by omega, _, _, i + 1, rfl, rfl, rfl, rfl, rfl, rfl, rfl, rfl, by omega, hV, fun k hk => by
        by_cases e : k = i
        ·subst e; exact ⟨hS, hV⟩
        ·exact hoks k (by omega)⟩
      ·rw [decide_eq_false hV] at e125
       have hno : ¬ zjV h js v := fun hh => hV (hh i hi).2
       rw [if_neg hno, if_neg (show ¬ (3 : Int) = 0 by decide)];generalize hqq : zp8 h js v i = Q at *;generalize (zjF h js v i).getD (js.getD i 0) 0 = sx at *
       repeat' (first |refine zE (by intro; simp (disch := omega) only [go_sem, q0, hcs, hcn]; rfl) ?_ |refine zS rfl rfl (d125 _) ?_ |refine zS rfl rfl (e125 _) ?_ |refine zP rfl rfl (fun V => c126 ⟨V, []⟩) ?_ |refine zy1 ?_ |refine zy2 ?_ |refine zy3 ?_ |(simp only [fl1, fl2, fl5, fl8]) |refine zx4 ?_ |refine zx6 ?_ |refine zF rfl (by intro; simp (disch := omega) only [go_sem, q0, kl, hcs, hgc, hic, hpne, hqe, if_false, Nat.mul_one]; rfl) rfl ?_ |refine WT.big rfl rfl (by intro; simp (disch := omega) only [go_sem, q0, kl, hcs, hgc, hic, if_false]; rfl) (by simp (disch := omega) only [go_sem, zbh]; rfl) (by first | exact .inl rfl | exact .inr (zan _) | exact .inr trivial | (right; apply zau; simp only [zaR, zNA, zCA, List.getElem?_cons_succ, List.getElem?_cons_zero, Tch.free, and_true, true_and]; first | done | omega)) (by simp only [pt8, pt1, pt3, pt6]; rfl) ?_ |refine zx3 rfl rfl (by intro; simp (disch := omega) only [go_sem, Option.bind_eq_bind, q0, hnl, hovn]; rfl) (by simp (disch := omega) only [go_sem, zbh]; rfl) (by first | exact .inl rfl | exact .inr (zan _) | exact .inr trivial | (right; apply zau; simp only [zaR, zNA, zCA, List.getElem?_cons_succ, List.getElem?_cons_zero, Tch.free, and_true, true_and]; first | done | omega)) ?_ |refine zy0 rfl ?_ |refine zy9 rfl ?_ |refine zy6 ?_ |refine zy8 ?_ |refine zy7 ?_)
       exact ⟨_, rfl, rfl⟩
     ·rw [decide_eq_false hS] at d125
      have hno : ¬ zjV h js v := fun hh => hS (hh i hi).1
      rw [if_neg hno, if_neg (show ¬ (3 : Int) = 0 by decide)]
      repeat' (first |refine zE (by intro; simp (disch := omega) only [go_sem, q0, hcs]; rfl) ?_ |refine zS rfl rfl (d125 _) ?_ |refine zy1 ?_ |refine zy2 ?_ |refine zy3 ?_ |(simp only [fl1, fl2, fl5, fl8]) |refine zy0 rfl ?_ |refine zy9 rfl ?_ |refine zy8 ?_ |refine zy7 ?_)
      exact ⟨_, rfl, rfl⟩
   ·have hbn : ((b : Nat) : Int) ≠ 0 := by omega
    have hml := Nat.mod_lt a (show 0 < b by omega);have ht : ((a : Nat) : Int).tmod ((b : Nat) : Int) = ((a % b : Nat) : Int) := rfl
    repeat' (first |refine zE (by intro; simp (disch := omega) only [go_sem, hbn, ht, if_false]; rfl) ?_ |refine zy1 ?_ |refine zy2 ?_ |refine zy3 ?_ |(simp only [fl1, fl4, zbr]) |refine zx5 rfl ?_ |refine zy0 rfl ?_ |refine zy6 ?_ |refine zy5 ?_)
    exact ⟨a % b, by omega, _, b, a % b, rfl, rfl, rfl, rfl, rfl, rfl, rfl, rfl, rfl, rfl, rfl, rfl, rfl, rfl, by omega, by omega, (zo7 a b).trans hgc2⟩
  ·have hie : i = h.length := by omega
   have hall : zjV h js v := fun k hk => hoks k (by omega)
   rw [if_pos hall, if_pos rfl, <- hie];have hce := zev (r := zcD h js v i) (r' := zer6) (by rw [hu6]; rfl);rw [hu6] at hce;have hce' : zaT [true, true, true, true, true, true] (zaa (zcD h js v i)) [.int .i64 0, .int .i64 0, .int .i64 0, .int .i64 0, .int .i64 0, .int .i64 0] = some (decide (zcD h js v i = zer6)) := hce
   by_cases hz : zcD h js v i = zer6
   ·rw [decide_eq_true hz] at hce';rw [if_pos hz]
    repeat' (first |refine zE (by intro; simp (disch := omega) only [go_sem, zaZ, q0, hcu, hce']; rfl) ?_ |refine zy1 ?_ |refine zy2 ?_ |refine zy3 ?_ |(simp only [fl1]) |refine zy9 rfl ?_ |refine zy6 ?_ |refine zy8 ?_ |refine zy7 ?_ |refine zy4 rfl (fun hp => ?_) (fun hp => ?_) <;> try (exfalso; first | omega | contradiction))
    exact ⟨_, rfl, rfl⟩
   ·rw [decide_eq_false hz] at hce';rw [if_neg hz]
    repeat' (first |refine zE (by intro; simp (disch := omega) only [go_sem, zaZ, q0, hcu, hce']; rfl) ?_ |refine zy1 ?_ |refine zy2 ?_ |refine zy3 ?_ |(simp only [fl1, fl2]) |refine zy0 rfl ?_ |refine zy8 ?_ |refine zy7 ?_ |refine zy4 rfl (fun hp => ?_) (fun hp => ?_) <;> try (exfalso; first | omega | contradiction))
    exact ⟨_, rfl, rfl⟩
 ·have eO : znj rows v = 1 := if_neg hA;have eD : zk0 rows v = 0 := if_neg (by rw [eO]; decide);rw [eO, eD]
  by_cases hv : VM rows
  ·have hok : decide (okB 1000000000 v) = false := decide_eq_false fun h => hA ⟨hv, h⟩
   rw [hok] at c125;have e0 : zjP rows = 0 := if_pos hv;rw [e0] at c122;refine zx0 rfl (zaz Tryd.func9 cir9) (by show 2 <= 94; decide) ?_;unfold ir9;simp only [zaw, List.replicate, zNA, zAN]
   repeat' (first |refine zx1 rfl ?_ |refine zE (by intro; simp (disch := omega) only [go_sem, Zz.look, zCA, zNA, hcv]; rfl) ?_ |refine zx2 (by intro; simp (disch := omega) only [go_sem, Zz.look, Option.bind_eq_bind, zbG, Nat.reduceAdd, zat, List.set_cons_zero, List.set_cons_succ]; rfl) ?_ |refine zS rfl rfl (c122 _) ?_ |refine zS rfl rfl (c125 _) ?_ |refine zy1 ?_ |refine zy2 ?_ |refine zy3 ?_ |(simp only [fl1, fl2]) |refine zy0 rfl ?_ |refine zy7 ?_)
   exact ⟨_, rfl, rfl⟩
  ·have e0 : zjP rows = 1 := if_neg hv;rw [e0] at c122;refine zx0 rfl (zaz Tryd.func9 cir9) (by show 2 <= 94; decide) ?_;unfold ir9;simp only [zaw, List.replicate, zNA, zAN]
   repeat' (first |refine zN rfl ?_ |refine zE (by intro; simp (disch := omega) only [go_sem, zCA, zNA]; rfl) ?_ |refine zx2 (by intro; simp (disch := omega) only [go_sem, Zz.look, Option.bind_eq_bind, zbG, Nat.reduceAdd, zat, List.set_cons_zero, List.set_cons_succ]; rfl) ?_ |refine zS rfl rfl (c122 _) ?_ |refine zy1 ?_ |refine zy2 ?_ |refine zy3 ?_ |(simp only [fl1, fl2]) |refine zy0 rfl ?_ |refine zy7 ?_)
   exact ⟨_, rfl, rfl⟩
theorem x76 {l l' : AV} {rows : List (List Int)} (hl : RwL l rows) (hmax : rows.length < 9223372036854775807) {v : List Int} (h6 : v.length = 6) {m : Mem} (h0 : Zz.byVal m.heap l' = some l) : zaA M4 9 [l', .agg (zaa v)] m = some (.tuple [.int .i64 (zk0 rows v), .int .i64 (znj rows v)], m) :=
 zaS (zal h0 (zal (byI _ _) rfl)) ((f76 hl hmax h6).mono fun y m' h => by rw [h]; rfl)
end Go.Proofs.YtgchabldcnmccabDoor

