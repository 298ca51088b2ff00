import Derived.Test.YtgchabldcnmccabDoorUTa
import Derived.Test.YtgchabldcnmccabDoorUIr
import Derived.Test.YtgchabldcnmccabDoorUPm
import Derived.Test.YtgchabldcnmccabDoorUPq
import Derived.Test.YtgchabldcnmccabDoorUQB
import Derived.Test.YtgchabldcnmccabDoorAbsI
import Derived.Test.YtgchabldcnmccabDoorUPo
import Derived.Test.YtgchabldcnmccabDoorUTe

set_option linter.unusedSimpArgs false
set_option linter.unusedVariables false

namespace Go.Proofs.YtgchabldcnmccabDoor
open Go.Zz
set_option maxRecDepth 100000
set_option maxHeartbeats 8000000
noncomputable def M1 : Env := E21.put 48 (zaA E16 48)
theorem zt2 : EnvOk Tryd.prog M1 := Env.put_ok zm8 (za6 znP (zaq Tryd.func48 (by kernel_rfl)))
theorem f125 {r : List Int} (h6 : r.length = 6) : WF M1 (.func 24 [] []) [.agg (zaa r)] ⟨[], []⟩ fun y m' => y = .bool (decide (okB 1000000000 r)) := by
 have hml : (zaa r).length = 6 := by rw [zae, h6]
 have hcut := zav h6;refine zx0 rfl (zaz Tryd.func24 cir24) (by show 1 <= 16; decide) ?_;unfold ir24;simp only [zaw, List.replicate, zNA, zAN]
 repeat' (first |refine zE (by intro; simp (disch := omega) only [go_sem, Zz.look, hcut]; rfl) ?_ |refine zy1 ?_ |refine zy2 ?_ |refine zy3 ?_ |(simp only [fl1]) |refine zy5 ?_)
 refine zx9 (fun m s => ∃ T j, s = ⟨T, [some ⟨0, zaa r⟩], []⟩ /\ T.length = 16 /\ gt T 5 = .agg (zaa r) /\ gt T 6 = .int .i64 (j : Nat) /\ m + j = 6 /\ ∀ t, t < j -> -1000000000 <= r.getD t 0 /\ r.getD t 0 <= 1000000000) ?_ 6 _ ⟨_, 0, rfl, rfl, rfl, rfl, by omega, fun t ht => by omega⟩;rintro m _ ⟨T, j, rfl, hT, g5, g6, hm, hz⟩;obtain ⟨f, rfl⟩ := exG hT;clear hT;change f 5 = _ at g5;change f 6 = _ at g6;simp only [tb, Nat.reduceAdd, g5, g6]
 by_cases hj : j < 6
 ·have hia := zaK (r := r) (j := j) (by omega);generalize hx : r.getD j 0 = x at *
  by_cases hxb : -1000000000 <= x /\ x <= 1000000000
  ·have hxb1 := hxb
   repeat' (first |refine zx1 rfl ?_ |refine zE (by intro; simp (disch := omega) only [go_sem, Int.reduceNeg, Int.reduceAdd, hia, Nat.mul_one]; rfl) ?_ |refine zy1 ?_ |refine zy2 ?_ |refine zy3 ?_ |(simp only [fl1, zbr]) |refine zy6 ?_ |refine zy5 ?_ |refine zx7 rfl (by intro hp; simp only [hp, decide_true]; rfl) (by intro hp; simp only [hp, decide_false]; rfl) (fun hp => ?_) (fun hp => ?_) <;> try (exfalso; first | omega | contradiction) |refine zy4 rfl (fun hp => ?_) (fun hp => ?_) <;> try (exfalso; first | omega | contradiction))
   exact ⟨m - 1, by omega, _, j + 1, rfl, rfl, rfl, rfl, by omega, fun t ht => by
    by_cases e : t = j
    ·subst e; rw [hx]; exact hxb
    ·exact hz t (by omega)⟩
  ·have hxb1 := hxb
   have hd : decide (okB 1000000000 r) = false := decide_eq_false fun h => hxb (by have := h j hj; rw [hx] at this; exact this)
   repeat' (first |refine zx1 rfl ?_ |refine zN rfl ?_ |refine zE (by intro; simp (disch := omega) only [go_sem, Int.reduceNeg, Int.reduceAdd, hia, Nat.mul_one]; rfl) ?_ |refine zy1 ?_ |refine zy2 ?_ |refine zy3 ?_ |(simp only [fl1, fl2, fl5, fl8]) |refine zy0 rfl ?_ |refine zy6 ?_ |refine zy7 ?_ |refine zy5 ?_ |refine zx7 rfl (by intro hp; simp only [hp, decide_true]; rfl) (by intro hp; simp only [hp, decide_false]; rfl) (fun hp => ?_) (fun hp => ?_) <;> try (exfalso; first | omega | contradiction) |refine zy4 rfl (fun hp => ?_) (fun hp => ?_) <;> try (exfalso; first | omega | contradiction))
   all_goals exact ⟨_, rfl, by rw [hd]; rfl⟩
 ·have hje : j = 6 := by omega
  subst hje;have hd : decide (okB 1000000000 r) = true := decide_eq_true hz
  repeat' (first |refine zE (by intro; simp (disch := omega) only [go_sem]; rfl) ?_ |refine zy1 ?_ |refine zy2 ?_ |refine zy3 ?_ |(simp only [fl1]) |refine zy9 rfl ?_ |refine zy8 ?_ |refine zy7 ?_)
  exact ⟨_, rfl, by rw [hd]; rfl⟩
theorem s125 {r : List Int} (h6 : r.length = 6) {m : Mem} : zar M1 24 [.agg (zaa r)] m = some (.bool (decide (okB 1000000000 r)), m) :=
 zaB (za1 (zjj r) rfl) ((f125 h6).mono fun y m' h => by rw [h]; rfl)
noncomputable def M2 : Env := M1.put 24 (zar M1 24)
theorem zsS : EnvOk Tryd.prog M2 := Env.put_ok zt2 (zax zt2 (zaq Tryd.func24 (by kernel_rfl)))
def zmm (v : List Int) (q : Int) (r : List Int) : List Int := (List.range 6).map fun j => v.getD j 0 - q * r.getD j 0
theorem zp9 {v r : List Int} {q : Int} {t : Nat} (h : t < 6) : (zmm v q r).getD t 0 = v.getD t 0 - q * r.getD t 0 := by
 unfold zmm;simp [List.getD_eq_getElem?_getD, h]
theorem zoc (v : List Int) (q : Int) (r : List Int) : (zmm v q r).length = 6 := by simp [zmm]
theorem zp7 {a b : Int} {A B : Int} (ha : -A <= a /\ a <= A) (hb : -B <= b /\ b <= B) : -(A * B) <= a * b /\ a * b <= A * B := by
 have h1 := Int.mul_nonneg (show 0 <= A - a by omega) (show 0 <= B - b by omega);have h2 := Int.mul_nonneg (show 0 <= A + a by omega) (show 0 <= B + b by omega);have h3 := Int.mul_nonneg (show 0 <= A - a by omega) (show 0 <= B + b by omega);have h4 := Int.mul_nonneg (show 0 <= A + a by omega) (show 0 <= B - b by omega)
 constructor <;> grind
theorem f126 {v r : List Int} {q : Int} (hv6 : v.length = 6) (hr6 : r.length = 6) (hv : okB 1000000000 v) (hr : okB 6000000000 r) (hq : -1000000000 <= q /\ q <= 1000000000) : WF M2 (.func 25 [] []) [.agg (zaa v), .int .i64 q, .agg (zaa r)] ⟨[], []⟩ fun y m' => y = .agg (zaa (zmm v q r)) := by
 have hmv : (zaa v).length = 6 := by rw [zae, hv6]
 have hmr : (zaa r).length = 6 := by rw [zae, hr6]
 have hcr := zav hr6;refine zx0 rfl (zaz Tryd.func25 cir25) (by show 3 <= 24; decide) ?_;unfold ir25;simp only [zaw, List.replicate, zNA, zAN]
 repeat' (first |refine zE (by intro; simp (disch := omega) only [go_sem, Zz.look, zCA, zNA, Nat.reduceAdd, hcr]; rfl) ?_ |refine zy1 ?_ |refine zy2 ?_ |refine zy3 ?_ |(simp only [fl1]) |refine zy5 ?_)
 refine zx9 (fun m s => ∃ T j w, s = ⟨T, [some ⟨0, zaa w⟩, some ⟨0, zaa r⟩, some ⟨0, zaa zer6⟩], []⟩ /\ T.length = 24 /\ gt T 1 = .int .i64 q /\ gt T 3 = .pref 0 0 0 /\ gt T 6 = .pref 2 0 0 /\ gt T 9 = .agg (zaa r) /\ gt T 10 = .int .i64 (j : Nat) /\ m + j = 6 /\ w.length = 6 /\ (∀ t, t < j -> w.getD t 0 = v.getD t 0 - q * r.getD t 0) /\ ∀ t, j <= t -> w.getD t 0 = v.getD t 0) ?_ 6 _ ⟨_, 0, v, rfl, rfl, rfl, rfl, rfl, rfl, rfl, by omega, hv6, fun t ht => by omega, fun t _ => rfl⟩;rintro m _ ⟨T, j, w, rfl, hT, g1, g3, g6, g9, g10, hm, hw6, hw1, hw2⟩;obtain ⟨f, rfl⟩ := exG hT;clear hT;change f 1 = _ at g1;change f 3 = _ at g3;change f 6 = _ at g6;change f 9 = _ at g9;change f 10 = _ at g10;simp only [tb, Nat.reduceAdd, g1, g3, g6, g9, g10]
 by_cases hj : j < 6
 ·have hia := zaK (r := w) (j := j) (by omega);rw [hw2 j (Nat.le_refl _)] at hia;have hib := zaK (r := r) (j := j) (by omega);have hov := zbp (r := w) (j := j) (by omega) (v.getD j 0 - q * r.getD j 0);have hvj := hv j hj;have hrj := hr j hj;have hm1 := zp7 hq hrj
  repeat' (first |refine zE (by intro; simp (disch := omega) only [go_sem, Zz.look, hia, hib, Nat.mul_one, Nat.zero_add]; rfl) ?_ |refine zx2 (by intro; simp (disch := omega) only [go_sem, Zz.look, Option.bind_eq_bind, hov, Nat.zero_add, zat, List.set_cons_zero]; rfl) ?_ |refine zy1 ?_ |refine zy2 ?_ |refine zy3 ?_ |(simp only [zbr]) |refine zy6 ?_ |refine zy5 ?_ |refine zy4 rfl (fun hp => ?_) (fun hp => ?_) <;> try (exfalso; first | omega | contradiction))
  exact ⟨m - 1, by omega, _, j + 1, w.set j (v.getD j 0 - q * r.getD j 0), rfl, rfl, rfl, rfl, rfl, rfl, rfl, by omega, by simpa using hw6, fun t ht => by
   by_cases e : t = j
   ·subst e; rw [zaD (by omega)]
   ·rw [zay (by omega)]; exact hw1 t (by omega), fun t ht => by rw [zay (by omega)]; exact hw2 t (by omega)⟩
 ·have hje : j = 6 := by omega
  subst hje
  have hwe : w = zmm v q r := zbf (by rw [hw6, zoc]) fun t ht => by rw [hw1 t (by omega), zp9 (by omega)]
  subst hwe;have hcz := zav hw6
  have hmw : (zaa (zmm v q r)).length = 6 := by rw [zae, hw6]
  have hov := fun x0 x1 x2 x3 x4 x5 => zaN hw6 (x0 := x0) (x1 := x1) (x2 := x2) (x3 := x3) (x4 := x4) (x5 := x5)
  have hze : zaa zer6 = [.int .i64 0, .int .i64 0, .int .i64 0, .int .i64 0, .int .i64 0, .int .i64 0] := rfl;rw [hze]
  repeat' (first |refine zE (by intro; simp (disch := omega) only [go_sem, Zz.look, hcz]; rfl) ?_ |refine zx2 (by intro; simp (disch := omega) only [go_sem, Zz.look, Option.bind_eq_bind, hmw, hov, zat, List.set_cons_zero, List.set_cons_succ]; rfl) ?_ |refine zy1 ?_ |refine zy2 ?_ |refine zy3 ?_ |(simp only [fl1]) |refine zy9 rfl ?_ |refine zy8 ?_ |refine zy7 ?_)
  exact ⟨_, by simp only [zbZ, gt6, Zz.look, List.getElem?_cons_zero, List.getElem?_cons_succ, za4, hcz, if_true, Option.bind_some, Option.map_some]; rfl, rfl⟩
theorem s126 {v r : List Int} {q : Int} (hv6 : v.length = 6) (hr6 : r.length = 6) (hv : okB 1000000000 v) (hr : okB 6000000000 r) (hq : -1000000000 <= q /\ q <= 1000000000) {m : Mem} : zar M2 25 [.agg (zaa v), .int .i64 q, .agg (zaa r)] m = some (.agg (zaa (zmm v q r)), m) :=
 zaB (za1 (zjj v) (za1 rfl (za1 (zjj r) rfl))) ((f126 hv6 hr6 hv hr hq).mono fun y m' h => by rw [h]; simp only [Zz.resV, Zz.resA, zeE])
noncomputable def M3 : Env := M2.put 25 (zar M2 25)
theorem zsY : EnvOk Tryd.prog M3 := Env.put_ok zsS (zax zsS (zaq Tryd.func25 (by kernel_rfl)))
theorem f141 {x : Int} {H : Hp} {L : List (Option ALoop)} : WF M3 (.func 50 [] []) [.int .i64 x] ⟨H, L⟩ fun y m' => y = .bool (decide (x ≠ 0)) /\ m' = ⟨H, L⟩ := by
 refine zx0 rfl (zaz Tryd.func50 cir50) (by show 1 <= 5; decide) ?_;unfold ir50;simp only [zaw, List.replicate, zNA, zAN]
 repeat' (first |refine zE (by intro; simp (disch := omega) only [go_sem]; rfl) ?_ |refine zy1 ?_ |refine zy2 ?_ |refine zy3 ?_ |(simp only [fl1]) |refine zy7 ?_)
 exact ⟨_, rfl, rfl, rfl⟩
theorem f134r {r : List Int} {b p : Nat} (h6 : r.length = 6) (hp : p < 6) (hz : ∀ t, t < p -> r.getD t 0 = 0) (hpp : r.getD p 0 ≠ 0) {H : Hp} {L : List (Option ALoop)} (hk : Zz.look H b 0 = some (zaa r)) :
  WF M3 (.func 49 [] []) [.sref b 0 0 1 6 (some 6), .func 50 [] []] ⟨H, L⟩ fun y m' => y = .int .i64 (p : Nat) /\ m' = ⟨H, L⟩ := by
 refine zx0 rfl (zaz Tryd.func49 ztw) (by show 2 <= 19; decide) ?_;unfold ir49;simp only [zaw, List.replicate, zNA, zAN]
 repeat' (first |refine zE (by intro; simp (disch := omega) only [go_sem]; rfl) ?_ |refine WO.opE (by intro; exact zaf (by simp only [go_sem]; first | rfl | assumption)) (by simp only [pt7]; rfl) ?_ |refine zy1 ?_ |refine zy2 ?_ |refine zy3 ?_ |(simp only [fl1]) |refine zy5 ?_)
 refine zx9 (fun m s => ∃ T j, s = ⟨T, H, L⟩ /\ T.length = 19 /\ gt T 0 = .sref b 0 0 1 6 (some 6) /\ gt T 1 = .func 50 [] [] /\ gt T 7 = .int .i64 6 /\ gt T 8 = .int .i64 (j : Nat) /\ m + j = 6 /\ j <= p) ?_ 6 _ ⟨_, 0, rfl, rfl, rfl, rfl, rfl, rfl, by omega, by omega⟩;rintro m _ ⟨T, j, rfl, hT, g0, g1, g7, g8, hm, hjp⟩;obtain ⟨f, rfl⟩ := exG hT;clear hT;change f 0 = _ at g0;change f 1 = _ at g1;change f 7 = _ at g7;change f 8 = _ at g8;simp only [tb, Nat.reduceAdd, g0, g1, g7, g8];have hat := zaK (r := r) (j := j) (by omega)
 have hix : zaj 1 (.sref b 0 0 1 6 (some 6)) (.int .i64 (j : Int)) = some (.pref b 0 j) := by rw [zbl, zbb (by omega)]; simp
 repeat' (first |refine zE (by intro; simp (disch := omega) only [go_sem, hix, hk, hat]; rfl) ?_ |refine zy1 ?_ |refine zy2 ?_ |refine zy3 ?_ |(simp only [fl1]) |refine zy6 ?_ |refine zy5 ?_ |refine zy4 rfl (fun hp => ?_) (fun hp => ?_) <;> try (exfalso; first | omega | contradiction))
 refine WO.call rfl rfl (f141.mono ?_);rintro y m' ⟨rfl, rfl⟩;simp only [pt8, pt0]
 by_cases hje : j = p
 ·subst hje;rw [decide_eq_true hpp]
  repeat' (first |refine zE (by intro; simp (disch := omega) only [go_sem]; rfl) ?_ |refine zy1 ?_ |refine zy2 ?_ |refine zy3 ?_ |(simp only [fl1, fl2, fl5, fl8]) |refine zy0 rfl ?_ |refine zy7 ?_)
  exact ⟨_, rfl, rfl, rfl⟩
 ·rw [hz j (by omega), decide_eq_false (show ¬ ((0 : Int) ≠ 0) from fun hh => hh rfl)]
  repeat' (first |refine zE (by intro; simp (disch := omega) only [go_sem]; rfl) ?_ |refine zy2 ?_ |refine zy3 ?_ |(simp only [zbr]) |refine zy9 rfl ?_ |refine zy6 ?_)
  exact ⟨m - 1, by omega, _, j + 1, rfl, rfl, rfl, rfl, rfl, rfl, by omega, by omega⟩
set_option maxRecDepth 100000
set_option maxHeartbeats 8000000
def zo1 (rows : List (List Int)) : List Nat := if VM rows then (zbx rows).js else []
theorem zsh {a b : AV} : Zz.cut [a, b] 0 2 = some [a, b] := rfl
theorem s122 {l : AV} {rows : List (List Int)} (hl : RwL l rows) (hmax : rows.length < 9223372036854775807) : ∃ xr xc, RwL xr (zie rows) /\ NatS xc (zo1 rows) /\ ∀ m, zar M3 23 [l] m = some (.tuple [.agg [xr, xc], .int .i64 (zjP rows)], m) := by
 obtain ⟨xr, hxr, c27⟩ := x27 hl hmax
 have c27 := fun m => c27 m l (hl.byVal _)
 by_cases hv : VM rows
 ·have ec : zjP rows = 0 := if_pos hv;have eh : zie rows = zaI rows := if_pos hv;have ek : zo1 rows = (zbx rows).js := if_pos hv
  have h6 : Six rows := fun i hi => hl.six hi
  rw [ec] at c27 ⊢;rw [eh] at hxr ⊢;rw [ek];have hxl := hxr.len;have hxc := hxr.cells;unfold AV.cells at hxc;have hH := zd8 hv h6;have hHf := hH.hf;rw [<- hH.len] at hHf;have hr := znX (ziT hv h6)
  have hl6 : (zaI rows).length <= 6 := by rw [hH.len]; have := (ziT hv h6).six; omega
  have hjl : (zbx rows).js.length = (zaI rows).length := hH.len.symm
  have hw : WF M3 (.func 23 [] []) [l] ⟨[], []⟩ fun y m' => ∃ u q, y = .tuple [.agg [xr, u], .int .i64 0] /\ GS 1 m'.heap u q (zas (zbx rows).js) := by
   refine zx0 rfl (zaz Tryd.func23 zsB) (by show 1 <= 35; decide) ?_;unfold ir23;simp only [zaw, List.replicate, zNA, zAN]
   repeat' (first |refine zE (by intro; simp (disch := omega) only [go_sem, zCA, zNA, zaZ, Option.bind_eq_bind, zaF, hxc]; rfl) ?_ |refine zx2 (by intro; simp (disch := omega) only [go_sem, Zz.look, Option.bind_eq_bind, zbG, Nat.reduceAdd, zat, List.set_cons_zero, List.set_cons_succ]; rfl) ?_ |refine WO.opE (by intro; exact zaf (by simp only [go_sem]; first | rfl | assumption)) (by simp only [pt8, pt5]; rfl) ?_ |refine zS rfl rfl (c27 _) ?_ |refine zy1 ?_ |refine zy2 ?_ |refine zy3 ?_ |(simp only [fl1]) |refine zy9 rfl ?_ |refine zy6 ?_ |refine zy5 ?_)
   refine zx9 (fun m s => ∃ T G u q i, s = ⟨T, G, []⟩ /\ T.length = 35 /\ gt T 2 = .pref 0 0 0 /\ gt T 4 = xr /\ gt T 6 = .pref 1 0 0 /\ gt T 20 = xr /\ gt T 21 = .int .i64 ((zaI rows).length : Nat) /\ gt T 22 = .int .i64 (i : Nat) /\ m + i = (zaI rows).length /\ Zz.look G 0 0 = some [.snil, .snil] /\ Zz.look G 1 0 = some [xr, u] /\ 1 < q /\ GS 1 G u q (zas ((zbx rows).js.take i))) ?_ (zaI rows).length _ ⟨_, _, .snil, 2, 0, rfl, rfl, rfl, rfl, rfl, rfl, rfl, rfl, by omega, rfl, rfl, by decide, .inl ⟨rfl, rfl⟩⟩;rintro m _ ⟨T, G, u, q, i, rfl, hT, g2, g4, g6, g20, g21, g22, hm, k0, k1, hq, hgs⟩;obtain ⟨f, rfl⟩ := exG hT;clear hT;change f 2 = _ at g2;change f 4 = _ at g4;change f 6 = _ at g6;change f 20 = _ at g20;change f 21 = _ at g21;change f 22 = _ at g22;simp only [tb, Nat.reduceAdd, g2, g4, g6, g20, g21, g22];have l0 := zah k0;have l1 := zah k1
   have huc : u.cells = some [u] := by
    rcases hgs with ⟨rfl, _⟩ | ⟨g, rfl, _⟩ | ⟨g, n, rfl, _⟩ <;> rfl
   unfold AV.cells at huc
   by_cases hi : i < (zaI rows).length
   ·have g6 := hxr.six hi;have hat := hxr.at hi;have hcut := zcu (t := zet (zaI rows) i) g6;have hcr : (rw_ (zaI rows) i).map (AV.int .i64) = zaa (rw_ (zaI rows) i) := rfl;rw [hcr] at hat hcut
    have hov := fun x0 x1 x2 x3 x4 x5 => zaN g6 (x0 := x0) (x1 := x1) (x2 := x2) (x3 := x3) (x4 := x4) (x5 := x5)
    have hml : (zaa (rw_ (zaI rows) i)).length = 6 := by rw [zae, g6]
    have kk0 : Zz.look (G ++ [some ⟨0, zaa (rw_ (zaI rows) i)⟩]) 0 0 = some [.snil, .snil] := (zap l0).trans k0;have kk1 : Zz.look (G ++ [some ⟨0, zaa (rw_ (zaI rows) i)⟩]) 1 0 = some [xr, u] := (zap l1).trans k1;have hp6 := hHf.plt i hi;have hpp := hHf.pos i hi
    have hln : (zas ((zbx rows).js.take i)).length = i := by rw [zai, List.length_take, hjl]; omega
    obtain ⟨v2, q2, G2, b1, g2, b2, b3, b4⟩ := (hgs.more [some ⟨0, zaa (rw_ (zaI rows) i)⟩, some ⟨0, [.int .i64 (((zbx rows).js.getD i 0 : Nat) : Int)]⟩]).append (L := []) (bytes := 8) (n := 1) (cap := some 1) (id := G.length + 1) (lk1 rfl) rfl Nat.one_pos (by decide) ⟨by rw [Nat.div_one, hln]; omega, by rw [Nat.div_one, hln]; omega⟩
    have e1 : zas ((zbx rows).js.take i) ++ [.int .i64 (((zbx rows).js.getD i 0 : Nat) : Int)] = zas ((zbx rows).js.take (i + 1)) := by
     rw [zcY (by omega), zc4];rfl
    rw [e1] at g2
    have hG2 : ∀ p, p < 2 -> ∀ c, Zz.look G p 0 = some c -> Zz.look G2 p 0 = some c := fun p hp c hc => by
     have hg := b4 p (by simp; omega) (by omega);rw [zad hg];exact (zap (by omega)).trans hc
    have hk21 := hG2 1 (by decide) _ k1;have hk20 := hG2 0 (by decide) _ k0
    have hsa : zbz (G ++ [some ⟨0, zaa (rw_ (zaI rows) i)⟩]) 6 1 (.pref G.length 0 0) none none none = some (.sref G.length 0 0 1 6 (some 6)) := by
     have hlk : Zz.look (G ++ [some ⟨0, zaa (rw_ (zaI rows) i)⟩]) G.length 0 = some (zaa (rw_ (zaI rows) i)) := lk0 rfl;simp only [zbz, hlk, Option.bind_some, hml];rfl
    repeat' (first |refine zE (by intro; simp (disch := omega) only [go_sem, hat, hcut]; rfl) ?_ |refine zx2 (by intro; simp (disch := omega) only [go_sem, Option.bind_eq_bind, zbB, hov, hml, lk0, zat]; rfl) ?_ |refine zy1 ?_ |refine zy2 ?_ |refine zy3 ?_ |(simp only [fl1, fl4]) |refine zx4 ?_ |refine zF rfl (by intro; simp (disch := omega) only [go_sem, kk1]; rfl) rfl ?_ |refine WT.big rfl rfl (by intro; simp (disch := omega) only [go_sem, kk1]; rfl) (by simp (disch := omega) only [go_sem, zbh]; rfl) (by first | exact .inl rfl | exact .inr (zan _) | exact .inr trivial | (right; apply zau; simp only [zaR, zNA, zCA, List.getElem?_cons_succ, List.getElem?_cons_zero, Tch.free, and_true, true_and]; first | done | omega)) (by simp only [pt8, pt3]; rfl) ?_ |refine zy6 ?_ |refine zy5 ?_ |refine zy4 rfl (fun hp => ?_) (fun hp => ?_) <;> try (exfalso; first | omega | contradiction))
    refine WT.sliceArr rfl hsa (zan _) (by simp only [pt8, pt4]; rfl) ?_
    refine WT.callR (fun y R => y = .int .i64 (((zbx rows).js.getD i 0 : Nat) : Int) /\ R = []) [G.length] rfl rfl (fun j hj => by
     rw [List.mem_singleton] at hj;subst hj;refine zau ?_;simp only [zaR, zNA, zCA, List.getElem?_cons_succ, List.getElem?_cons_zero, Tch.free, and_true]
     omega) ?_ ?_
    ·intro V hV hVb
     refine (f134r (r := rw_ (zaI rows) i) (b := G.length) g6 hp6 (fun t ht => hHf.zero i hi t ht) (by have := hpp; unfold ent at this; omega) (by
      rw [zad (hVb _ (by simp))]
      exact lk0 rfl)).mono ?_
     rintro y m' ⟨rfl, rfl⟩;exact ⟨rfl, [], by simp, rfl, rfl⟩
    rintro _ R ⟨rfl, rfl⟩;simp only [zAN, pt8, pt5];have hst : (G2 : Hp).set 1 (some ⟨0, [xr, v2]⟩) = G2.set 1 (some ⟨0, [xr, v2]⟩) := rfl
    have hvc : v2.cells = some [v2] := by
     rcases g2 with ⟨rfl, _⟩ | ⟨g, rfl, _⟩ | ⟨g, n, rfl, _⟩ <;> rfl
    unfold AV.cells at hvc
    repeat' (first |refine zE (by intro; simp (disch := omega) only [go_sem]; rfl) ?_ |refine WT.append (sv := u) (xv := .sref (G.length + 1) 0 0 1 1 (some 1)) rfl rfl b1 (zan _) (zan _) (by simp only [pt8, pt7]; rfl) ?_ |refine zy2 ?_ |refine zy3 ?_ |(simp only [zbr]) |refine zx6 ?_ |refine zF rfl (by intro; simp (disch := omega) only [go_sem, zaZ, Option.bind_eq_bind, List.append_assoc, za0, List.length_append, zaF]; rfl) rfl ?_ |refine WT.big rfl rfl (by intro; simp (disch := omega) only [go_sem, zaZ, Option.bind_eq_bind, List.append_assoc, za0, List.length_append, zaF]; rfl) (by simp (disch := omega) only [go_sem, List.length_append, zbh]; rfl) (by first | exact .inl rfl | exact .inr (zan _) | exact .inr trivial | (right; apply zau; simp only [zaR, zNA, zCA, List.getElem?_cons_succ, List.getElem?_cons_zero, Tch.free, and_true, true_and]; first | done | omega)) (by simp only [pt8, pt6]; rfl) ?_ |refine zx3 rfl rfl (by intro; simp (disch := omega) only [go_sem, Option.bind_eq_bind, zcN, hk21, hvc, zat]; rfl) (by simp (disch := omega) only [go_sem, zbh]; rfl) (by first | exact .inl rfl | exact .inr (zan _) | exact .inr trivial | (right; apply zau; simp only [zaR, zNA, zCA, List.getElem?_cons_succ, List.getElem?_cons_zero, Tch.free, and_true, true_and]; first | done | omega)) ?_)
    exact ⟨m - 1, by omega, _, _, v2, q2, i + 1, rfl, rfl, rfl, rfl, rfl, rfl, rfl, rfl, by omega, (zad (List.getElem?_set_ne (by decide))).trans hk20, zaJ (zah hk21), by rcases b2 with rfl | rfl; exact hq; simp, zns g2 (.inr (List.getElem?_set_ne (by rcases b2 with rfl | rfl; omega; simp)))⟩
   ·have hie : i = (zaI rows).length := by omega
    subst hie;rw [List.take_of_length_le (by omega)] at hgs;have hres : Zz.look ((G : Hp).set 0 (some ⟨0, [xr, u]⟩)) 0 0 = some [xr, u] := zaJ l0
    repeat' (first |refine zE (by intro; simp (disch := omega) only [go_sem, k1, zsh]; rfl) ?_ |refine zx2 (by intro; simp (disch := omega) only [go_sem, Option.bind_eq_bind, zbG, Nat.reduceAdd, k0, zat]; rfl) ?_ |refine zy1 ?_ |refine zy2 ?_ |refine zy3 ?_ |(simp only [fl1]) |refine zy8 ?_ |refine zy7 ?_ |refine zy4 rfl (fun hp => ?_) (fun hp => ?_) <;> try (exfalso; first | omega | contradiction))
    exact ⟨_, by simp only [zbZ, gt2, gt3, za4, hres, zsh, if_true, Option.bind_some, Option.map_some]; rfl, u, q, rfl, zns hgs (.inr (List.getElem?_set_ne (by omega)))⟩
  obtain ⟨n, y, m', h1, u, q, rfl, h2⟩ := hw.ex;obtain ⟨xc, hx, hrx⟩ := GS.nat h2;refine ⟨xr, xc, hxr, hx, fun m => zaB (za1 hl.pureA rfl) ⟨⟨n, _, m', h1, ?_⟩⟩⟩;have e1 : Zz.resC m'.heap xr = some xr := hxr.resC _;have e2 : Zz.resC m'.heap u = some xc := (GS.resV h2).symm.trans hrx;simp only [Zz.resV, Zz.zr5, Zz.resA, Zz.zqg, e1, e2];rfl
 ·have ec : zjP rows = 1 := if_neg hv;have eh : zie rows = [] := if_neg hv;have ek : zo1 rows = [] := if_neg hv;rw [ec] at c27 ⊢;rw [eh] at hxr ⊢;rw [ek];refine ⟨.snil, .snil, zhY, .inl ⟨rfl, rfl⟩, fun m => zaB (za1 hl.pureA rfl) ?_⟩;refine zx0 rfl (zaz Tryd.func23 zsB) (by show 1 <= 35; decide) ?_;unfold ir23;simp only [zaw, List.replicate, zNA, zAN]
  repeat' (first |refine zE (by intro; simp (disch := omega) only [go_sem, zNA, zaZ]; rfl) ?_ |refine zx2 (by intro; simp (disch := omega) only [go_sem, Zz.look, Option.bind_eq_bind, zbG, Nat.reduceAdd, zat, List.set_cons_zero]; rfl) ?_ |refine zS rfl rfl (c27 _) ?_ |refine zy1 ?_ |refine zy2 ?_ |refine zy3 ?_ |(simp only [fl1, fl2]) |refine zy0 rfl ?_ |refine zy7 ?_)
  exact ⟨_, rfl, rfl⟩
set_option maxRecDepth 100000
set_option maxHeartbeats 8000000
noncomputable def M4 : Env := M3.put 23 (zar M3 23)
theorem M4_ok : EnvOk Tryd.prog M4 := Env.put_ok zsY (zax zsY (zaq Tryd.func23 (by kernel_rfl)))
def zml (h : List (List Int)) (js : List Nat) (v : List Int) : Nat -> List Int
 | 0 => v
 | i + 1 => zmm (zml h js v i) ((zml h js v i).getD (js.getD i 0) 0 / (rw_ h i).getD (js.getD i 0) 0) (rw_ h i)
def quoL (h : List (List Int)) (js : List Nat) (v : List Int) (i : Nat) : Int := (zml h js v i).getD (js.getD i 0) 0 / (rw_ h i).getD (js.getD i 0) 0
structure DivB (h : List (List Int)) (js : List Nat) : Prop where
 len : js.length = h.length
 le : h.length <= 6
 six : ∀ i, i < h.length -> (rw_ h i).length = 6
 lt : ∀ i, i < h.length -> js.getD i 0 < 6
 pos : ∀ i, i < h.length -> 0 < (rw_ h i).getD (js.getD i 0) 0
 bd : ∀ i, i < h.length -> okB 6000000000 (rw_ h i)
set_option maxRecDepth 100000
set_option maxHeartbeats 8000000
def zrf (h : List (List Int)) (js : List Nat) (v : List Int) (i : Nat) : List Int := (List.range i).map (quoL h js v)
def zod (h : List (List Int)) (js : List Nat) (v : List Int) : Prop := ∀ i, i < h.length -> okB 1000000000 (zml h js v (i + 1))
instance (h : List (List Int)) (js : List Nat) (v : List Int) : Decidable (zod h js v) := by unfold zod; infer_instance
def DivC (rows : List (List Int)) (v : List Int) : Prop := (VM rows /\ okB 1000000000 v) /\ zod (zaI rows) (zbx rows).js v
instance (rows : List (List Int)) (v : List Int) : Decidable (DivC rows v) := by unfold DivC; infer_instance
def remD (rows : List (List Int)) (v : List Int) : List Int := if DivC rows v then zml (zaI rows) (zbx rows).js v (zaI rows).length else zer6
def quoD (rows : List (List Int)) (v : List Int) : List Int := if DivC rows v then zrf (zaI rows) (zbx rows).js v (zaI rows).length else []
def errD (rows : List (List Int)) (v : List Int) : Int := if VM rows /\ okB 1000000000 v then if zod (zaI rows) (zbx rows).js v then 0 else 3 else 1
theorem znD {rows : List (List Int)} (hv : VM rows) (h6 : Six rows) : DivB (zaI rows) (zbx rows).js := by
 have hH := zd8 hv h6;have hHf := hH.hf;rw [<- hH.len] at hHf;have hr := znX (ziT hv h6);have hb := zrb hv h6;exact ⟨hH.len.symm, by rw [hH.len]; have := (ziT hv h6).six; omega, fun i hi => hH.six _ (by rw [zo5 hi]; exact List.getElem_mem hi), hHf.plt, hHf.pos, fun i hi j hj => hb i j hi hj⟩
structure IL (xr xc : AV) (h : List (List Int)) (js : List Nat) (v : List Int) (i : Nat) (H : Hp) : Prop where
 k0 : Zz.look H 0 0 = some (zaa (zml h js v i))
 k1 : Zz.look H 1 0 = some (zaa zer6)
 k2 : Zz.look H 2 0 = some [.snil]
 k3 : Zz.look H 3 0 = some [.int .i64 0]
 gs : ∃ u q, Zz.look H 5 0 = some [u] /\ 7 < q /\ GS 1 H u q (zaa (zrf h js v i))
 k6 : Zz.look H 6 0 = some [xr, xc]
 k7 : Zz.look H 7 0 = some (zaa (zml h js v i))
 ok : okB 1000000000 (zml h js v i)
 oks : ∀ k, k < i -> okB 1000000000 (zml h js v (k + 1))
def JL (xr xc : AV) (h : List (List Int)) (js : List Nat) (v : List Int) : Nat -> Hp -> Prop
 | 0, _ => False
 | i + 1, H => Zz.look H 0 0 = some (zaa (zml h js v i)) /\ Zz.look H 1 0 = some (zaa zer6) /\ Zz.look H 2 0 = some [.snil] /\ Zz.look H 3 0 = some [.int .i64 0] /\ (∃ u q, Zz.look H 5 0 = some [u] /\ 7 < q /\ GS 1 H u q (zaa (zrf h js v i))) /\ Zz.look H 6 0 = some [xr, xc] /\ Zz.look H 7 0 = some (zaa (zml h js v (i + 1))) /\ ∀ k, k < i -> okB 1000000000 (zml h js v (k + 1))
def PL (h : List (List Int)) (js : List Nat) (v : List Int) (m : Mem) : Prop := ∃ r : ALoop, m.loops = [some r] /\ r.pending = some .ret /\ Zz.look m.heap 1 0 = some (zaa zer6) /\ Zz.look m.heap 2 0 = some [.snil] /\ Zz.look m.heap 3 0 = some [.int .i64 3] /\ ¬ zod h js v
set_option maxRecDepth 100000
set_option maxHeartbeats 8000000
noncomputable def M5 : Env := M4
def memD (rows : List (List Int)) (v : List Int) : Prop := errD rows v = 0 /\ remD rows v = zer6
instance (rows : List (List Int)) (v : List Int) : Decidable (memD rows v) := by unfold memD; infer_instance
noncomputable def M6 : Env := M5
noncomputable def M7 : Env := M6
end Go.Proofs.YtgchabldcnmccabDoor

