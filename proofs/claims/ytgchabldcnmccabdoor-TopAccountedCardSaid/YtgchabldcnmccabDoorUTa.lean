import Derived.Test.YtgchabldcnmccabDoorUNk
import Derived.Test.YtgchabldcnmccabDoorUIr

set_option linter.unusedSimpArgs false
set_option linter.unusedVariables false

namespace Go.Proofs.YtgchabldcnmccabDoor
open Go.Zz
set_option maxRecDepth 100000
set_option maxHeartbeats 4000000
noncomputable def T1 : Env := E21.put 18 (zaA E1 18)
theorem T1_ok : EnvOk Tryd.prog T1 := Env.put_ok zm8 (za6 zqG (zaq Tryd.func18 (by kernel_rfl)))
noncomputable def T2 : Env := T1.put 20 (zb5 E19 20)
theorem T2_ok : EnvOk Tryd.prog T2 := Env.put_ok T1_ok (zfC zmp (zaq Tryd.func20 (by kernel_rfl)))
noncomputable def T3 : Env := T2.put 53 (zaA E8 53)
theorem ztQ : EnvOk Tryd.prog T3 := Env.put_ok T2_ok (za6 zqF (zaq Tryd.func53 (by kernel_rfl)))
theorem zqT {sz : Nat} {H : Hp} {v : AV} {q : Nat} {c : List AV} (h : GS sz H v q c) (hf : c.all za9 = true) (e : Int) (B : Hp) : ∃ new v', zb8 H (uniq (zkd (.tuple [v, .int .i64 e])) []) = some new /\ zpd H (uniq (zkd (.tuple [v, .int .i64 e])) []) B.length (.tuple [v, .int .i64 e]) = some (.tuple [v', .int .i64 e]) /\ GS sz (B ++ new) v' B.length c /\ Zz.resC (B ++ new) v' = Zz.resC H v := by
 rcases h with ⟨rfl, rfl⟩ | ⟨g, rfl, rfl, hk⟩ | ⟨g, n, rfl, h1, h2, hk⟩
 ·exact ⟨[], .snil, rfl, rfl, .inl ⟨rfl, rfl⟩, rfl⟩
 ·have hb := zaC.1 hk;have hB : Zz.look (B ++ [some ⟨0, []⟩]) B.length 0 = some [] := lk0 rfl;refine ⟨[some ⟨0, []⟩], .sref B.length 0 0 sz 0 (some 0), ?_, ?_, .inr (.inl ⟨0, rfl, rfl, lk0 rfl⟩), by simp only [Zz.resC, hk, hB]⟩
  ·simp [zkd, zlE, ziP, zi2, uniq, zb8, hb]
  ·simp [zkd, zlE, ziP, zi2, uniq, zpd, zr3, zqC, zrc, zdK, hk]
 ·have hb := zaC.1 hk;have hB : Zz.look (B ++ [some ⟨0, c⟩]) B.length 0 = some c := lk0 rfl;refine ⟨[some ⟨0, c⟩], .sref B.length 0 0 sz n none, ?_, ?_, .inr (.inr ⟨0, n, rfl, h1, h2, lk0 rfl⟩), by simp only [Zz.resC, hk, hB]⟩
  ·simp [zkd, zlE, ziP, zi2, uniq, zb8, hb, hf]
  ·simp [zkd, zlE, ziP, zi2, uniq, zpd, zr3, zqC, zrc, zdK, hk]
theorem w30 {l : AV} {rows : List (List Int)} (hl : RwL l rows) (hmax : rows.length < 9223372036854775807) : WF E19 (.func 20 [] []) [l] ⟨[], []⟩ fun y m' => ∃ v q, y = .tuple [v, .int .i64 (zjP rows)] /\ GS 6 m'.heap v q (zbi (ziH rows)) := by
 by_cases hv : VM rows
 ·unfold ziH zjP;rw [if_pos hv, if_pos hv];exact f30 hl hv
 ·unfold ziH zjP;rw [if_neg hv, if_neg hv]
  have c25 := fun m => s25 (m := m) hl hmax
  rw [decide_eq_false hv] at c25;have hlc := hl.cells;unfold AV.cells at hlc;refine zx0 rfl (zaz Tryd.func20 zsk) (by show 1 <= 138; decide) ?_;unfold ir20;simp only [zaw, List.replicate, zNA, zAN]
  repeat' (first |refine zE (by intro; simp (disch := omega) only [go_sem]; rfl) ?_ |refine zS rfl rfl (c25 _) ?_ |refine zy1 ?_ |refine zy2 ?_ |refine zy3 ?_ |(simp only [fl1, fl2]) |refine zy0 rfl ?_ |refine zy7 ?_)
  exact ⟨_, rfl, .snil, 0, rfl, .inl ⟨rfl, rfl⟩⟩
theorem zmo {rows : List (List Int)} : ∀ r ∈ ziH rows, r.length = 6 := by
 unfold ziH
 split
 ·exact zib
 ·intro r hr; cases hr
theorem r30 {l : AV} {rows : List (List Int)} (hl : RwL l rows) (hmax : rows.length < 9223372036854775807) : ∃ x, RwL x (ziH rows) /\ ∀ (B : Hp) (L : List (Option ALoop)), ∃ new v', (∀ l', Zz.byVal B l' = some l -> zb5 E19 20 [l'] ⟨B, L⟩ = some (.tuple [v', .int .i64 (zjP rows)], ⟨B ++ new, L⟩)) /\ GS 6 (B ++ new) v' B.length (zbi (ziH rows)) /\ Zz.resC (B ++ new) v' = some x := by
 obtain ⟨n, y, m', h1, v, q, rfl, h2⟩ := (w30 hl hmax).ex;obtain ⟨x, hx, hrx⟩ := GS.rows h2 zmo;refine ⟨x, hx, fun B L => ?_⟩;obtain ⟨new, v', a1, a2, a3, a4⟩ := zqT h2 (zfk _) (zjP rows) B;exact ⟨new, v', fun l' h0 => zfs (m := ⟨B, L⟩) (zal h0 rfl) ⟨⟨n, _, m', h1, new, _, a1, a2, rfl⟩⟩, a3, a4.trans hrx⟩
def okB (b : Int) (r : List Int) : Prop := ∀ j, j < 6 -> -b <= r.getD j 0 /\ r.getD j 0 <= b
instance (b : Int) (r : List Int) : Decidable (okB b r) := by unfold okB; infer_instance
theorem zjj (r : List Int) : Zz.pureA (.agg (zaa r)) = true := by
 show (zaa r).all Zz.pureC = true
 unfold zaa;rw [List.all_map]
 exact List.all_eq_true.2 fun _ _ => rfl
theorem f117 {r : List Int} {b : Int} (h6 : r.length = 6) (hb : 0 <= b /\ b <= 1000) : WF T3 (.func 37 [] []) [.agg (zaa r), .int .i64 b] ⟨[], []⟩ fun y m' => y = .bool (decide (okB b r)) := by
 have hml : (zaa r).length = 6 := by rw [zae, h6]
 have hcut := zav h6;refine zx0 rfl (zaz Tryd.func37 cir37) (by show 2 <= 21; decide) ?_;unfold ir37;simp only [zaw, List.replicate, zNA, zAN]
 repeat' (first |refine zE (by intro; simp (disch := omega) only [go_sem, Zz.look, hcut]; rfl) ?_ |refine zy1 ?_ |refine zy2 ?_ |refine zy3 ?_ |(simp only [fl1]) |refine zy5 ?_)
 refine zx9 (fun m s => ∃ T j, s = ⟨T, [some ⟨0, zaa r⟩], []⟩ /\ T.length = 21 /\ gt T 1 = .int .i64 b /\ gt T 7 = .agg (zaa r) /\ gt T 8 = .int .i64 (j : Nat) /\ m + j = 6 /\ ∀ t, t < j -> -b <= r.getD t 0 /\ r.getD t 0 <= b) ?_ 6 _ ⟨_, 0, rfl, rfl, rfl, rfl, rfl, by omega, fun t ht => by omega⟩;rintro m _ ⟨T, j, rfl, hT, g1, g7, g8, hm, hz⟩;obtain ⟨f, rfl⟩ := exG hT;clear hT;change f 1 = _ at g1;change f 7 = _ at g7;change f 8 = _ at g8;simp only [tb, Nat.reduceAdd, g1, g7, g8]
 by_cases hj : j < 6
 ·have hia := zaK (r := r) (j := j) (by omega);generalize hx : r.getD j 0 = x at *
  by_cases hxb : -b <= x /\ x <= b
  ·have hxb1 := hxb
   repeat' (first |refine zx1 rfl ?_ |refine zE (by intro; simp (disch := omega) only [go_sem, hia, Nat.mul_one, Int.zero_sub]; rfl) ?_ |refine zy1 ?_ |refine zy2 ?_ |refine zy3 ?_ |(simp only [fl1, zbr]) |refine zy6 ?_ |refine zy5 ?_ |refine zx7 rfl (by intro hp; simp only [hp, decide_true]; rfl) (by intro hp; simp only [hp, decide_false]; rfl) (fun hp => ?_) (fun hp => ?_) <;> try (exfalso; first | omega | contradiction) |refine zy4 rfl (fun hp => ?_) (fun hp => ?_) <;> try (exfalso; first | omega | contradiction))
   exact ⟨m - 1, by omega, _, j + 1, rfl, rfl, rfl, rfl, rfl, by omega, fun t ht => by
    by_cases e : t = j
    ·subst e; rw [hx]; exact hxb
    ·exact hz t (by omega)⟩
  ·have hxb1 := hxb
   have hd : decide (okB b r) = false := decide_eq_false fun h => hxb (by have := h j hj; rw [hx] at this; exact this)
   repeat' (first |refine zx1 rfl ?_ |refine zN rfl ?_ |refine zE (by intro; simp (disch := omega) only [go_sem, hia, Nat.mul_one, Int.zero_sub]; rfl) ?_ |refine zy1 ?_ |refine zy2 ?_ |refine zy3 ?_ |(simp only [fl1, fl2, fl5, fl8]) |refine zy0 rfl ?_ |refine zy6 ?_ |refine zy7 ?_ |refine zy5 ?_ |refine zx7 rfl (by intro hp; simp only [hp, decide_true]; rfl) (by intro hp; simp only [hp, decide_false]; rfl) (fun hp => ?_) (fun hp => ?_) <;> try (exfalso; first | omega | contradiction) |refine zy4 rfl (fun hp => ?_) (fun hp => ?_) <;> try (exfalso; first | omega | contradiction))
   all_goals exact ⟨_, rfl, by rw [hd]; rfl⟩
 ·have hje : j = 6 := by omega
  subst hje;have hd : decide (okB b r) = true := decide_eq_true hz
  repeat' (first |refine zE (by intro; simp (disch := omega) only [go_sem]; rfl) ?_ |refine zy1 ?_ |refine zy2 ?_ |refine zy3 ?_ |(simp only [fl1]) |refine zy9 rfl ?_ |refine zy8 ?_ |refine zy7 ?_)
  exact ⟨_, rfl, by rw [hd]; rfl⟩
theorem s117 {r : List Int} {b : Int} (h6 : r.length = 6) (hb : 0 <= b /\ b <= 1000) {m : Mem} : zar T3 37 [.agg (zaa r), .int .i64 b] m = some (.bool (decide (okB b r)), m) :=
 zaB (za1 (zjj r) rfl) ((f117 h6 hb).mono fun y m' h => by rw [h]; rfl)
noncomputable def T4 : Env := T3.put 37 (zar T3 37)
theorem zqV : EnvOk Tryd.prog T4 := Env.put_ok ztQ (zax ztQ (zaq Tryd.func37 (by kernel_rfl)))
theorem f61 {r : List Int} (h6 : r.length = 6) : WF T4 (.func 19 [] []) [.agg (zaa r)] ⟨[], []⟩ fun y m' => y = .bool (decide (okB 48 r)) := by
 have hml : (zaa r).length = 6 := by rw [zae, h6]
 have hcut := zav h6
 have c117 := fun m => s117 (m := m) (b := 48) h6 (by decide)
 refine zx0 rfl (zaz Tryd.func19 cir19) (by show 1 <= 5; decide) ?_;unfold ir19;simp only [zaw, List.replicate, zNA, zAN]
 repeat' (first |refine zE (by intro; simp (disch := omega) only [go_sem, Zz.look, hcut]; rfl) ?_ |refine zS rfl rfl (c117 _) ?_ |refine zy1 ?_ |refine zy2 ?_ |refine zy3 ?_ |(simp only [fl1]) |refine zy7 ?_)
 exact ⟨_, rfl, rfl⟩
theorem s61 {r : List Int} (h6 : r.length = 6) {m : Mem} : zar T4 19 [.agg (zaa r)] m = some (.bool (decide (okB 48 r)), m) :=
 zaB (za1 (zjj r) rfl) ((f61 h6).mono fun y m' h => by rw [h]; rfl)
theorem f113 {r : List Int} (h6 : r.length = 6) : WF T4 (.func 31 [] []) [.agg (zaa r)] ⟨[], []⟩ fun y m' => y = .bool (decide (okB 576 r)) := by
 have hml : (zaa r).length = 6 := by rw [zae, h6]
 have hcut := zav h6
 have c117 := fun m => s117 (m := m) (b := 576) h6 (by decide)
 refine zx0 rfl (zaz Tryd.func31 cir31) (by show 1 <= 5; decide) ?_;unfold ir31;simp only [zaw, List.replicate, zNA, zAN]
 repeat' (first |refine zE (by intro; simp (disch := omega) only [go_sem, Zz.look, hcut]; rfl) ?_ |refine zS rfl rfl (c117 _) ?_ |refine zy1 ?_ |refine zy2 ?_ |refine zy3 ?_ |(simp only [fl1]) |refine zy7 ?_)
 exact ⟨_, rfl, rfl⟩
theorem s113 {r : List Int} (h6 : r.length = 6) {m : Mem} : zar T4 31 [.agg (zaa r)] m = some (.bool (decide (okB 576 r)), m) :=
 zaB (za1 (zjj r) rfl) ((f113 h6).mono fun y m' h => by rw [h]; rfl)
noncomputable def T5 : Env := T4.put 19 (zar T4 19)
theorem T5_ok : EnvOk Tryd.prog T5 := Env.put_ok zqV (zax zqV (zaq Tryd.func19 (by kernel_rfl)))
noncomputable def T6 : Env := T5.put 31 (zar T4 31)
theorem ztq : EnvOk Tryd.prog T6 := Env.put_ok T5_ok (zax zqV (zaq Tryd.func31 (by kernel_rfl)))
def zsj (r : List Int) : List Int := r.map (· * 12)
def zer6 : List Int := [0, 0, 0, 0, 0, 0]
def ofP (r : List Int) : List Int := if okB 48 r then zsj r else zer6
theorem zeE (H : Hp) : ∀ r : List Int, Zz.zqg H (zaa r) = some (zaa r)
 | [] => rfl
 | x :: r => by
  have ih := zeE H r
  show (match Zz.resC H (.int .i64 x), Zz.zqg H (zaa r) with | some a, some l => some (a :: l) | _, _ => none) = _
  rw [ih];rfl
set_option maxRecDepth 100000
set_option maxHeartbeats 4000000
def VT (rows : List (List Int)) : Prop := (1 <= rows.length /\ rows.length <= 3) /\ (∀ i, i < rows.length -> okB 400 (rw_ rows i)) /\ VM rows /\ zb1 rows = rows.length
instance (rows : List (List Int)) : Decidable (VT rows) := by unfold VT; infer_instance
theorem RwL.byC {x : AV} {rows : List (List Int)} (h : RwL x rows) (H : Hp) : Zz.byC H x = some x := by
 have this := h.byVal H
 obtain ⟨_, ⟨rfl, _⟩ | ⟨f, rfl⟩⟩ := h <;> exact this
theorem zj0 {H : Hp} {l l' : AV} (h : Zz.byC H l' = some l) : Zz.byVal H (.agg [l']) = some (.agg [l]) := by
 simp only [Zz.byVal, Zz.byL, h]
theorem pureM {l : AV} {rows : List (List Int)} (h : RwL l rows) : Zz.pureA (.agg [l]) = true := by
 show [l].all Zz.pureC = true
 simp [h.pureC]
theorem f109 {l : AV} {rows : List (List Int)} (hl : RwL l rows) (hmax : rows.length < 9223372036854775807) : WF T6 (.func 47 [] []) [.agg [l]] ⟨[], []⟩ fun y m' => y = .bool (decide (VT rows)) := by
 have hll := hl.len;have hlc := hl.cells;unfold AV.cells at hlc
 have c35 := fun m => x35 (m := m) (l' := l) hl hmax (hl.byVal _)
 by_cases h3 : 1 <= rows.length /\ rows.length <= 3
 ·have h31 := h3;refine zx0 rfl (zaz Tryd.func47 zsQ) (by show 1 <= 58; decide) ?_;unfold ir47;simp only [zaw, List.replicate, zNA, zAN]
  repeat' (first |refine zx1 rfl ?_ |refine zE (by intro; simp (disch := omega) only [go_sem, Zz.look]; rfl) ?_ |refine WO.opE (by intro; exact zaf (by simp only [go_sem]; first | rfl | assumption)) (by simp only [pt8, pt0, pt2, pt4]; rfl) ?_ |refine zy1 ?_ |refine zy2 ?_ |refine zy3 ?_ |(simp only [fl1]) |refine zy6 ?_ |refine zy5 ?_ |refine zx7 rfl (by intro hp; simp only [hp, decide_true]; rfl) (by intro hp; simp only [hp, decide_false]; rfl) (fun hp => ?_) (fun hp => ?_) <;> try (exfalso; first | omega | contradiction) |refine zy4 rfl (fun hp => ?_) (fun hp => ?_) <;> try (exfalso; first | omega | contradiction))
  refine zx9 (fun m s => ∃ T R i, s = ⟨T, R, []⟩ /\ T.length = 58 /\ gt T 1 = .pref 0 0 0 /\ gt T 23 = l /\ gt T 24 = .int .i64 (rows.length : Nat) /\ gt T 25 = .int .i64 (i : Nat) /\ m + i = rows.length /\ Zz.look R 0 0 = some [l] /\ ∀ t, t < i -> okB 400 (rw_ rows t)) ?_ rows.length _ ⟨_, _, 0, rfl, rfl, rfl, rfl, rfl, rfl, by omega, rfl, fun t ht => by omega⟩;rintro m _ ⟨T, R, i, rfl, hT, g1, g23, g24, g25, hm, k0, hz⟩;obtain ⟨f, rfl⟩ := exG hT;clear hT;change f 1 = _ at g1;change f 23 = _ at g23;change f 24 = _ at g24;change f 25 = _ at g25;simp only [tb, Nat.reduceAdd, g1, g23, g24, g25]
  by_cases hi : i < rows.length
  ·have h6 := hl.six hi;have hat := hl.at hi;have hcut := zcu (t := zet rows i) h6
   have hov := fun x0 x1 x2 x3 x4 x5 => zaN h6 (x0 := x0) (x1 := x1) (x2 := x2) (x3 := x3) (x4 := x4) (x5 := x5)
   have hcr : (rw_ rows i).map (AV.int .i64) = zaa (rw_ rows i) := rfl;rw [hcr] at hat hcut
   have hml : (zaa (rw_ rows i)).length = 6 := by rw [zae, h6]
   have hcut0 := zav h6;have kG : Zz.look (R ++ [some ⟨0, zaa (rw_ rows i)⟩]) 0 0 = some [l] := (zap (zah k0)).trans k0
   repeat' (first |refine zE (by intro; simp (disch := omega) only [go_sem, hat, hcut, hcut0, lk0]; rfl) ?_ |refine zx2 (by intro; simp (disch := omega) only [go_sem, Option.bind_eq_bind, zbB, hov, hml, lk0]; rfl) ?_ |refine zy1 ?_ |refine zy2 ?_ |refine zy3 ?_ |(simp only [fl1]) |refine zy6 ?_ |refine zy5 ?_ |refine zy4 rfl (fun hp => ?_) (fun hp => ?_) <;> try (exfalso; first | omega | contradiction))
   refine zx9 (fun m2 s => ∃ T j, s = ⟨T, R ++ [some ⟨0, zaa (rw_ rows i)⟩], []⟩ /\ T.length = 58 /\ gt T 1 = .pref 0 0 0 /\ gt T 23 = l /\ gt T 24 = .int .i64 (rows.length : Nat) /\ gt T 25 = .int .i64 (i : Nat) /\ gt T 29 = .agg (zaa (rw_ rows i)) /\ gt T 30 = .int .i64 (j : Nat) /\ m2 + j = 6 /\ ∀ t, t < j -> -400 <= (rw_ rows i).getD t 0 /\ (rw_ rows i).getD t 0 <= 400) ?_ 6 _ ⟨_, 0, rfl, rfl, rfl, rfl, rfl, rfl, rfl, rfl, by omega, fun t ht => by omega⟩;clear g1 g23 g24 g25 f;rintro m2 _ ⟨T, j, rfl, hT, g1, g23, g24, g25, g29, g30, hm2, hz2⟩;obtain ⟨f, rfl⟩ := exG hT;clear hT;change f 1 = _ at g1;change f 23 = _ at g23;change f 24 = _ at g24;change f 25 = _ at g25;change f 29 = _ at g29;change f 30 = _ at g30;simp only [tb, Nat.reduceAdd, g1, g23, g24, g25, g29, g30]
   by_cases hj : j < 6
   ·have hia := zaK (r := rw_ rows i) (j := j) (by omega);generalize hx : (rw_ rows i).getD j 0 = x at *
    by_cases hxb : -400 <= x /\ x <= 400
    ·have hxb1 := hxb
     repeat' (first |refine zx1 rfl ?_ |refine zE (by intro; simp (disch := omega) only [go_sem, Int.reduceNeg, Int.reduceAdd, hia, Nat.mul_one]; rfl) ?_ |refine zy1 ?_ |refine zy2 ?_ |refine zy3 ?_ |(simp only [fl1, zbr]) |refine zy6 ?_ |refine zy5 ?_ |refine zx7 rfl (by intro hp; simp only [hp, decide_true]; rfl) (by intro hp; simp only [hp, decide_false]; rfl) (fun hp => ?_) (fun hp => ?_) <;> try (exfalso; first | omega | contradiction) |refine zy4 rfl (fun hp => ?_) (fun hp => ?_) <;> try (exfalso; first | omega | contradiction))
     exact ⟨m2 - 1, by omega, _, j + 1, rfl, rfl, rfl, rfl, rfl, rfl, rfl, rfl, by omega, fun t ht => by
      by_cases e : t = j
      ·subst e; rw [hx]; exact hxb
      ·exact hz2 t (by omega)⟩
    ·have hxb1 := hxb
     have hd : decide (VT rows) = false := decide_eq_false fun h => hxb (by have := h.2.1 i hi j hj; rw [hx] at this; exact this)
     repeat' (first |refine zx1 rfl ?_ |refine zN rfl ?_ |refine zE (by intro; simp (disch := omega) only [go_sem, Int.reduceNeg, Int.reduceAdd, hia, Nat.mul_one]; rfl) ?_ |refine zy1 ?_ |refine zy2 ?_ |refine zy3 ?_ |(simp only [fl1, fl2, fl5, fl8]) |refine zy0 rfl ?_ |refine zy6 ?_ |refine zy7 ?_ |refine zy5 ?_ |refine zx7 rfl (by intro hp; simp only [hp, decide_true]; rfl) (by intro hp; simp only [hp, decide_false]; rfl) (fun hp => ?_) (fun hp => ?_) <;> try (exfalso; first | omega | contradiction) |refine zy4 rfl (fun hp => ?_) (fun hp => ?_) <;> try (exfalso; first | omega | contradiction))
     all_goals exact ⟨_, rfl, by rw [hd]; rfl⟩
   ·have hje : j = 6 := by omega
    subst hje
    repeat' (first |refine zE (by intro; simp (disch := omega) only [go_sem]; rfl) ?_ |refine zy1 ?_ |refine zy2 ?_ |refine zy3 ?_ |(simp only [zbr]) |refine zy9 rfl ?_ |refine zy8 ?_)
    exact ⟨m - 1, by omega, _, _, i + 1, rfl, rfl, rfl, rfl, rfl, rfl, by omega, kG, fun t ht => by
     by_cases e : t = i
     ·subst e; exact hz2
     ·exact hz t (by omega)⟩
  ·have hie : i = rows.length := by omega
   subst hie
   by_cases hv : VM rows
   ·rw [if_pos hv, if_pos hv] at c35
    have hvt : VT rows ↔ zb1 rows = rows.length := ⟨fun h => h.2.2.2, fun h => ⟨h3, hz, hv, h⟩⟩
    repeat' (first |refine zx1 rfl ?_ |refine zE (by intro; simp (disch := omega) only [go_sem, k0]; rfl) ?_ |refine WO.opE (by intro; exact zaf (by simp only [go_sem]; first | rfl | assumption)) (by simp only [pt8, pt7]; rfl) ?_ |refine zS rfl rfl (c35 _) ?_ |refine zy1 ?_ |refine zy2 ?_ |refine zy3 ?_ |(simp only [fl1]) |refine zy8 ?_ |refine zy7 ?_ |refine zy4 rfl (fun hp => ?_) (fun hp => ?_) <;> try (exfalso; first | omega | contradiction))
    refine ⟨_, rfl, ?_⟩;simp only [zbo, gt2, AV.bool.injEq];rw [decide_eq_decide, hvt];omega
   ·rw [if_neg hv, if_neg hv] at c35
    have hd : decide (VT rows) = false := decide_eq_false fun h => hv h.2.2.1
    repeat' (first |refine zN rfl ?_ |refine zE (by intro; simp (disch := omega) only [go_sem, k0]; rfl) ?_ |refine zS rfl rfl (c35 _) ?_ |refine zy1 ?_ |refine zy2 ?_ |refine zy3 ?_ |(simp only [fl1]) |refine zy8 ?_ |refine zy7 ?_ |refine zy4 rfl (fun hp => ?_) (fun hp => ?_) <;> try (exfalso; first | omega | contradiction))
    exact ⟨_, rfl, by rw [hd]; rfl⟩
 ·have h31 := h3
  have hd : decide (VT rows) = false := decide_eq_false fun h => h3 h.1
  refine zx0 rfl (zaz Tryd.func47 zsQ) (by show 1 <= 58; decide) ?_;unfold ir47;simp only [zaw, List.replicate, zNA, zAN]
  repeat' (first |refine zx1 rfl ?_ |refine zN rfl ?_ |refine zE (by intro; simp (disch := omega) only [go_sem, Zz.look]; rfl) ?_ |refine WO.opE (by intro; exact zaf (by simp only [go_sem]; first | rfl | assumption)) (by simp only [pt8, pt2, pt4]; rfl) ?_ |refine zy1 ?_ |refine zy2 ?_ |refine zy3 ?_ |(simp only [fl1, fl2]) |refine zy0 rfl ?_ |refine zy7 ?_ |refine zx7 rfl (by intro hp; simp only [hp, decide_true]; rfl) (by intro hp; simp only [hp, decide_false]; rfl) (fun hp => ?_) (fun hp => ?_) <;> try (exfalso; first | omega | contradiction) |refine zy4 rfl (fun hp => ?_) (fun hp => ?_) <;> try (exfalso; first | omega | contradiction))
  all_goals exact ⟨_, rfl, by rw [hd]; rfl⟩
theorem s109 {l : AV} {rows : List (List Int)} (hl : RwL l rows) (hmax : rows.length < 9223372036854775807) {m : Mem} : zar T6 47 [.agg [l]] m = some (.bool (decide (VT rows)), m) :=
 zaB (za1 (pureM hl) rfl) ((f109 hl hmax).mono fun y m' h => by rw [h]; rfl)
noncomputable def T7 : Env := T6.put 47 (zar T6 47)
theorem zs4 : EnvOk Tryd.prog T7 := Env.put_ok ztq (zax ztq (zaq Tryd.func47 (by kernel_rfl)))
theorem f45 {l : AV} {rows : List (List Int)} (hl : RwL l rows) (hmax : rows.length < 9223372036854775807) : WF T7 (.func 21 [] []) [.agg [l]] ⟨[], []⟩ fun y m' => y = .bool (decide (VT rows)) := by
 have hlc := hl.cells;unfold AV.cells at hlc
 have c109 := fun m => s109 (m := m) hl hmax
 refine zx0 rfl (zaz Tryd.func21 cir21) (by show 1 <= 6; decide) ?_;unfold ir21;simp only [zaw, List.replicate, zNA, zAN]
 repeat' (first |refine zE (by intro; simp (disch := omega) only [go_sem, Zz.look, Zz.over, Zz.cut, zaZ, Option.bind_eq_bind, Nat.reduceLeDiff]; rfl) ?_ |refine zS rfl rfl (c109 _) ?_ |refine zy1 ?_ |refine zy2 ?_ |refine zy3 ?_ |(simp only [fl1]) |refine zy7 ?_)
 exact ⟨_, rfl, rfl⟩
theorem x45 {l l' : AV} {rows : List (List Int)} (hl : RwL l rows) (hmax : rows.length < 9223372036854775807) {m : Mem} (h0 : Zz.byC m.heap l' = some l) : zaA T7 21 [.agg [l']] m = some (.bool (decide (VT rows)), m) :=
 zaS (zal (zj0 h0) rfl) ((f45 hl hmax).mono fun y m' h => by rw [h]; rfl)
noncomputable def T8 : Env := T7.put 21 (zaA T7 21)
theorem T8_ok : EnvOk Tryd.prog T8 := Env.put_ok zs4 (za6 zs4 (zaq Tryd.func21 (by kernel_rfl)))
end Go.Proofs.YtgchabldcnmccabDoor

