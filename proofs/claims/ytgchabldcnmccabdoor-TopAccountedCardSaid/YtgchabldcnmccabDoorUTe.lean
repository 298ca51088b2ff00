import Derived.Test.YtgchabldcnmccabDoorUTc

set_option linter.unusedSimpArgs false
set_option linter.unusedVariables false

namespace Go.Proofs.YtgchabldcnmccabDoor
open Go.Zz
set_option maxRecDepth 100000
set_option maxHeartbeats 8000000
def zjH (rows gens : List (List Int)) (v : List Int) : Prop := VT rows /\ gens.length = rows.length /\ okB 48 v /\ ∀ i, i < gens.length -> okB 576 (rw_ gens i)
instance (rows gens : List (List Int)) (v : List Int) : Decidable (zjH rows gens v) := by unfold zjH; infer_instance
def zoX (rows gens : List (List Int)) (v : List Int) : List Int := if zjH rows gens v /\ okB 576 (zcB rows gens v) then zcB rows gens v else zer6
def zfZ (rows gens : List (List Int)) (v : List Int) : Int := if zjH rows gens v then (if okB 576 (zcB rows gens v) then 0 else 3) else 1
theorem newI6 (H : Hp) (r : List Int) : Zz.newA H (.agg (zaa r)) = some (.agg (zaa r)) := by
 have : ∀ r : List Int, Zz.zqc H (zaa r) = some (zaa r) := fun r => by
  induction r with
  | nil => rfl
  | cons x r ih =>
   show (match Zz.newC H (.int .i64 x), Zz.zqc H (zaa r) with | some a, some l => some (a :: l) | _, _ => none) = _
   rw [ih];rfl
 simp only [Zz.newA, this]
theorem f57 {l gx : AV} {rows gens : List (List Int)} {v : List Int} (hl : RwL l rows) (hmax : rows.length < 9223372036854775807) (hgx : RwL gx gens) (hgm : gens.length < 9223372036854775807) (hv6 : v.length = 6) : WF T14 (.func 11 [] []) [.agg [l], gx, .agg (zaa v)] ⟨[], []⟩ fun y m' => y = .tuple [.agg (zaa (zoX rows gens v)), .int .i64 (zfZ rows gens v)] := by
 have hll := hl.len;have hgl := hgx.len;have hlc := hl.cells;unfold AV.cells at hlc
 have hmv : (zaa v).length = 6 := by rw [zae, hv6]
 have hcv := zav hv6
 have c45 := fun m => x45 (m := m) hl hmax (hl.byC _)
 have c61 := fun m => s61 (m := m) hv6
 have hze : zaa zer6 = [.int .i64 0, .int .i64 0, .int .i64 0, .int .i64 0, .int .i64 0, .int .i64 0] := rfl;have hcz : Zz.cut (zaa zer6) 0 6 = some (zaa zer6) := rfl
 by_cases hb : VT rows /\ gens.length = rows.length /\ okB 48 v
 ·obtain ⟨ht, hgr, hv⟩ := hb
  have hgr1 : ((gens.length : Nat) : Int) = ((rows.length : Nat) : Int) := by omega
  rw [decide_eq_true ht] at c45;rw [decide_eq_true hv] at c61;refine zx0 rfl (zaz Tryd.func11 zpq) (by show 3 <= 50; decide) ?_;unfold ztm;simp only [zaw, List.replicate, zNA, zAN]
  repeat' (first |refine zx1 rfl ?_ |refine zE (by intro; simp (disch := omega) only [go_sem, Zz.look, Nat.reduceAdd, hcv, hgr1]; rfl) ?_ |refine WO.opE (by intro; exact zaf (by simp only [go_sem]; first | rfl | assumption)) (by simp only [pt8, pt0, pt3, pt5]; rfl) ?_ |refine zS rfl rfl (c45 _) ?_ |refine zS rfl rfl (c61 _) ?_ |refine zy1 ?_ |refine zy2 ?_ |refine zy3 ?_ |(simp only [fl1]) |refine zy9 rfl ?_ |refine zy6 ?_ |refine zy5 ?_)
  refine zx9 (fun m s => ∃ T G i, s = ⟨T, G, []⟩ /\ T.length = 50 /\ gt T 1 = gx /\ gt T 3 = .pref 0 0 0 /\ gt T 5 = .pref 1 0 0 /\ gt T 6 = .pref 2 0 0 /\ gt T 28 = gx /\ gt T 29 = .int .i64 (gens.length : Nat) /\ gt T 30 = .int .i64 (i : Nat) /\ m + i = gens.length /\ Zz.look G 0 0 = some [l] /\ Zz.look G 1 0 = some (zaa v) /\ Zz.look G 2 0 = some (zaa zer6) /\ ∀ t, t < i -> okB 576 (rw_ gens t)) ?_ gens.length _ ⟨_, _, 0, rfl, rfl, rfl, rfl, rfl, rfl, rfl, by first | rfl | rw [hgr], rfl, by omega, rfl, rfl, rfl, fun t ht => by omega⟩;rintro m _ ⟨T, G, i, rfl, hT, g1, g3, g5, g6, g28, g29, g30, hm, k0, k1, k2, hz⟩;obtain ⟨f, rfl⟩ := exG hT;clear hT;change f 1 = _ at g1;change f 3 = _ at g3;change f 5 = _ at g5;change f 6 = _ at g6;change f 28 = _ at g28;change f 29 = _ at g29;change f 30 = _ at g30;simp only [tb, Nat.reduceAdd, g1, g3, g5, g6, g28, g29, g30];have l0 := zah k0;have l1 := zah k1;have l2 := zah k2
  by_cases hi : i < gens.length
  ·have h6 := hgx.six hi;have hat := hgx.at hi;have hcut := zcu (t := zet gens i) h6
   have hov := fun x0 x1 x2 x3 x4 x5 => zaN h6 (x0 := x0) (x1 := x1) (x2 := x2) (x3 := x3) (x4 := x4) (x5 := x5)
   have hcr : (rw_ gens i).map (AV.int .i64) = zaa (rw_ gens i) := rfl;rw [hcr] at hat hcut
   have hml : (zaa (rw_ gens i)).length = 6 := by rw [zae, h6]
   have hcut0 := zav h6
   have c113 := fun m => s113 (m := m) h6
   have kk : ∀ q, q < 3 -> Zz.look (G ++ [some ⟨0, zaa (rw_ gens i)⟩]) q 0 = Zz.look G q 0 := fun q hq => zap (by omega)
   by_cases hg : okB 576 (rw_ gens i)
   ·rw [decide_eq_true hg] at c113
    repeat' (first |refine zE (by intro; simp (disch := omega) only [go_sem, hat, hcut, hcut0, lk0]; rfl) ?_ |refine zx2 (by intro; simp (disch := omega) only [go_sem, Option.bind_eq_bind, zbB, hov, hml, lk0]; rfl) ?_ |refine zS rfl rfl (c113 _) ?_ |refine zy1 ?_ |refine zy2 ?_ |refine zy3 ?_ |(simp only [fl1, zbr]) |refine zy9 rfl ?_ |refine zy6 ?_ |refine zy5 ?_ |refine zy4 rfl (fun hp => ?_) (fun hp => ?_) <;> try (exfalso; first | omega | contradiction))
    exact ⟨m - 1, by omega, _, _, i + 1, rfl, rfl, rfl, rfl, rfl, rfl, rfl, rfl, rfl, by omega, (kk 0 (by decide)).trans k0, (kk 1 (by decide)).trans k1, (kk 2 (by decide)).trans k2, fun t ht => by
     by_cases e : t = i
     ·subst e; exact hg
     ·exact hz t (by omega)⟩
   ·rw [decide_eq_false hg] at c113
    have hno : ¬ zjH rows gens v := fun h => hg (h.2.2.2 i hi)
    have e1 : zoX rows gens v = zer6 := if_neg fun h => hno h.1
    have e2 : zfZ rows gens v = 1 := if_neg hno;have k2' : Zz.look (G ++ [some ⟨0, zaa (rw_ gens i)⟩]) 2 0 = some [.int .i64 0, .int .i64 0, .int .i64 0, .int .i64 0, .int .i64 0, .int .i64 0] := (kk 2 (by decide)).trans k2;have hres : Zz.look ((G ++ [some ⟨0, zaa (rw_ gens i)⟩] : Hp).set 2 (some ⟨0, zaa zer6⟩)) 2 0 = some (zaa zer6) := zaJ (by simp; omega);rw [e1, e2];rw [hze] at hres hcz ⊢
    repeat' (first |refine zE (by intro; simp (disch := omega) only [go_sem, zaZ, hat, hcut, hcut0, lk0]; rfl) ?_ |refine zx2 (by intro; simp (disch := omega) only [go_sem, Option.bind_eq_bind, zbB, Nat.reduceAdd, hov, hml, lk0, k2', zat]; rfl) ?_ |refine zS rfl rfl (c113 _) ?_ |refine zy1 ?_ |refine zy2 ?_ |refine zy3 ?_ |(simp only [fl1, fl2, fl5, fl8]) |refine zy0 rfl ?_ |refine zy6 ?_ |refine zy7 ?_ |refine zy5 ?_ |refine zy4 rfl (fun hp => ?_) (fun hp => ?_) <;> try (exfalso; first | omega | contradiction))
    exact ⟨_, by simp only [zbZ, gt6, gt7, za4, hres, hcz, if_true, Option.bind_some, Option.map_some]; rfl, rfl⟩
  ·have hie : i = gens.length := by omega
   subst hie
   have hok : zjH rows gens v := ⟨ht, hgr, hv, hz⟩
   repeat' (first |refine zE (by intro; simp (disch := omega) only [go_sem, zaZ, Option.bind_eq_bind, zaF, k0, k1, hcv]; rfl) ?_ |refine zy1 ?_ |refine zy2 ?_ |refine zy3 ?_ |(simp only [fl1]) |refine zy8 ?_ |refine zy4 rfl (fun hp => ?_) (fun hp => ?_) <;> try (exfalso; first | omega | contradiction))
   refine WO.call rfl rfl ((f114 (E := T14) rfl (zaz Tryd.func32 cir32) rfl hl ht.1.2 ht.2.1 hv6 hv hgx hgr hz).mono ?_);rintro y m' ⟨rfl, R, rfl⟩;simp only [pt8, pt4]
   have h6 : (zcB rows gens v).length = 6 := by simp [zcB]
   have hov := fun x0 x1 x2 x3 x4 x5 => zaN h6 (x0 := x0) (x1 := x1) (x2 := x2) (x3 := x3) (x4 := x4) (x5 := x5)
   have hml : (zaa (zcB rows gens v)).length = 6 := by rw [zae, h6]
   have hcut0 := zav h6
   have c113 := fun m => s113 (m := m) h6
   have hGR : Zz.look (G ++ R) 2 0 = some (zaa zer6) := (zap l2).trans k2;have lGR := zah hGR;generalize (G ++ R : Hp) = G2 at *;have k2' : Zz.look (G2 ++ [some ⟨0, zaa (zcB rows gens v)⟩]) 2 0 = some [.int .i64 0, .int .i64 0, .int .i64 0, .int .i64 0, .int .i64 0, .int .i64 0] := (zap lGR).trans hGR
   by_cases hp : okB 576 (zcB rows gens v)
   ·rw [decide_eq_true hp] at c113;have e1 : zoX rows gens v = zcB rows gens v := if_pos ⟨hok, hp⟩
    have e2 : zfZ rows gens v = 0 := by unfold zfZ; rw [if_pos hok, if_pos hp]
    have hres : Zz.look ((G2 ++ [some ⟨0, zaa (zcB rows gens v)⟩] : Hp).set 2 (some ⟨0, zaa (zcB rows gens v)⟩)) 2 0 = some (zaa (zcB rows gens v)) := zaJ (by simp; omega);have hcz := hcut0;rw [e1, e2]
    repeat' (first |refine zE (by intro; simp (disch := omega) only [go_sem, hcut0, lk0]; rfl) ?_ |refine zx2 (by intro; simp (disch := omega) only [go_sem, Option.bind_eq_bind, zbB, hov, hml, lk0, k2', zat]; rfl) ?_ |refine zS rfl rfl (c113 _) ?_ |refine zy1 ?_ |refine zy2 ?_ |refine zy3 ?_ |(simp only [fl1]) |refine zy9 rfl ?_ |refine zy6 ?_ |refine zy7 ?_)
    exact ⟨_, by simp only [zbZ, gt6, gt7, za4, hres, hcz, if_true, Option.bind_some, Option.map_some]; rfl, rfl⟩
   ·rw [decide_eq_false hp] at c113
    have e1 : zoX rows gens v = zer6 := if_neg fun h => hp h.2
    have e2 : zfZ rows gens v = 3 := by unfold zfZ; rw [if_pos hok, if_neg hp]
    have hres : Zz.look ((G2 ++ [some ⟨0, zaa (zcB rows gens v)⟩] : Hp).set 2 (some ⟨0, zaa zer6⟩)) 2 0 = some (zaa zer6) := zaJ (by simp; omega);rw [e1, e2];rw [hze] at hres hcz ⊢
    repeat' (first |refine zE (by intro; simp (disch := omega) only [go_sem, zaZ, hcut0, lk0]; rfl) ?_ |refine zx2 (by intro; simp (disch := omega) only [go_sem, Option.bind_eq_bind, zbB, Nat.reduceAdd, hov, hml, lk0, k2', zat]; rfl) ?_ |refine zS rfl rfl (c113 _) ?_ |refine zy1 ?_ |refine zy2 ?_ |refine zy3 ?_ |(simp only [fl1, fl2]) |refine zy0 rfl ?_ |refine zy7 ?_)
    exact ⟨_, by simp only [zbZ, gt6, gt7, za4, hres, hcz, if_true, Option.bind_some, Option.map_some]; rfl, rfl⟩
 ·have hno : ¬ zjH rows gens v := fun h => hb ⟨h.1, h.2.1, h.2.2.1⟩
  have e1 : zoX rows gens v = zer6 := if_neg fun h => hno h.1
  have e2 : zfZ rows gens v = 1 := if_neg hno;rw [e1, e2]
  by_cases ht : VT rows
  ·rw [decide_eq_true ht] at c45
   by_cases hgr : gens.length = rows.length
   ·have hgr1 : ((gens.length : Nat) : Int) = ((rows.length : Nat) : Int) := by omega
    have hv : ¬ okB 48 v := fun h => hb ⟨ht, hgr, h⟩
    rw [decide_eq_false hv] at c61;refine zx0 rfl (zaz Tryd.func11 zpq) (by show 3 <= 50; decide) ?_;unfold ztm;simp only [zaw, List.replicate, zNA, zAN]
    repeat' (first |refine zx1 rfl ?_ |refine zE (by intro; simp (disch := omega) only [go_sem, Zz.look, zaZ, Nat.reduceAdd, hcv, hgr1]; rfl) ?_ |refine zx2 (by intro; simp (disch := omega) only [go_sem, Zz.look, Option.bind_eq_bind, Nat.reduceAdd, hgr1, zat, List.set_cons_zero, List.set_cons_succ]; rfl) ?_ |refine WO.opE (by intro; exact zaf (by simp only [go_sem]; first | rfl | assumption)) (by simp only [pt8, pt0, pt3]; rfl) ?_ |refine zS rfl rfl (c45 _) ?_ |refine zS rfl rfl (c61 _) ?_ |refine zy1 ?_ |refine zy2 ?_ |refine zy3 ?_ |(simp only [fl1, fl2]) |refine zy0 rfl ?_ |refine zy7 ?_)
    exact ⟨_, rfl, rfl⟩
   ·have hgr1 : ¬ ((gens.length : Nat) : Int) = ((rows.length : Nat) : Int) := by omega
    refine zx0 rfl (zaz Tryd.func11 zpq) (by show 3 <= 50; decide) ?_;unfold ztm;simp only [zaw, List.replicate, zNA, zAN]
    repeat' (first |refine zx1 rfl ?_ |refine zN rfl ?_ |refine zE (by intro; simp (disch := omega) only [go_sem, Zz.look, zaZ, Nat.reduceAdd]; rfl) ?_ |refine zx2 (by intro; simp (disch := omega) only [go_sem, Zz.look, Option.bind_eq_bind, Nat.reduceAdd, zat, List.set_cons_zero, List.set_cons_succ]; rfl) ?_ |refine WO.opE (by intro; exact zaf (by simp only [go_sem]; first | rfl | assumption)) (by simp only [pt8, pt0, pt3]; rfl) ?_ |refine zS rfl rfl (c45 _) ?_ |refine zy1 ?_ |refine zy2 ?_ |refine zy3 ?_ |(simp only [fl1, fl2]) |refine zy0 rfl ?_ |refine zy7 ?_ |refine zx7 rfl (by intro hp; simp only [hp]; rfl) (by intro hp; simp only [hp, decide_false]; rfl) (fun hp => ?_) (fun hp => ?_) <;> try (exfalso; first | omega | contradiction))
    exact ⟨_, rfl, rfl⟩
  ·rw [decide_eq_false ht] at c45;refine zx0 rfl (zaz Tryd.func11 zpq) (by show 3 <= 50; decide) ?_;unfold ztm;simp only [zaw, List.replicate, zNA, zAN]
   repeat' (first |refine zN rfl ?_ |refine zE (by intro; simp (disch := omega) only [go_sem, Zz.look, zaZ, Nat.reduceAdd]; rfl) ?_ |refine zx2 (by intro; simp (disch := omega) only [go_sem, Zz.look, Option.bind_eq_bind, Nat.reduceAdd, zat, List.set_cons_zero, List.set_cons_succ]; rfl) ?_ |refine zS rfl rfl (c45 _) ?_ |refine zy1 ?_ |refine zy2 ?_ |refine zy3 ?_ |(simp only [fl1, fl2]) |refine zy0 rfl ?_ |refine zy7 ?_)
   exact ⟨_, rfl, rfl⟩
theorem x57 {l l' gx gx' : AV} {rows gens : List (List Int)} {v : List Int} (hl : RwL l rows) (hmax : rows.length < 9223372036854775807) (hgx : RwL gx gens) (hgm : gens.length < 9223372036854775807) (hv6 : v.length = 6) {m : Mem} (h0 : Zz.byC m.heap l' = some l) (h1 : Zz.byVal m.heap gx' = some gx) :
  zaA T14 11 [.agg [l'], gx', .agg (zaa v)] m = some (.tuple [.agg (zaa (zoX rows gens v)), .int .i64 (zfZ rows gens v)], m) :=
 zaS (zal (zj0 h0) (zal h1 (zal (byI _ _) rfl))) ((f57 hl hmax hgx hgm hv6).mono fun y m' h => by rw [h]; exact ze7 (newI6 _ _))
noncomputable def T15 : Env := T14.put 11 (zaA T14 11)
theorem zt6 : EnvOk Tryd.prog T15 := Env.put_ok zp3 (za6 zp3 (zaq Tryd.func11 (by kernel_rfl)))
set_option maxRecDepth 100000
set_option maxHeartbeats 8000000
noncomputable def T16 : Env := T15
theorem zsE : EnvOk Tryd.prog T16 := zt6
def pureR (rows gens : List (List Int)) (v : List Int) : Bool := decide (zfZ rows gens v = 0 /\ zoX rows gens v = zsj v)
noncomputable def T17 : Env := T16
theorem zpY : EnvOk Tryd.prog T17 := zsE
def zg6 (rows : List (List Int)) : Prop := VM rows /\ ∀ i, i < rows.length -> okB 48 (rw_ rows i)
instance (rows : List (List Int)) : Decidable (zg6 rows) := by unfold zg6; infer_instance
def zcW (rows : List (List Int)) : List (List Int) := if zg6 rows /\ VT (zf1 rows) then zf1 rows else []
def zhC (rows : List (List Int)) : Int := if zg6 rows then (if (zf1 rows).length = 0 \/ (zf1 rows).length > 3 then 4 else if VT (zf1 rows) then 0 else 3) else 1
theorem zsO {sz : Nat} {H : Hp} {v : AV} {q : Nat} {c : List AV} (h : GS sz H v q c) : Zz.byC H v = Zz.resC H v := by
 rcases h with ⟨rfl, _⟩ | ⟨g, rfl, _⟩ | ⟨g, n, rfl, _⟩ <;> rfl
theorem ztF {sz : Nat} {H : Hp} {v : AV} {q b : Nat} {c : List AV} {x : Option Blk} (h : GS sz H v q c) (hb : b ≠ q) : GS sz (H.set b x) v q c := by
 have hk : ∀ g, Zz.look (H.set b x) q g = Zz.look H q g := fun g => zad (List.getElem?_set_ne hb)
 rcases h with h | ⟨g, h1, h2, h3⟩ | ⟨g, n, h1, h2, h3, h4⟩
 ·exact .inl h
 ·exact .inr (.inl ⟨g, h1, h2, (hk g).trans h3⟩)
 ·exact .inr (.inr ⟨g, n, h1, h2, h3, (hk g).trans h4⟩)
theorem zpA {sz : Nat} {H : Hp} {v : AV} {q : Nat} {c : List AV} (h : GS sz H v q c) : v.cells = some [v] := by
 rcases h with ⟨rfl, _⟩ | ⟨g, rfl, _⟩ | ⟨g, n, rfl, _⟩ <;> rfl
theorem newM {H : Hp} {v x : AV} {c : Int} (h : Zz.newC H v = some x) : zoD H (.tuple [.agg [v], .int .i64 c]) = some (.tuple [.agg [x], .int .i64 c]) := by
 refine ze7 ?_;simp only [Zz.newA, Zz.zqc, h]
theorem zrB {H : Hp} {v : AV} {q : Nat} {rows : List (List Int)} (h : GS 6 H v q (zbi rows)) (h6 : ∀ r ∈ rows, r.length = 6) {x : AV} (hx : Zz.resC H v = some x) : Zz.newC H v = some x := by
 rw [<- hx]
 rcases h with ⟨rfl, _⟩ | ⟨g, rfl, _⟩ | ⟨g, n, rfl, _⟩ <;> rfl
theorem zqm {sz : Nat} {H H' : Hp} {v : AV} {q : Nat} {c : List AV} (h : GS sz H v q c) (h' : GS sz H' v q c) : Zz.resC H v = Zz.resC H' v := by
 rcases h with ⟨rfl, _⟩ | ⟨g, rfl, rfl, hk⟩ | ⟨g, n, rfl, h1, h2, hk⟩
 ·rfl
 ·rcases h' with ⟨h, _⟩ | ⟨g', h, _, hk'⟩ | ⟨g', n', h, _, _, _⟩
  ·cases h
  ·cases h; simp only [Zz.resC, hk, hk']
  ·cases h
 ·rcases h' with ⟨h, _⟩ | ⟨g', h, _, hk'⟩ | ⟨g', n', h, _, _, hk'⟩
  ·cases h
  ·cases h
  ·cases h; simp only [Zz.resC, hk, hk']
theorem zr4 {x : AV} : Zz.cut [x] 0 1 = some [x] := rfl
theorem x55 {l : AV} {rows : List (List Int)} (hl : RwL l rows) (hmax : rows.length < 9223372036854775807) : ∃ x, RwL x (zcW rows) /\ ∀ m l', Zz.byVal m.heap l' = some l -> zaA T17 6 [l'] m = some (.tuple [.agg [x], .int .i64 (zhC rows)], m) := by
 have hll := hl.len;have hlc := hl.cells;unfold AV.cells at hlc
 have h6r : Six rows := fun i hi => hl.six hi
 have c25 := fun m => x25 (m := m) (l' := l) hl hmax (hl.byVal _)
 suffices h : ∃ x, RwL x (zcW rows) /\ WF T17 (.func 6 [] []) [l] ⟨[], []⟩ fun y m' => zoD m'.heap y = some (.tuple [.agg [x], .int .i64 (zhC rows)]) by
  obtain ⟨x, hx, hw⟩ := h;exact ⟨x, hx, fun m l' h0 => zaS (zal h0 rfl) hw⟩
 by_cases hv : VM rows
 ·rw [decide_eq_true hv] at c25;have hk0 : Zz.look ([some ⟨0, [.snil]⟩] : Hp) 0 0 = some [.snil] := rfl;have e3 : ziH rows = zf1 rows := if_pos hv;have e4 : zjP rows = 0 := if_pos hv;have hK6 : ∀ r ∈ zf1 rows, r.length = 6 := (zj6 hv h6r).six;obtain ⟨x, hx, hB⟩ := r30 hl hmax;rw [e3] at hx
  have hkl : (zf1 rows).length < 1000000 := by have h1 := (zj6 hv h6r).len; have h2 := zpF (zsA hv h6r).j; omega
  have c45 := fun (m : Mem) (v' : AV) (h : Zz.byC m.heap v' = some x) => x45 (m := m) hx (by omega) h
  refine ⟨if zg6 rows /\ VT (zf1 rows) then x else .snil, by unfold zcW; split; exact hx; exact zhY, ?_⟩;refine zx0 rfl (zaz Tryd.func6 cir6) (by show 1 <= 52; decide) ?_;unfold ir6;simp only [zaw, List.replicate, zNA, zAN]
  repeat' (first |refine zE (by intro; simp (disch := omega) only [go_sem]; rfl) ?_ |refine WO.opE (by intro; exact zaf (by simp only [go_sem]; first | rfl | assumption)) (by simp only [pt8, pt6]; rfl) ?_ |refine zS rfl rfl (c25 _) ?_ |refine zy1 ?_ |refine zy2 ?_ |refine zy3 ?_ |(simp only [fl1]) |refine zy9 rfl ?_ |refine zy6 ?_ |refine zy5 ?_)
  refine zx9 (fun m s => ∃ T G i, s = ⟨T, G, []⟩ /\ T.length = 52 /\ gt T 0 = l /\ gt T 2 = .pref 0 0 0 /\ gt T 13 = l /\ gt T 14 = .int .i64 (rows.length : Nat) /\ gt T 15 = .int .i64 (i : Nat) /\ m + i = rows.length /\ Zz.look G 0 0 = some [.snil] /\ ∀ t, t < i -> okB 48 (rw_ rows t)) ?_ rows.length _ ⟨_, _, 0, rfl, rfl, rfl, rfl, rfl, rfl, rfl, by omega, hk0, fun t ht => by omega⟩;rintro m _ ⟨T, G, i, rfl, hT, g0, g2, g13, g14, g15, hm, k0, hz⟩;obtain ⟨f, rfl⟩ := exG hT;clear hT;change f 0 = _ at g0;change f 2 = _ at g2;change f 13 = _ at g13;change f 14 = _ at g14;change f 15 = _ at g15;simp only [tb, Nat.reduceAdd, g0, g2, g13, g14, g15];have l0 := zah k0
  by_cases hi : i < rows.length
  ·have h6 := hl.six hi;have hat := hl.at hi;have hcut := zcu (t := zet rows i) h6;have hcr : (rw_ rows i).map (AV.int .i64) = zaa (rw_ rows i) := rfl;rw [hcr] at hat hcut
   have c61 := fun m => s61 (m := m) h6
   have hov := fun x0 x1 x2 x3 x4 x5 => zaN h6 (x0 := x0) (x1 := x1) (x2 := x2) (x3 := x3) (x4 := x4) (x5 := x5)
   have hml : (zaa (rw_ rows i)).length = 6 := by rw [zae, h6]
   have hcut0 := zav h6;have kk : Zz.look (G ++ [some ⟨0, zaa (rw_ rows i)⟩]) 0 0 = some [.snil] := (zap l0).trans k0
   by_cases hg : okB 48 (rw_ rows i)
   ·rw [decide_eq_true hg] at c61
    repeat' (first |refine zE (by intro; simp (disch := omega) only [go_sem, hat, hcut, hcut0, lk0]; rfl) ?_ |refine zx2 (by intro; simp (disch := omega) only [go_sem, Option.bind_eq_bind, zbB, hov, hml, lk0]; rfl) ?_ |refine zS rfl rfl (c61 _) ?_ |refine zy1 ?_ |refine zy2 ?_ |refine zy3 ?_ |(simp only [fl1, zbr]) |refine zy9 rfl ?_ |refine zy6 ?_ |refine zy5 ?_ |refine zy4 rfl (fun hp => ?_) (fun hp => ?_) <;> try (exfalso; first | omega | contradiction))
    exact ⟨m - 1, by omega, _, _, i + 1, rfl, rfl, rfl, rfl, rfl, rfl, rfl, by omega, kk, fun t ht => by
     by_cases e : t = i
     ·rw [e]; exact hg
     ·exact hz t (by omega)⟩
   ·rw [decide_eq_false hg] at c61
    have hno : ¬ zg6 rows := fun h => hg (h.2 i hi)
    rw [if_neg fun h => hno h.1, show zhC rows = 1 from if_neg hno];have hres : Zz.look (((G ++ [some ⟨0, zaa (rw_ rows i)⟩]) : Hp).set 0 (some ⟨0, [.snil]⟩)) 0 0 = some [.snil] := zaJ (by simp)
    repeat' (first |refine zE (by intro; simp (disch := omega) only [go_sem, zaZ, hat, hcut, hcut0, lk0]; rfl) ?_ |refine zx2 (by intro; simp (disch := omega) only [go_sem, Option.bind_eq_bind, zbB, zaF, hov, hml, lk0, kk, zat]; rfl) ?_ |refine zS rfl rfl (c61 _) ?_ |refine zy1 ?_ |refine zy2 ?_ |refine zy3 ?_ |(simp only [fl1, fl2, fl5, fl8]) |refine zy0 rfl ?_ |refine zy6 ?_ |refine zy7 ?_ |refine zy5 ?_ |refine zy4 rfl (fun hp => ?_) (fun hp => ?_) <;> try (exfalso; first | omega | contradiction))
    exact ⟨_, by simp only [zbZ, gt2, gt3, za4, hres, zr4, if_true, Option.bind_some, Option.map_some]; rfl, rfl⟩
  ·have hie : i = rows.length := by omega
   subst hie
   have hc : zg6 rows := ⟨hv, hz⟩
   obtain ⟨new, v', c30, g30, hrx⟩ := hB G [];have c30 := c30 l (hl.byVal _);rw [e3] at g30;rw [e4] at c30
   repeat' (first |refine zE (by intro; simp (disch := omega) only [go_sem]; rfl) ?_ |refine zy1 ?_ |refine zy2 ?_ |refine zy3 ?_ |(simp only [fl1]) |refine zy8 ?_ |refine zy4 rfl (fun hp => ?_) (fun hp => ?_) <;> try (exfalso; first | omega | contradiction))
   refine WO.specE rfl rfl c30 (by simp only [pt8, pt2]; rfl) ?_;have k0' : Zz.look (G ++ new) 0 0 = some [.snil] := (zap l0).trans k0;have hG0 : 0 < G.length := l0;generalize hqe : G.length = q0 at *;generalize (G ++ new : Hp) = G2 at *;have l02 := zah k0';have hvc := zpA g30;unfold AV.cells at hvc
   have hgl : zcH v' = some (zf1 rows).length := by
    rw [GS.len g30 (by decide), zdQ hK6, Nat.mul_div_cancel _ (by decide)]
   have hlk : Zz.look (G2 ++ [some ⟨0, [v']⟩]) 0 0 = some [.snil] := (zap l02).trans k0';have hby : Zz.byC (G2 ++ [some ⟨0, [v']⟩]) v' = some x := (zsO (g30.more _)).trans ((zqm (g30.more _) g30).trans hrx)
   have hres : ∀ y, Zz.look ((G2 ++ [some ⟨0, [v']⟩] : Hp).set 0 (some ⟨0, [y]⟩)) 0 0 = some [y] := fun y => zaJ (by simp)
   have hres2 : ∀ y, Zz.look ((G2 : Hp).set 0 (some ⟨0, [y]⟩)) 0 0 = some [y] := fun y => zaJ l02
   by_cases hok : VT (zf1 rows)
   ·have h13 := hok.1
    have e2 : zhC rows = 0 := by unfold zhC; rw [if_pos hc, if_neg (by omega), if_pos hok]
    rw [decide_eq_true hok] at c45;rw [if_pos ⟨hc, hok⟩, e2]
    repeat' (first |refine zx1 rfl ?_ |refine zE (by intro; simp (disch := omega) only [go_sem, zaZ, Option.bind_eq_bind, zaF, hvc, lk0, zr4]; rfl) ?_ |refine zx2 (by intro; simp (disch := omega) only [go_sem, Option.bind_eq_bind, zbB, zaF, hlk, lk0, zat]; rfl) ?_ |refine WO.opE (by intro; exact zaf (by simp only [go_sem]; first | rfl | assumption)) (by simp only [pt8, pt3, pt7]; rfl) ?_ |refine zS rfl rfl (c45 _ _ hby) ?_ |refine zy1 ?_ |refine zy2 ?_ |refine zy3 ?_ |(simp only [fl1, fl5]) |refine zy9 rfl ?_ |refine zy7 ?_ |refine zy5 ?_ |refine zx7 rfl (by intro hp; simp only [hp, decide_true]; rfl) (by intro hp; simp only [hp, decide_false]; rfl) (fun hp => ?_) (fun hp => ?_) <;> try (exfalso; first | omega | contradiction) |refine zy4 rfl (fun hp => ?_) (fun hp => ?_) <;> try (exfalso; first | omega | contradiction))
    have hgs := ztF (b := 0) (x := some ⟨0, [v']⟩) (g30.more [some ⟨0, [v']⟩]) (show 0 ≠ q0 by omega);have hfin := newM (c := 0) (zrB hgs hK6 ((zqm hgs g30).trans hrx));refine ⟨_, by simp only [zbZ, gt2, gt3, za4, hres, zr4, if_true, Option.bind_some, Option.map_some]; rfl, ?_⟩;exact hfin
   ·rw [decide_eq_false hok] at c45;rw [if_neg fun h => hok h.2]
    by_cases h13 : (zf1 rows).length = 0 \/ (zf1 rows).length > 3
    ·rw [show zhC rows = 4 by unfold zhC; rw [if_pos hc, if_pos h13]]
     repeat' (first |refine zx1 rfl ?_ |refine zN rfl ?_ |refine zE (by intro; simp (disch := omega) only [go_sem, zaZ, Option.bind_eq_bind, zaF, hvc]; rfl) ?_ |refine zx2 (by intro; simp (disch := omega) only [go_sem, Option.bind_eq_bind, zbB, zaF, hlk, lk0, zat]; rfl) ?_ |refine WO.opE (by intro; exact zaf (by simp only [go_sem]; first | rfl | assumption)) (by simp only [pt8, pt3, pt7]; rfl) ?_ |refine zy1 ?_ |refine zy2 ?_ |refine zy3 ?_ |(simp only [fl1, fl5]) |refine zy0 rfl ?_ |refine zy9 rfl ?_ |refine zy7 ?_ |refine zy5 ?_ |refine zx7 rfl (by intro hp; simp only [hp, decide_true]; rfl) (by intro hp; simp only [hp, decide_false]; rfl) (fun hp => ?_) (fun hp => ?_) <;> try (exfalso; first | omega | contradiction) |refine zy4 rfl (fun hp => ?_) (fun hp => ?_) <;> try (exfalso; first | omega | contradiction))
     all_goals exact ⟨_, by simp only [zbZ, gt2, gt3, za4, hres, zr4, if_true, Option.bind_some, Option.map_some]; rfl, rfl⟩
    ·rw [show zhC rows = 3 by unfold zhC; rw [if_pos hc, if_neg h13, if_neg hok]]
     repeat' (first |refine zx1 rfl ?_ |refine zE (by intro; simp (disch := omega) only [go_sem, zaZ, Option.bind_eq_bind, zaF, hvc, lk0, zr4]; rfl) ?_ |refine zx2 (by intro; simp (disch := omega) only [go_sem, Option.bind_eq_bind, zbB, zaF, hlk, lk0, zat]; rfl) ?_ |refine WO.opE (by intro; exact zaf (by simp only [go_sem]; first | rfl | assumption)) (by simp only [pt8, pt3, pt7]; rfl) ?_ |refine zS rfl rfl (c45 _ _ hby) ?_ |refine zy1 ?_ |refine zy2 ?_ |refine zy3 ?_ |(simp only [fl1, fl5]) |refine zy0 rfl ?_ |refine zy9 rfl ?_ |refine zy7 ?_ |refine zy5 ?_ |refine zx7 rfl (by intro hp; simp only [hp, decide_true]; rfl) (by intro hp; simp only [hp, decide_false]; rfl) (fun hp => ?_) (fun hp => ?_) <;> try (exfalso; first | omega | contradiction) |refine zy4 rfl (fun hp => ?_) (fun hp => ?_) <;> try (exfalso; first | omega | contradiction))
     exact ⟨_, by simp only [zbZ, gt2, gt3, za4, hres, zr4, if_true, Option.bind_some, Option.map_some]; rfl, rfl⟩
 ·rw [decide_eq_false hv] at c25
  have hno : ¬ zg6 rows := fun h => hv h.1
  rw [show zcW rows = [] from if_neg fun h => hno h.1, show zhC rows = 1 from if_neg hno];refine ⟨.snil, zhY, ?_⟩;refine zx0 rfl (zaz Tryd.func6 cir6) (by show 1 <= 52; decide) ?_;unfold ir6;simp only [zaw, List.replicate, zNA, zAN]
  repeat' (first |refine zE (by intro; simp (disch := omega) only [go_sem, zaZ]; rfl) ?_ |refine zx2 (by intro; simp (disch := omega) only [go_sem, Zz.look, Zz.over, Option.bind_eq_bind, Nat.reduceLeDiff, zat, List.set_cons_zero]; rfl) ?_ |refine zS rfl rfl (c25 _) ?_ |refine zy1 ?_ |refine zy2 ?_ |refine zy3 ?_ |(simp only [fl1, fl2]) |refine zy0 rfl ?_ |refine zy7 ?_)
  exact ⟨_, rfl, rfl⟩
noncomputable def T18 : Env := T17.put 6 (zaA T17 6)
theorem ztg : EnvOk Tryd.prog T18 := Env.put_ok zpY (za6 zpY (zaq Tryd.func6 (by kernel_rfl)))
noncomputable def T19 : Env := T18
theorem zsm : EnvOk Tryd.prog T19 := ztg
end Go.Proofs.YtgchabldcnmccabDoor

