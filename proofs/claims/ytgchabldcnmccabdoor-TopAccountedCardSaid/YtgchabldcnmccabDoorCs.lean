import Derived.Test.YtgchabldcnmccabDoorCr

set_option linter.unusedSimpArgs false
set_option linter.unusedVariables false

namespace Go.Proofs.YtgchabldcnmccabDoor
open Go.Zz
set_option maxRecDepth 100000
set_option maxHeartbeats 8000000
theorem zoS {cs : List Nm} {v : List Int} (ha : NmOk cs) (hb : okB 48 v) : zdB cs v = 4 /\ (¬ ∃ c, IsC (zaL cs) v c) \/ (zdB cs v = 0 \/ zdB cs v = 3) /\ ∃ c, IsC (zaL cs) v c := by
 unfold zdB;rw [if_pos ⟨ha, hb⟩]
 by_cases h : ∃ c, IsC (zaL cs) v c
 ·rw [if_pos h];refine .inr ⟨?_, h⟩
  split
  ·exact .inl rfl
  ·exact .inr rfl
 ·rw [if_neg h];exact .inl ⟨rfl, h⟩
theorem zpM {cs : List Nm} {v o : List Int} (ha : NmOk cs) (hv6 : v.length = 6) (h : ∃ c, IsC (zaL cs) v c) (ho : o.length = cs.length) : zhK (zaL cs) o o.length = v ↔ o = zhD (zaL cs) v := by
 have hi := znr h
 constructor
 ·intro e;refine IsC.uniq (v := v) (by rw [zbU]; exact ha.2.2.2.2.2) ⟨by rw [ho, zbU], fun j hj => ?_⟩ hi;have := zfl (rows := zaL cs) (ns := o) (i := o.length) hj;rw [e] at this;rw [zbU, <- ho];exact this
 ·intro e
  refine zbf (by rw [zea, hv6]) fun t ht => ?_
  rw [zea] at ht;rw [zfl ht, e, hi.1];exact (hi.2 t ht).symm
theorem znq (cs : List Nm) (ns : List Int) : (zeM cs ns).length = 6 := by
 unfold zeM
 split
 ·exact zea _ _ _
 ·rfl
theorem zeb {cs : List Nm} {ns : List Int} (h : zew cs ns = 0) : zft cs ns /\ zeM cs ns = zhK (zaL cs) ns ns.length := by
 unfold zew at h
 split at h
 ·rename_i h1
  split at h
  ·rename_i h2;exact ⟨h1, if_pos ⟨h1, h2⟩⟩
  ·cases h
 ·cases h
theorem g3 {z gx y : AV} {cs : List Nm} {gens : List (List Int)} {other v : List Int} (hz : NmL z cs) (hv6 : v.length = 6) (hgx : RwL gx gens) (hgm : gens.length < 9223372036854775807) (hy : IntS y other) (hym : other.length < 9223372036854775808) :
  WF D15 (.func 3 [] []) [z, .agg (zaa v), gx, y] ⟨[], []⟩ fun u m' => u = .bool true := by
 have hs5 := fun m => s5 (m := m) hz
 have hcc := zav hv6
 have hcl : (zaa v).length = 6 := by rw [zae, hv6]
 by_cases ha : NmOk cs
 ·rw [decide_eq_true ha] at hs5;have h6n := ha.2.1;have hvl := zbU cs;have hx6 := zf4 hz;refine zx0 rfl (zaz Tryd.func3 cir3) (by show 4 <= 164; decide) ?_;unfold ir3;simp only [zaw, List.replicate, zNA, zAN]
  repeat' (first |refine zE (by intro; simp (disch := omega) only [go_sem, zNA]; rfl) ?_ |refine zE (by intro; exact zaf (by simp only [go_sem]; exact hz.len)) ?_ |refine zS rfl rfl (s4) ?_ |refine zS rfl rfl (hs5 _) ?_ |refine zy1 ?_ |refine zy2 ?_ |refine zy3 ?_ |(simp only [fl1]) |refine zy9 rfl ?_ |refine zy6 ?_ |refine zy5 ?_)
  refine zx9 (fun m st => ∃ T i x H, st = ⟨T, H, []⟩ /\ T.length = 164 /\ gt T 0 = z /\ gt T 2 = gx /\ gt T 3 = y /\ gt T 5 = .pref 0 0 0 /\ gt T 9 = .bool true /\ gt T 10 = x /\ gt T 30 = z /\ gt T 31 = .int .i64 (cs.length : Nat) /\ gt T 32 = .int .i64 (i : Nat) /\ m + i = cs.length /\ SlH H x 6 (ivF (zaL (cs.take i))) i /\ ¬ inB x 0 /\ Zz.look H 0 0 = some (zaa v)) ?_ cs.length _ ⟨_, 0, .snil, [some ⟨0, zaa v⟩], rfl, rfl, rfl, rfl, rfl, rfl, rfl, rfl, rfl, rfl, rfl, by omega, ⟨rfl, .inl ⟨rfl, rfl⟩⟩, id, rfl⟩;rintro m _ ⟨T, i, x, H, rfl, hT, g0, g2, g3, g5, g9, g10, g30, g31, g32, hml, hsl, hnb, hh0⟩;obtain ⟨f, rfl⟩ := exG hT;clear hT;change f 0 = _ at g0;change f 2 = _ at g2;change f 3 = _ at g3;change f 5 = _ at g5;change f 9 = _ at g9;change f 10 = _ at g10;change f 30 = _ at g30;change f 31 = _ at g31;change f 32 = _ at g32;simp only [tb, Nat.reduceAdd, g0, g2, g3, g5, g9, g10, g30, g31, g32]
  by_cases hi : i < cs.length
  ·obtain ⟨⟨hw1, hw2⟩, hat⟩ := hz.at hi
   have hnx : ivF (zaL (cs.take (i + 1))) = ivF (zaL (cs.take i)) ++ zaa (zbR cs i).v := by
    have e : zbR cs i = cs[i] := by simp [zbR, hi]
    rw [List.take_succ_eq_append_getElem hi, e];unfold zaL ivF;rw [List.map_append, List.map_append, List.flatten_append];simp
   generalize zbR cs i = c at *;obtain ⟨n, r⟩ := c;simp only at hw1 hw2 hat hnx
   obtain ⟨v0, v1, v2, v3, v4, v5, rfl⟩ : ∃ v0 v1 v2 v3 v4 v5, r = [v0, v1, v2, v3, v4, v5] := by
    match r, hw2 with
    | [a, b, c, d, e, g], _ => exact ⟨a, b, c, d, e, g, rfl⟩
   simp only [List.map_cons, List.map_nil, zCA, zNA] at hat
   have hcut6b : ∀ {x0 x1 x2 x3 x4 x5 x6 : AV} {l : List AV}, Zz.cut (x0 :: x1 :: x2 :: x3 :: x4 :: x5 :: x6 :: l) 1 6 = some [x1, x2, x3, x4, x5, x6] := fun {x0 x1 x2 x3 x4 x5 x6 l} => by simp [Zz.cut]
   have hcut7 : ∀ {x0 x1 x2 x3 x4 x5 x6 : AV} {l : List AV}, Zz.cut (x0 :: x1 :: x2 :: x3 :: x4 :: x5 :: x6 :: l) 0 7 = some [x0, x1, x2, x3, x4, x5, x6] := fun {x0 x1 x2 x3 x4 x5 x6 l} => by simp [Zz.cut]
   have hover : ∀ {y0 y1 y2 y3 y4 y5 y6 x0 x1 x2 x3 x4 x5 x6 : AV}, Zz.over [y0, y1, y2, y3, y4, y5, y6] 0 [x0, x1, x2, x3, x4, x5, x6] = some [x0, x1, x2, x3, x4, x5, x6] := fun {_ _ _ _ _ _ _ _ _ _ _ _ _ _} => by simp [Zz.over]
   repeat' (first |refine zE (by intro; simp (disch := omega) only [go_sem, za0, List.length_append, zfo, zaZ, Option.bind_eq_bind, Nat.reduceAdd, hat, hcut7, hcut6b, lk0]; rfl) ?_ |refine zx2 (by intro; simp (disch := omega) only [go_sem, Option.bind_eq_bind, Nat.reduceAdd, hover, lk0, st0, zat]; rfl) ?_ |refine zy1 ?_ |refine zy2 ?_ |refine zy3 ?_ |(simp only [fl1, fl4]) |refine zy6 ?_ |refine zy5 ?_ |refine zy4 rfl (fun hp => ?_) (fun hp => ?_) <;> try (exfalso; first | omega | contradiction))
   refine WO.appendSl (c := zaa [v0, v1, v2, v3, v4, v5]) (z := x) rfl rfl (hsl.keep fun j hj => zs6 (zkK hsl hj)) (by decide) lkk rfl ⟨by show (i + 1) * 48 <= _; omega, by omega⟩ ?_;intro z' H' e2 e3 e4;have hH0 : Zz.look H' 0 0 = some (zaa v) := (zad (e3 0 hnb (by simp))).trans (zcb (zcb hh0))
   have hnb' : ¬ inB z' 0 := fun h => by
    rcases e4 0 h with h | h
    ·exact hnb h
    ·simp at h
   simp only [pt8, pt0]
   repeat' (first |refine zE (by intro; simp (disch := omega) only [go_sem]; rfl) ?_ |refine zy2 ?_ |refine zy3 ?_ |(simp only [zbr]))
   exact ⟨m - 1, by omega, _, i + 1, z', H', rfl, rfl, rfl, rfl, rfl, rfl, rfl, rfl, rfl, rfl, rfl, by omega, hnx ▸ e2, hnb', hH0⟩
  ·have hie : i = cs.length := by omega
   subst hie;rw [List.take_length] at hsl;have hrw := znB hx6;rw [hvl] at hrw;have hbv := hsl.byVal (zgb _)
   have hmx : (zaL cs).length < 9223372036854775807 := by omega
   obtain ⟨xm, hxm, hc6⟩ := x55 hrw hmx;have c6 := hc6 ⟨H, []⟩ x hbv;have n2 := hxm.cells;unfold AV.cells at n2
   have hfc : zg6 (zaL cs) := ⟨ha.2.2.2.2.1, fun k _ => ha.b48 k⟩
   have h6 := vecs6 hz
   have hrk : zb1 (zaL cs) = (zaL cs).length := by rw [hvl]; exact ha.2.2.2.2.2
   have hl0 : ∀ Y, Zz.look (H ++ Y) 0 0 = some (zaa v) := fun Y => zcb hh0
   by_cases he : zhC (zaL cs) = 0
   ·rw [he] at c6;obtain ⟨_, hvt, hfr⟩ := ziD he
    have hm : (zcW (zaL cs)).length < 9223372036854775807 := by rw [hfr]; have := hvt.1.2; omega
    have c7 := fun m => x50 (m := m) (l' := xm) (v := v) hxm hm hv6 (hxm.byC _)
    by_cases hb : okB 48 v
    ·have e7 : zn9 (zcW (zaL cs)) v = 0 := if_pos ⟨hfr ▸ hvt, hb⟩;rw [e7] at c7
     have c9 := fun Y => x76 (m := ⟨H ++ Y, []⟩) (l' := x) (v := v) hrw hmx hv6 ((hsl.keep fun j hj => List.getElem?_append_left (zkK hsl hj)).byVal (zgb _))
     have c10 := fun m => x10 (m := m) hz hv6 (hz.byVal _)
     have hT := zpB h6 hrk he hb;have hE := zoS ha hb
     have hyr : (∃ c, IsC (zaL cs) v c) -> zes (zcW (zaL cs)) v = true := fun h => hT.2 ⟨1, Int.le_refl _, (zf8.1 h).of_eq fun j _ => (Int.one_mul _)⟩
     rcases zqt hfc.1 hb with eo | eo
     ·obtain ⟨o1, o2⟩ := zqI hfc.1 h6 hv6 eo;rw [eo] at c9
      rcases hE with ⟨hec, hno⟩ | ⟨hec | hec, hyes⟩
      ·have hod : ¬ zk0 (zaL cs) v = 1 := fun h => hno (zf8.2 (o2.1 h))
       have ex : xCn cs v = .snil := by unfold xCn; rw [hec]; rfl
       rw [hec, ex] at c10
       by_cases hp0 : 0 < zk0 (zaL cs) v
       ·rw [hT.2 (o1.1 hp0)] at c7;generalize zk0 (zaL cs) v = od at *
        repeat' (first |refine zx1 rfl ?_ |refine zN rfl ?_ |refine zE (by intro; simp (disch := omega) only [go_sem, hl0, hcc, lk0, hod, hp0, decide_true, decide_false, beq_self_eq_true]; rfl) ?_ |refine zx2 (by intro; simp (disch := omega) only [go_sem, zaF, Option.bind_eq_bind, lk0, st0, zat]; rfl) ?_ |refine zS rfl rfl (c6) ?_ |refine zS rfl rfl (c7 _) ?_ |refine zS rfl rfl (c9 _) ?_ |refine zS rfl rfl (c10 _) ?_ |refine zy1 ?_ |refine zy2 ?_ |refine zy3 ?_ |(simp only [fl1, fl2]) |refine zy0 rfl ?_ |refine zy9 rfl ?_ |refine zy6 ?_ |refine zy8 ?_ |refine zy7 ?_ |refine zy4 rfl (fun hp => ?_) (fun hp => ?_) <;> try (exfalso; first | omega | contradiction))
        all_goals exact ⟨_, rfl, rfl⟩
       ·have hte : zes (zcW (zaL cs)) v = false := Bool.eq_false_iff.2 fun h => hp0 (o1.2 (hT.1 h))
        rw [hte] at c7;generalize zk0 (zaL cs) v = od at *
        repeat' (first |refine zx1 rfl ?_ |refine zN rfl ?_ |refine zE (by intro; simp (disch := omega) only [go_sem, hl0, hcc, lk0, hod, hp0, decide_true, decide_false, beq_self_eq_true]; rfl) ?_ |refine zx2 (by intro; simp (disch := omega) only [go_sem, zaF, Option.bind_eq_bind, lk0, st0, zat]; rfl) ?_ |refine zS rfl rfl (c6) ?_ |refine zS rfl rfl (c7 _) ?_ |refine zS rfl rfl (c9 _) ?_ |refine zS rfl rfl (c10 _) ?_ |refine zy1 ?_ |refine zy2 ?_ |refine zy3 ?_ |(simp only [fl1, fl2]) |refine zy0 rfl ?_ |refine zy9 rfl ?_ |refine zy6 ?_ |refine zy8 ?_ |refine zy7 ?_ |refine zy4 rfl (fun hp => ?_) (fun hp => ?_) <;> try (exfalso; first | omega | contradiction))
        all_goals exact ⟨_, rfl, rfl⟩
      ·rw [o2.2 (zf8.1 hyes)] at c9;have hte : zes (zcW (zaL cs)) v = true := hyr hyes;rw [hte] at c7
       have c11 := fun m => x57 (m := m) (l' := xm) (gx' := gx) (v := v) hxm hm hgx hgm hv6 (hxm.byC _) (hgx.byVal _)
       rw [zk3 hte] at c11
       have c12 := fun m => s12 (m := m) hz hy hym
       have hxi : IntS (.sval true cs.length (zaa (zhD (zaL cs) v))) (zhD (zaL cs) v) := by
        have h := IntS.mk (zhD (zaL cs) v) true;rw [(znr hyes).1, hvl] at h;exact h
       have ex : xCn cs v = .sval true cs.length (zaa (zhD (zaL cs) v)) := if_pos hec;rw [ex, hec] at c10
       have c13 := fun (h : zew cs other = 0) m => x34 (m := m) hy hxi (by have := (zeb h).1.1; omega) (hy.byVal _) (IntS.byVal hxi _)
       have hbq : zew cs other = 0 -> (decide (zeM cs other = v) == decide (other = zhD (zaL cs) v)) = true := fun h => by
        obtain ⟨s1, s2⟩ := zeb h;rw [s2, decide_eq_decide.2 (zpM ha hv6 hyes s1.1)];exact beq_self_eq_true _
       have hvs := znq cs other;have hce := ceq6 hvs hv6
       have hwl : (zaa (zeM cs other)).length = 6 := by rw [zae, hvs]
       have hwc := zav hvs
       have hwo := fun x0 x1 x2 x3 x4 x5 => zaN hvs (x0 := x0) (x1 := x1) (x2 := x2) (x3 := x3) (x4 := x4) (x5 := x5)
       have hzl : zaa zer6 = [.int .i64 0, .int .i64 0, .int .i64 0, .int .i64 0, .int .i64 0, .int .i64 0] := rfl;rw [hzl] at c11;generalize zfZ (zcW (zaL cs)) gens v = et at *;generalize zeM cs other = w at *;generalize zew cs other = es at *;generalize zhD (zaL cs) v = cn at *;have hc66 : Zz.cut [(.int .i64 0 : AV), .int .i64 0, .int .i64 0, .int .i64 0, .int .i64 0, .int .i64 0] 0 6 = some [.int .i64 0, .int .i64 0, .int .i64 0, .int .i64 0, .int .i64 0, .int .i64 0] := rfl;have ho66 : Zz.over [(.int .i64 0 : AV), .int .i64 0, .int .i64 0, .int .i64 0, .int .i64 0, .int .i64 0] 0 [.int .i64 0, .int .i64 0, .int .i64 0, .int .i64 0, .int .i64 0, .int .i64 0] = some [.int .i64 0, .int .i64 0, .int .i64 0, .int .i64 0, .int .i64 0, .int .i64 0] := rfl
       have hce6 : zaT [true, true, true, true, true, true] [.int .i64 0, .int .i64 0, .int .i64 0, .int .i64 0, .int .i64 0, .int .i64 0] [.int .i64 0, .int .i64 0, .int .i64 0, .int .i64 0, .int .i64 0, .int .i64 0] = some true := by decide
       repeat' (first |refine zx1 rfl ?_ |refine zN rfl ?_ |refine zE (by intro; simp (disch := omega) only [go_sem, List.length_append, zaZ, Nat.reduceAdd, hl0, hcc, lk0, lk1, List.append_assoc, zCA, zNA, hc66, hce6, Option.map_some, beq_self_eq_true]; rfl) ?_ |refine zx2 (by intro; simp (disch := omega) only [go_sem, zaF, Option.bind_eq_bind, Nat.reduceAdd, lk0, lk1, lk2, st0, st1, st2, zat, hwl, hwo, ho66, Option.map_some]; rfl) ?_ |refine zS rfl rfl (c6) ?_ |refine zS rfl rfl (c7 _) ?_ |refine zS rfl rfl (c9 _) ?_ |refine zS rfl rfl (c10 _) ?_ |refine zS rfl rfl (c11 _) ?_ |refine zS rfl rfl (c12 _) ?_ |refine zP rfl rfl (fun V => c13 (by omega) _) ?_ |refine zy1 ?_ |refine zy2 ?_ |refine zy3 ?_ |(simp only [fl1]) |refine zx4 ?_ |refine zx6 ?_ |refine WT.yes rfl ?_ |refine zO rfl ?_ |refine zF rfl (by intro; simp (disch := omega) only [go_sem, hl0, hcc, lk2, hce, hbq, hwc, Option.map_some]; rfl) rfl ?_ |refine WT.big rfl rfl (by intro; simp (disch := omega) only [go_sem, hl0, hcc, lk2, hwc, Option.map_some]; rfl) (by simp (disch := omega) only [go_sem, zbh]; rfl) (by first | exact .inl rfl | exact .inr (zan _) | exact .inr trivial | (right; apply zau; simp only [zaR, zNA, zCA, List.getElem?_cons_succ, List.getElem?_cons_zero, Tch.free, and_true, true_and]; first | done | omega)) (by simp only [pt8, pt3, pt4]; rfl) ?_ |refine zy0 rfl ?_ |refine zy9 rfl ?_ |refine zy6 ?_ |refine zy8 ?_ |refine zy7 ?_ |refine zx8 rfl (by intro hp; simp only [hp]; rfl) (by intro hp; simp only [hp, decide_false]; rfl) (fun hp => ?_) (fun hp => ?_) <;> try (exfalso; first | omega | contradiction) |refine zx7 rfl (by intro hp; simp only [hp]; rfl) (by intro hp; simp only [hp, decide_false]; rfl) (fun hp => ?_) (fun hp => ?_) <;> try (exfalso; first | omega | contradiction) |refine zy4 rfl (fun hp => ?_) (fun hp => ?_) <;> try (exfalso; first | omega | contradiction))
       all_goals exact ⟨_, rfl, rfl⟩
      ·rw [o2.2 (zf8.1 hyes)] at c9
       have ex : xCn cs v = .snil := by unfold xCn; rw [hec]; rfl
       rw [hyr hyes] at c7;rw [hec, ex] at c10
       repeat' (first |refine zx1 rfl ?_ |refine zE (by intro; simp (disch := omega) only [go_sem, hl0, hcc, lk0]; rfl) ?_ |refine zx2 (by intro; simp (disch := omega) only [go_sem, zaF, Option.bind_eq_bind, lk0, st0, zat]; rfl) ?_ |refine zS rfl rfl (c6) ?_ |refine zS rfl rfl (c7 _) ?_ |refine zS rfl rfl (c9 _) ?_ |refine zS rfl rfl (c10 _) ?_ |refine zy1 ?_ |refine zy2 ?_ |refine zy3 ?_ |(simp only [fl1, fl2]) |refine zy0 rfl ?_ |refine zy9 rfl ?_ |refine zy6 ?_ |refine zy8 ?_ |refine zy7 ?_ |refine zy4 rfl (fun hp => ?_) (fun hp => ?_) <;> try (exfalso; first | omega | contradiction))
       all_goals exact ⟨_, rfl, rfl⟩
     ·have od : zk0 (zaL cs) v = 0 := by unfold zk0; rw [eo]; rfl
      rw [eo, od] at c9
      rcases hE with ⟨hec, hno⟩ | ⟨hec | hec, hyes⟩
      ·have ex : xCn cs v = .snil := by unfold xCn; rw [hec]; rfl
       rw [hec, ex] at c10
       repeat' (first |refine zx1 rfl ?_ |refine zN rfl ?_ |refine zE (by intro; simp (disch := omega) only [go_sem, hl0, hcc, lk0]; rfl) ?_ |refine zx2 (by intro; simp (disch := omega) only [go_sem, zaF, Option.bind_eq_bind, lk0, st0, zat]; rfl) ?_ |refine zS rfl rfl (c6) ?_ |refine zS rfl rfl (c7 _) ?_ |refine zS rfl rfl (c9 _) ?_ |refine zS rfl rfl (c10 _) ?_ |refine zy1 ?_ |refine zy2 ?_ |refine zy3 ?_ |(simp only [fl1, fl2]) |refine zy0 rfl ?_ |refine zy9 rfl ?_ |refine zy6 ?_ |refine zy8 ?_ |refine zy7 ?_ |refine zy4 rfl (fun hp => ?_) (fun hp => ?_) <;> try (exfalso; first | omega | contradiction))
       all_goals exact ⟨_, rfl, rfl⟩
      ·
       have hte : zes (zcW (zaL cs)) v = true := hyr hyes;rw [hte] at c7
       have c11 := fun m => x57 (m := m) (l' := xm) (gx' := gx) (v := v) hxm hm hgx hgm hv6 (hxm.byC _) (hgx.byVal _)
       rw [zk3 hte] at c11
       have c12 := fun m => s12 (m := m) hz hy hym
       have hxi : IntS (.sval true cs.length (zaa (zhD (zaL cs) v))) (zhD (zaL cs) v) := by
        have h := IntS.mk (zhD (zaL cs) v) true;rw [(znr hyes).1, hvl] at h;exact h
       have ex : xCn cs v = .sval true cs.length (zaa (zhD (zaL cs) v)) := if_pos hec;rw [ex, hec] at c10
       have c13 := fun (h : zew cs other = 0) m => x34 (m := m) hy hxi (by have := (zeb h).1.1; omega) (hy.byVal _) (IntS.byVal hxi _)
       have hbq : zew cs other = 0 -> (decide (zeM cs other = v) == decide (other = zhD (zaL cs) v)) = true := fun h => by
        obtain ⟨s1, s2⟩ := zeb h;rw [s2, decide_eq_decide.2 (zpM ha hv6 hyes s1.1)];exact beq_self_eq_true _
       have hvs := znq cs other;have hce := ceq6 hvs hv6
       have hwl : (zaa (zeM cs other)).length = 6 := by rw [zae, hvs]
       have hwc := zav hvs
       have hwo := fun x0 x1 x2 x3 x4 x5 => zaN hvs (x0 := x0) (x1 := x1) (x2 := x2) (x3 := x3) (x4 := x4) (x5 := x5)
       have hzl : zaa zer6 = [.int .i64 0, .int .i64 0, .int .i64 0, .int .i64 0, .int .i64 0, .int .i64 0] := rfl;rw [hzl] at c11;generalize zfZ (zcW (zaL cs)) gens v = et at *;generalize zeM cs other = w at *;generalize zew cs other = es at *;generalize zhD (zaL cs) v = cn at *;have hc66 : Zz.cut [(.int .i64 0 : AV), .int .i64 0, .int .i64 0, .int .i64 0, .int .i64 0, .int .i64 0] 0 6 = some [.int .i64 0, .int .i64 0, .int .i64 0, .int .i64 0, .int .i64 0, .int .i64 0] := rfl;have ho66 : Zz.over [(.int .i64 0 : AV), .int .i64 0, .int .i64 0, .int .i64 0, .int .i64 0, .int .i64 0] 0 [.int .i64 0, .int .i64 0, .int .i64 0, .int .i64 0, .int .i64 0, .int .i64 0] = some [.int .i64 0, .int .i64 0, .int .i64 0, .int .i64 0, .int .i64 0, .int .i64 0] := rfl
       have hce6 : zaT [true, true, true, true, true, true] [.int .i64 0, .int .i64 0, .int .i64 0, .int .i64 0, .int .i64 0, .int .i64 0] [.int .i64 0, .int .i64 0, .int .i64 0, .int .i64 0, .int .i64 0, .int .i64 0] = some true := by decide
       repeat' (first |refine zx1 rfl ?_ |refine zN rfl ?_ |refine zE (by intro; simp (disch := omega) only [go_sem, List.length_append, zaZ, Nat.reduceAdd, hl0, hcc, lk0, lk1, List.append_assoc, zCA, zNA, hc66, hce6, Option.map_some, beq_self_eq_true]; rfl) ?_ |refine zx2 (by intro; simp (disch := omega) only [go_sem, zaF, Option.bind_eq_bind, Nat.reduceAdd, lk0, lk1, lk2, st0, st1, st2, zat, hwl, hwo, ho66, Option.map_some]; rfl) ?_ |refine zS rfl rfl (c6) ?_ |refine zS rfl rfl (c7 _) ?_ |refine zS rfl rfl (c9 _) ?_ |refine zS rfl rfl (c10 _) ?_ |refine zS rfl rfl (c11 _) ?_ |refine zS rfl rfl (c12 _) ?_ |refine zP rfl rfl (fun V => c13 (by omega) _) ?_ |refine zy1 ?_ |refine zy2 ?_ |refine zy3 ?_ |(simp only [fl1]) |refine zx4 ?_ |refine zx6 ?_ |refine WT.yes rfl ?_ |refine zO rfl ?_ |refine zF rfl (by intro; simp (disch := omega) only [go_sem, hl0, hcc, lk2, hce, hbq, hwc, Option.map_some]; rfl) rfl ?_ |refine WT.big rfl rfl (by intro; simp (disch := omega) only [go_sem, hl0, hcc, lk2, hwc, Option.map_some]; rfl) (by simp (disch := omega) only [go_sem, zbh]; rfl) (by first | exact .inl rfl | exact .inr (zan _) | exact .inr trivial | (right; apply zau; simp only [zaR, zNA, zCA, List.getElem?_cons_succ, List.getElem?_cons_zero, Tch.free, and_true, true_and]; first | done | omega)) (by simp only [pt8, pt3, pt4]; rfl) ?_ |refine zy9 rfl ?_ |refine zy6 ?_ |refine zy8 ?_ |refine zy7 ?_ |refine zx8 rfl (by intro hp; simp only [hp]; rfl) (by intro hp; simp only [hp, decide_false]; rfl) (fun hp => ?_) (fun hp => ?_) <;> try (exfalso; first | omega | contradiction) |refine zx7 rfl (by intro hp; simp only [hp]; rfl) (by intro hp; simp only [hp, decide_false]; rfl) (fun hp => ?_) (fun hp => ?_) <;> try (exfalso; first | omega | contradiction) |refine zy4 rfl (fun hp => ?_) (fun hp => ?_) <;> try (exfalso; first | omega | contradiction))
       all_goals exact ⟨_, rfl, rfl⟩
      ·have ex : xCn cs v = .snil := by unfold xCn; rw [hec]; rfl
       rw [hec, ex] at c10
       repeat' (first |refine zx1 rfl ?_ |refine zE (by intro; simp (disch := omega) only [go_sem, hl0, hcc, lk0]; rfl) ?_ |refine zx2 (by intro; simp (disch := omega) only [go_sem, zaF, Option.bind_eq_bind, lk0, st0, zat]; rfl) ?_ |refine zS rfl rfl (c6) ?_ |refine zS rfl rfl (c7 _) ?_ |refine zS rfl rfl (c9 _) ?_ |refine zS rfl rfl (c10 _) ?_ |refine zy1 ?_ |refine zy2 ?_ |refine zy3 ?_ |(simp only [fl1, fl2]) |refine zy0 rfl ?_ |refine zy9 rfl ?_ |refine zy6 ?_ |refine zy8 ?_ |refine zy7 ?_ |refine zy4 rfl (fun hp => ?_) (fun hp => ?_) <;> try (exfalso; first | omega | contradiction))
       all_goals exact ⟨_, rfl, rfl⟩
    ·have e7 : zn9 (zcW (zaL cs)) v = 1 := if_neg fun h => hb h.2
     rw [e7] at c7
     have c8 := fun m => s8b (m := m) hv6
     rw [decide_eq_false hb] at c8
     repeat' (first |refine zx1 rfl ?_ |refine zE (by intro; simp (disch := omega) only [go_sem, hl0, hcc, lk0]; rfl) ?_ |refine zx2 (by intro; simp (disch := omega) only [go_sem, zaF, Option.bind_eq_bind, lk0, st0, zat]; rfl) ?_ |refine zS rfl rfl (c6) ?_ |refine zS rfl rfl (c7 _) ?_ |refine zS rfl rfl (c8 _) ?_ |refine zy1 ?_ |refine zy2 ?_ |refine zy3 ?_ |(simp only [fl1, fl2]) |refine zy0 rfl ?_ |refine zy9 rfl ?_ |refine zy6 ?_ |refine zy8 ?_ |refine zy7 ?_ |refine zy4 rfl (fun hp => ?_) (fun hp => ?_) <;> try (exfalso; first | omega | contradiction))
     all_goals exact ⟨_, rfl, rfl⟩
   ·rcases zmB hfc he with e | e
    ·rw [e] at c6
     repeat' (first |refine zx1 rfl ?_ |refine zN rfl ?_ |refine zE (by intro; simp (disch := omega) only [go_sem]; rfl) ?_ |refine zx2 (by intro; simp (disch := omega) only [go_sem, zaF, Option.bind_eq_bind, lk0, st0, zat]; rfl) ?_ |refine zS rfl rfl (c6) ?_ |refine zy1 ?_ |refine zy2 ?_ |refine zy3 ?_ |(simp only [fl1, fl2]) |refine zy0 rfl ?_ |refine zy8 ?_ |refine zy7 ?_ |refine zy4 rfl (fun hp => ?_) (fun hp => ?_) <;> try (exfalso; first | omega | contradiction))
     all_goals exact ⟨_, rfl, rfl⟩
    ·rw [e] at c6
     repeat' (first |refine zx1 rfl ?_ |refine zE (by intro; simp (disch := omega) only [go_sem]; rfl) ?_ |refine zx2 (by intro; simp (disch := omega) only [go_sem, zaF, Option.bind_eq_bind, lk0, st0, zat]; rfl) ?_ |refine zS rfl rfl (c6) ?_ |refine zy1 ?_ |refine zy2 ?_ |refine zy3 ?_ |(simp only [fl1, fl2]) |refine zy0 rfl ?_ |refine zy8 ?_ |refine zy7 ?_ |refine zy4 rfl (fun hp => ?_) (fun hp => ?_) <;> try (exfalso; first | omega | contradiction))
     all_goals exact ⟨_, rfl, rfl⟩
 ·rw [decide_eq_false ha] at hs5;refine zx0 rfl (zaz Tryd.func3 cir3) (by show 4 <= 164; decide) ?_;unfold ir3;simp only [zaw, List.replicate, zNA, zAN]
  repeat' (first |refine zE (by intro; simp (disch := omega) only [go_sem, zNA]; rfl) ?_ |refine zS rfl rfl (s4) ?_ |refine zS rfl rfl (hs5 _) ?_ |refine zy1 ?_ |refine zy2 ?_ |refine zy3 ?_ |(simp only [fl1, fl2]) |refine zy0 rfl ?_ |refine zy7 ?_)
  exact ⟨_, rfl, rfl⟩
end Go.Proofs.YtgchabldcnmccabDoor

