import Derived.Test.YtgchabldcnmccabDoorUTa
import Derived.Test.YtgchabldcnmccabDoorUPm

set_option linter.unusedSimpArgs false
set_option linter.unusedVariables false

namespace Go.Proofs.YtgchabldcnmccabDoor
open Go.Zz
set_option maxRecDepth 100000
set_option maxHeartbeats 8000000
noncomputable def T9 : Env := T8
theorem T9_ok : EnvOk Tryd.prog T9 := T8_ok
noncomputable def T10 : Env := T9
theorem zpN : EnvOk Tryd.prog T10 := T9_ok
def zkL (a b : List Int) (j : Nat) : Int := zag (fun j => a.getD j 0 * b.getD j 0) j
def zsr (a b : List Int) : Int := zkL a b 6
def zfY (rows : List (List Int)) (v : List Int) : List Int := rows.map fun r => zsr r v
theorem zkQ {a b : Int} {A B : Int} (ha : -A <= a /\ a <= A) (hb : -B <= b /\ b <= B) : -(A * B) <= a * b /\ a * b <= A * B := by
 have h1 := Int.mul_nonneg (show 0 <= A - a by omega) (show 0 <= B - b by omega);have h2 := Int.mul_nonneg (show 0 <= A + a by omega) (show 0 <= B + b by omega);have h3 := Int.mul_nonneg (show 0 <= A - a by omega) (show 0 <= B + b by omega);have h4 := Int.mul_nonneg (show 0 <= A + a by omega) (show 0 <= B - b by omega)
 constructor <;> grind
theorem zkV {a b : List Int} {A B : Int} (ha : okB A a) (hb : okB B b) : ∀ j, j <= 6 -> -(j * (A * B)) <= zkL a b j /\ zkL a b j <= j * (A * B)
 | 0, _ => by simp [zkL, zag]
 | j + 1, hj => by
  have ih := zkV ha hb j (by omega);have hm := zkQ (ha j (by omega)) (hb j (by omega));have e : zkL a b (j + 1) = zkL a b j + a.getD j 0 * b.getD j 0 := rfl
  have e2 : ((j + 1 : Nat) : Int) * (A * B) = j * (A * B) + A * B := by rw [Int.natCast_add, Int.add_mul]; simp
  rw [e, e2];omega
theorem byI (H : Hp) (r : List Int) : Zz.byVal H (.agg (zaa r)) = some (.agg (zaa r)) := by
 have : ∀ r : List Int, Zz.byL H (zaa r) = some (zaa r) := fun r => by
  induction r with
  | nil => rfl
  | cons x r ih =>
   show (match Zz.byC H (.int .i64 x), Zz.byL H (zaa r) with | some a, some l => some (a :: l) | _, _ => none) = _
   rw [ih];rfl
 simp only [Zz.byVal, this]
theorem zkW {rows : List (List Int)} {v : List Int} {t : Nat} (ht : t < rows.length) : (zfY rows v).getD t 0 = zsr (rw_ rows t) v := by
 unfold zfY;rw [zo5 ht];simp [List.getD_eq_getElem?_getD, ht]
theorem zfA (rows : List (List Int)) (v : List Int) : (zfY rows v).length = rows.length := List.length_map _
theorem f110 {l : AV} {rows : List (List Int)} {v : List Int} (hl : RwL l rows) (h3 : rows.length <= 3) (hr : ∀ i, i < rows.length -> okB 400 (rw_ rows i)) (hv6 : v.length = 6) (hv : okB 48 v) :
  WF T10 (.func 33 [] []) [.agg [l], .agg (zaa v)] ⟨[], []⟩ fun y m' => y = .sref 2 0 0 1 rows.length (some rows.length) /\ Zz.look m'.heap 2 0 = some (zaa (zfY rows v)) := by
 have hll := hl.len;have hlc := hl.cells;unfold AV.cells at hlc
 have hmv : (zaa v).length = 6 := by rw [zae, hv6]
 refine zx0 rfl (zaz Tryd.func33 cir33) (by show 2 <= 43; decide) ?_;unfold ir33;simp only [zaw, List.replicate, zNA, zAN]
 repeat' (first |refine zE (by intro; simp (disch := omega) only [go_sem, Zz.look, zCA, zNA, Nat.reduceAdd]; rfl) ?_ |refine WO.opE (by intro; exact zaf (by simp only [go_sem]; first | rfl | assumption)) (by simp only [pt8, pt2, pt5]; rfl) ?_ |refine zE (by intro; exact zkC (by omega) rfl rfl) ?_ |refine zy1 ?_ |refine zy2 ?_ |refine zy3 ?_ |(simp only [fl1]) |refine zy5 ?_)
 refine zx9 (fun m s => ∃ T G w i, s = ⟨T, G, []⟩ /\ T.length = 43 /\ gt T 2 = .pref 0 0 0 /\ gt T 3 = .pref 1 0 0 /\ gt T 5 = .sref 2 0 0 1 rows.length (some rows.length) /\ gt T 17 = l /\ gt T 18 = .int .i64 (rows.length : Nat) /\ gt T 19 = .int .i64 (i : Nat) /\ m + i = rows.length /\ Zz.look G 0 0 = some [l] /\ Zz.look G 1 0 = some (zaa v) /\ Zz.look G 2 0 = some (zaa w) /\ w.length = rows.length /\ (∀ t, t < i -> w.getD t 0 = zsr (rw_ rows t) v) /\ ∀ t, i <= t -> w.getD t 0 = 0) ?_ rows.length _ ⟨_, _, List.replicate rows.length 0, 0, rfl, rfl, rfl, rfl, rfl, rfl, rfl, rfl, by omega, rfl, rfl, rfl, by simp, fun t ht => by omega, fun t _ => by simp [List.getD_eq_getElem?_getD, List.getElem?_replicate]; split <;> rfl⟩;rintro m _ ⟨T, G, w, i, rfl, hT, g2, g3, g5, g17, g18, g19, hm, k0, k1, k2, hwl, hw1, hw2⟩;obtain ⟨f, rfl⟩ := exG hT;clear hT;change f 2 = _ at g2;change f 3 = _ at g3;change f 5 = _ at g5;change f 17 = _ at g17;change f 18 = _ at g18;change f 19 = _ at g19;simp only [tb, Nat.reduceAdd, g2, g3, g5, g17, g18, g19];have l2 := zah k2
 by_cases hi : i < rows.length
 ·have h6 := hl.six hi;have hat := hl.at hi;have hcut := zcu (t := zet rows i) h6
  have hov := fun x0 x1 x2 x3 x4 x5 => zaN h6 (x0 := x0) (x1 := x1) (x2 := x2) (x3 := x3) (x4 := x4) (x5 := x5)
  have hcr : (rw_ rows i).map (AV.int .i64) = zaa (rw_ rows i) := rfl;rw [hcr] at hat hcut
  have hml : (zaa (rw_ rows i)).length = 6 := by rw [zae, h6]
  have hcut0 := zav h6;have hri := hr i hi
  repeat' (first |refine zE (by intro; simp (disch := omega) only [go_sem, hat, hcut, hcut0, lk0]; rfl) ?_ |refine zx2 (by intro; simp (disch := omega) only [go_sem, Option.bind_eq_bind, zbB, hov, hml, lk0]; rfl) ?_ |refine zy1 ?_ |refine zy2 ?_ |refine zy3 ?_ |(simp only [fl1]) |refine zy6 ?_ |refine zy5 ?_ |refine zy4 rfl (fun hp => ?_) (fun hp => ?_) <;> try (exfalso; first | omega | contradiction))
  refine zx9 (fun m2 s => ∃ T G w j, s = ⟨T, G ++ [some ⟨0, zaa (rw_ rows i)⟩], []⟩ /\ T.length = 43 /\ gt T 2 = .pref 0 0 0 /\ gt T 3 = .pref 1 0 0 /\ gt T 5 = .sref 2 0 0 1 rows.length (some rows.length) /\ gt T 17 = l /\ gt T 18 = .int .i64 (rows.length : Nat) /\ gt T 19 = .int .i64 (i : Nat) /\ gt T 6 = .int .i64 (i : Nat) /\ gt T 24 = .agg (zaa (rw_ rows i)) /\ gt T 25 = .int .i64 (j : Nat) /\ m2 + j = 6 /\ Zz.look G 0 0 = some [l] /\ Zz.look G 1 0 = some (zaa v) /\ Zz.look G 2 0 = some (zaa w) /\ w.length = rows.length /\ (∀ t, t < i -> w.getD t 0 = zsr (rw_ rows t) v) /\ (∀ t, i < t -> w.getD t 0 = 0) /\ w.getD i 0 = zkL (rw_ rows i) v j) ?_ 6 _ ⟨_, G, w, 0, rfl, rfl, rfl, rfl, rfl, rfl, rfl, rfl, rfl, rfl, rfl, by omega, k0, k1, k2, hwl, hw1, fun t ht => hw2 t (by omega), hw2 i (Nat.le_refl _)⟩;clear g2 g3 g5 g17 g18 g19 f k0 k1 k2 hwl hw1 hw2 l2 w G;rintro m2 _ ⟨T, G, w, j, rfl, hT, g2, g3, g5, g17, g18, g19, g6, g24, g25, hm2, k0, k1, k2, hwl, hw1, hw2, hw3⟩;obtain ⟨f, rfl⟩ := exG hT;clear hT;change f 2 = _ at g2;change f 3 = _ at g3;change f 5 = _ at g5;change f 17 = _ at g17;change f 18 = _ at g18;change f 19 = _ at g19;change f 6 = _ at g6;change f 24 = _ at g24;change f 25 = _ at g25;simp only [tb, Nat.reduceAdd, g2, g3, g5, g17, g18, g19, g6, g24, g25];have l0 := zah k0;have l1 := zah k1;have l2 := zah k2;have kk1 : Zz.look (G ++ [some ⟨0, zaa (rw_ rows i)⟩]) 1 0 = some (zaa v) := (zap l1).trans k1;have kk2 : Zz.look (G ++ [some ⟨0, zaa (rw_ rows i)⟩]) 2 0 = some (zaa w) := (zap l2).trans k2
  by_cases hj : j < 6
  ·have hia := zaK (r := rw_ rows i) (j := j) (by omega);have hiv := zaK (r := v) (j := j) (by omega);have hiw := zaK (r := w) (j := i) (by omega);rw [hw3] at hiw;have hov2 := zbp (r := w) (j := i) (by omega) (zkL (rw_ rows i) v j + (rw_ rows i).getD j 0 * v.getD j 0)
   have hix : zaj 1 (.sref 2 0 0 1 rows.length (some rows.length)) (.int .i64 (i : Int)) = some (.pref 2 0 i) := by rw [zbl, zbb hi]; simp
   have b1 := zkV hri hv j (by omega);have b2 := zkV hri hv (j + 1) (by omega);have b3 := zkQ (hri j hj) (hv j hj);have hd : zkL (rw_ rows i) v (j + 1) = zkL (rw_ rows i) v j + (rw_ rows i).getD j 0 * v.getD j 0 := rfl;rw [<- hd] at hov2;have hst : (G ++ [some ⟨0, zaa (rw_ rows i)⟩] : Hp).set 2 (some ⟨0, zaa (w.set i (zkL (rw_ rows i) v (j + 1)))⟩) = G.set 2 (some ⟨0, zaa (w.set i (zkL (rw_ rows i) v (j + 1)))⟩) ++ [some ⟨0, zaa (rw_ rows i)⟩] := List.set_append_left _ _ l2
   repeat' (first |refine zE (by intro; simp (disch := omega) only [go_sem, hia, hiv, hiw, hix, kk1, kk2, <- hd, Nat.mul_one, Nat.zero_add]; rfl) ?_ |refine zx2 (by intro; simp (disch := omega) only [go_sem, Option.bind_eq_bind, kk2, hov2, hst, zat, Nat.zero_add]; rfl) ?_ |refine zy1 ?_ |refine zy2 ?_ |refine zy3 ?_ |(simp only [fl1, zbr]) |refine zx5 rfl ?_ |refine zy6 ?_ |refine zy5 ?_ |refine zy4 rfl (fun hp => ?_) (fun hp => ?_) <;> try (exfalso; first | omega | contradiction))
   have n20 : ∀ q, q < 2 -> ∀ c, Zz.look G q 0 = some c -> Zz.look (G.set 2 (some ⟨0, zaa (w.set i (zkL (rw_ rows i) v (j + 1)))⟩)) q 0 = some c := fun q hq c h => (zad (List.getElem?_set_ne (by omega))).trans h
   exact ⟨m2 - 1, by omega, _, _, w.set i (zkL (rw_ rows i) v (j + 1)), j + 1, rfl, rfl, rfl, rfl, rfl, rfl, rfl, rfl, rfl, rfl, rfl, by omega, n20 0 (by decide) _ k0, n20 1 (by decide) _ k1, zaJ l2, by simpa using hwl, fun t ht => by rw [zay (by omega)]; exact hw1 t ht, fun t ht => by rw [zay (by omega)]; exact hw2 t ht, zaD (by omega)⟩
  ·have hje : j = 6 := by omega
   subst hje
   repeat' (first |refine zE (by intro; simp (disch := omega) only [go_sem]; rfl) ?_ |refine zy1 ?_ |refine zy2 ?_ |refine zy3 ?_ |(simp only [zbr]) |refine zy9 rfl ?_ |refine zy8 ?_)
   exact ⟨m - 1, by omega, _, _, w, i + 1, rfl, rfl, rfl, rfl, rfl, rfl, rfl, rfl, by omega, (zap l0).trans k0, kk1, kk2, hwl, fun t ht => by
    by_cases e : t = i
    ·subst e; exact hw3
    ·exact hw1 t (by omega), fun t ht => hw2 t (by omega)⟩
 ·have hie : i = rows.length := by omega
  subst hie
  have hwe : w = zfY rows v := zbf (by rw [hwl, zfA]) fun t ht => by rw [hw1 t (by omega), zkW (by omega)]
  subst hwe
  repeat' (first |refine zE (by intro; simp (disch := omega) only [go_sem]; rfl) ?_ |refine zy1 ?_ |refine zy2 ?_ |refine zy3 ?_ |(simp only [fl1]) |refine zy8 ?_ |refine zy7 ?_ |refine zy4 rfl (fun hp => ?_) (fun hp => ?_) <;> try (exfalso; first | omega | contradiction))
  exact ⟨_, rfl, rfl, k2⟩
theorem r110 {l l' : AV} {rows : List (List Int)} {v : List Int} (hl : RwL l rows) (h3 : rows.length <= 3) (hr : ∀ i, i < rows.length -> okB 400 (rw_ rows i)) (hv6 : v.length = 6) (hv : okB 48 v) {m : Mem} (h0 : Zz.byC m.heap l' = some l) :
  zb5 T10 33 [.agg [l'], .agg (zaa v)] m = some (.sref m.heap.length 0 0 1 rows.length (some rows.length), ⟨m.heap ++ [some ⟨0, zaa (zfY rows v)⟩], m.loops⟩) := by
 refine zfs (zal (zj0 h0) (zal (byI _ _) rfl)) ((f110 hl h3 hr hv6 hv).mono ?_);rintro y m' ⟨rfl, h⟩;exact ⟨_, _, zlk h (zbs _), zog h, rfl⟩
noncomputable def T11 : Env := T10.put 33 (zb5 T10 33)
theorem zpU : EnvOk Tryd.prog T11 := Env.put_ok zpN (zfC zpN (zaq Tryd.func33 (by kernel_rfl)))
def imgR (rows : List (List Int)) (v : List Int) : List Int := if VT rows /\ okB 48 v then zfY rows v else []
def zn9 (rows : List (List Int)) (v : List Int) : Int := if VT rows /\ okB 48 v then 0 else 1
theorem zqQ {H : Hp} {r : List Int} {n q : Nat} (hn : r.length = n) (h : Zz.look H q 0 = some (zaa r)) : Zz.newA H (.sref q 0 0 1 n (some n)) = some (.sval true r.length (zaa r)) := by
 subst hn
 have e1 : Zz.cut (zaa r) 0 (r.length * 1) = some (zaa r) := by
  unfold Zz.cut;rw [if_pos (by rw [zae]; omega), List.drop_zero, List.take_of_length_le (by rw [zae]; omega)]
 have e2 : (zaa r).all za9 = true := zbs _;simp only [Zz.newA, Zz.newC, h, e1, e2, if_true, beq_self_eq_true]
theorem x47 {l : AV} {rows : List (List Int)} {v : List Int} (hl : RwL l rows) (hmax : rows.length < 9223372036854775807) (hv6 : v.length = 6) : ∃ x, IntS x (imgR rows v) /\ ∀ m l', Zz.byC m.heap l' = some l -> zaA T11 22 [.agg [l'], .agg (zaa v)] m = some (.tuple [x, .int .i64 (zn9 rows v)], m) := by
 have hlc := hl.cells;unfold AV.cells at hlc
 have hmv : (zaa v).length = 6 := by rw [zae, hv6]
 have hcv := zav hv6
 have c45 := fun m => x45 (m := m) hl hmax (hl.byC _)
 have c61 := fun m => s61 (m := m) hv6
 unfold imgR zn9
 by_cases ht : VT rows
 ·rw [decide_eq_true ht] at c45
  by_cases hv : okB 48 v
  ·rw [decide_eq_true hv] at c61
   have c110 := fun m => r110 (m := m) hl ht.1.2 ht.2.1 hv6 hv (hl.byC _)
   rw [if_pos ⟨ht, hv⟩, if_pos ⟨ht, hv⟩];refine ⟨.sval true (zfY rows v).length (zaa (zfY rows v)), IntS.mk _ true, fun m l' h0 => zaS (zal (zj0 h0) (zal (byI _ _) rfl)) ?_⟩;refine zx0 rfl (zaz Tryd.func22 zrA) (by show 2 <= 18; decide) ?_;unfold ir22;simp only [zaw, List.replicate, zNA, zAN]
   repeat' (first |refine zx1 rfl ?_ |refine zE (by intro; simp (disch := omega) only [go_sem, Zz.look, zaZ, Option.bind_eq_bind, zaF, Nat.reduceAdd, hcv]; rfl) ?_ |refine zS rfl rfl (c45 _) ?_ |refine zS rfl rfl (c61 _) ?_ |refine zS rfl rfl (c110 _) ?_ |refine zy1 ?_ |refine zy2 ?_ |refine zy3 ?_ |(simp only [fl1]) |refine zy9 rfl ?_ |refine zy6 ?_ |refine zy7 ?_)
   exact ⟨_, rfl, ze7 (zqQ (zfA _ _) rfl)⟩
  ·rw [decide_eq_false hv] at c61;rw [if_neg (fun h => hv h.2), if_neg (fun h => hv h.2)];refine ⟨.snil, IntS.nil, fun m l' h0 => zaS (zal (zj0 h0) (zal (byI _ _) rfl)) ?_⟩;refine zx0 rfl (zaz Tryd.func22 zrA) (by show 2 <= 18; decide) ?_;unfold ir22;simp only [zaw, List.replicate, zNA, zAN]
   repeat' (first |refine zx1 rfl ?_ |refine zE (by intro; simp (disch := omega) only [go_sem, Zz.look, hcv]; rfl) ?_ |refine zS rfl rfl (c45 _) ?_ |refine zS rfl rfl (c61 _) ?_ |refine zy1 ?_ |refine zy2 ?_ |refine zy3 ?_ |(simp only [fl1, fl2]) |refine zy0 rfl ?_ |refine zy7 ?_)
   exact ⟨_, rfl, rfl⟩
 ·rw [decide_eq_false ht] at c45;rw [if_neg (fun h => ht h.1), if_neg (fun h => ht h.1)];refine ⟨.snil, IntS.nil, fun m l' h0 => zaS (zal (zj0 h0) (zal (byI _ _) rfl)) ?_⟩;refine zx0 rfl (zaz Tryd.func22 zrA) (by show 2 <= 18; decide) ?_;unfold ir22;simp only [zaw, List.replicate, zNA, zAN]
  repeat' (first |refine zN rfl ?_ |refine zE (by intro; simp (disch := omega) only [go_sem, Zz.look]; rfl) ?_ |refine zS rfl rfl (c45 _) ?_ |refine zy1 ?_ |refine zy2 ?_ |refine zy3 ?_ |(simp only [fl1, fl2]) |refine zy0 rfl ?_ |refine zy7 ?_)
  exact ⟨_, rfl, rfl⟩
noncomputable def T12 : Env := T11.put 22 (zaA T11 22)
theorem zqq : EnvOk Tryd.prog T12 := Env.put_ok zpU (za6 zpU (zaq Tryd.func22 (by kernel_rfl)))
def zes (rows : List (List Int)) (v : List Int) : Bool := decide ((VT rows /\ okB 48 v) /\ ∀ t, t < rows.length -> (zfY rows v).getD t 0 = 0)
theorem f50 {l : AV} {rows : List (List Int)} {v : List Int} (hl : RwL l rows) (hmax : rows.length < 9223372036854775807) (hv6 : v.length = 6) : WF T12 (.func 7 [] []) [.agg [l], .agg (zaa v)] ⟨[], []⟩ fun y m' => y = .tuple [.bool (zes rows v), .int .i64 (zn9 rows v)] := by
 have hlc := hl.cells;unfold AV.cells at hlc
 have hmv : (zaa v).length = 6 := by rw [zae, hv6]
 have hcv := zav hv6;obtain ⟨x, hx, c47⟩ := x47 hl hmax hv6
 have c47 := fun m => c47 m l (hl.byC _)
 by_cases ht : VT rows /\ okB 48 v
 ·have e1 : imgR rows v = zfY rows v := if_pos ht;have e2 : zn9 rows v = 0 := if_pos ht;rw [e1] at hx;rw [e2] at c47 ⊢;have hxl := IntS.len hx;rw [zfA] at hxl;refine zx0 rfl (zaz Tryd.func7 cir7) (by show 2 <= 28; decide) ?_;unfold ir7;simp only [zaw, List.replicate, zNA, zAN]
  repeat' (first |refine zE (by intro; simp (disch := omega) only [go_sem, Zz.look, hcv]; rfl) ?_ |refine WO.opE (by intro; exact zaf (by simp only [go_sem]; first | rfl | assumption)) (by simp only [pt8, pt4]; rfl) ?_ |refine zS rfl rfl (c47 _) ?_ |refine zy1 ?_ |refine zy2 ?_ |refine zy3 ?_ |(simp only [fl1]) |refine zy9 rfl ?_ |refine zy6 ?_ |refine zy5 ?_)
  refine zx9 (fun m s => ∃ T i, s = ⟨T, [some ⟨0, [l]⟩, some ⟨0, zaa v⟩], []⟩ /\ T.length = 28 /\ gt T 19 = x /\ gt T 20 = .int .i64 (rows.length : Nat) /\ gt T 21 = .int .i64 (i : Nat) /\ m + i = rows.length /\ ∀ t, t < i -> (zfY rows v).getD t 0 = 0) ?_ rows.length _ ⟨_, 0, rfl, rfl, rfl, rfl, rfl, by omega, fun t ht => by omega⟩;rintro m _ ⟨T, i, rfl, hT, g19, g20, g21, hm, hz⟩;obtain ⟨f, rfl⟩ := exG hT;clear hT;change f 19 = _ at g19;change f 20 = _ at g20;change f 21 = _ at g21;simp only [tb, Nat.reduceAdd, g19, g20, g21]
  by_cases hi : i < rows.length
  ·have hat := hx.atI (i := (i : Int)) (by omega) (by rw [zfA]; omega);rw [zdV] at hat
   by_cases h0 : (zfY rows v).getD i 0 = 0
   ·rw [h0] at hat
    repeat' (first |refine zE (by intro; simp (disch := omega) only [go_sem, hat]; rfl) ?_ |refine zy1 ?_ |refine zy2 ?_ |refine zy3 ?_ |(simp only [fl1, zbr]) |refine zy9 rfl ?_ |refine zy6 ?_ |refine zy5 ?_ |refine zy4 rfl (fun hp => ?_) (fun hp => ?_) <;> try (exfalso; first | omega | contradiction))
    exact ⟨m - 1, by omega, _, i + 1, rfl, rfl, rfl, rfl, rfl, by omega, fun t ht => by
     by_cases e : t = i
     ·subst e; exact h0
     ·exact hz t (by omega)⟩
   ·have hd : zes rows v = false := decide_eq_false fun h => h0 (h.2 i hi)
    generalize (zfY rows v).getD i 0 = y at *
    repeat' (first |refine zE (by intro; simp (disch := omega) only [go_sem, hat]; rfl) ?_ |refine zy1 ?_ |refine zy2 ?_ |refine zy3 ?_ |(simp only [fl1, fl2, fl5, fl8]) |refine zy6 ?_ |refine zy7 ?_ |refine zy5 ?_ |refine zy4 rfl (fun hp => ?_) (fun hp => ?_) <;> try (exfalso; first | omega | contradiction))
    exact ⟨_, rfl, by rw [hd]; rfl⟩
  ·have hie : i = rows.length := by omega
   subst hie;have hd : zes rows v = true := decide_eq_true ⟨ht, hz⟩
   repeat' (first |refine zE (by intro; simp (disch := omega) only [go_sem]; rfl) ?_ |refine zy1 ?_ |refine zy2 ?_ |refine zy3 ?_ |(simp only [fl1]) |refine zy8 ?_ |refine zy7 ?_ |refine zy4 rfl (fun hp => ?_) (fun hp => ?_) <;> try (exfalso; first | omega | contradiction))
   exact ⟨_, rfl, by rw [hd]; rfl⟩
 ·have e2 : zn9 rows v = 1 := if_neg ht;rw [e2] at c47 ⊢
  have hd : zes rows v = false := decide_eq_false fun h => ht h.1
  refine zx0 rfl (zaz Tryd.func7 cir7) (by show 2 <= 28; decide) ?_;unfold ir7;simp only [zaw, List.replicate, zNA, zAN]
  repeat' (first |refine zE (by intro; simp (disch := omega) only [go_sem, Zz.look, hcv]; rfl) ?_ |refine zS rfl rfl (c47 _) ?_ |refine zy1 ?_ |refine zy2 ?_ |refine zy3 ?_ |(simp only [fl1, fl2]) |refine zy0 rfl ?_ |refine zy7 ?_)
  exact ⟨_, rfl, by rw [hd]; rfl⟩
theorem x50 {l l' : AV} {rows : List (List Int)} {v : List Int} (hl : RwL l rows) (hmax : rows.length < 9223372036854775807) (hv6 : v.length = 6) {m : Mem} (h0 : Zz.byC m.heap l' = some l) : zaA T12 7 [.agg [l'], .agg (zaa v)] m = some (.tuple [.bool (zes rows v), .int .i64 (zn9 rows v)], m) :=
 zaS (zal (zj0 h0) (zal (byI _ _) rfl)) ((f50 hl hmax hv6).mono fun y m' h => by rw [h]; rfl)
noncomputable def T13 : Env := T12.put 7 (zaA T12 7)
theorem ztx : EnvOk Tryd.prog T13 := Env.put_ok zqq (za6 zqq (zaq Tryd.func7 (by kernel_rfl)))
set_option maxRecDepth 100000
set_option maxHeartbeats 8000000
def kerT (rows : List (List Int)) : List (List Int) := if VT rows then zf1 rows else []
def errT (rows : List (List Int)) : Int := if VT rows then 0 else 1
noncomputable def T14 : Env := T13
theorem zp3 : EnvOk Tryd.prog T14 := ztx
def zee (rows gens : List (List Int)) (v : List Int) (i k : Nat) : Int := zag (fun t => (zfY rows v).getD t 0 * ent gens t k) i
def zcB (rows gens : List (List Int)) (v : List Int) : List Int := (List.range 6).map fun k => zee rows gens v rows.length k
theorem zrR {rows gens : List (List Int)} {v : List Int} {k : Nat} (hk : k < 6) : (zcB rows gens v).getD k 0 = zee rows gens v rows.length k := by
 unfold zcB;simp [List.getD_eq_getElem?_getD, hk]
theorem zpL {rows : List (List Int)} {v : List Int} (hr : ∀ i, i < rows.length -> okB 400 (rw_ rows i)) (hv : okB 48 v) {t : Nat} (ht : t < rows.length) : -115200 <= (zfY rows v).getD t 0 /\ (zfY rows v).getD t 0 <= 115200 := by
 rw [zkW ht];have := zkV (hr t ht) hv 6 (Nat.le_refl _);unfold zsr;omega
theorem zjN {rows gens : List (List Int)} {v : List Int} (hr : ∀ i, i < rows.length -> okB 400 (rw_ rows i)) (hv : okB 48 v) (hg : ∀ i, i < gens.length -> okB 576 (rw_ gens i)) (hl : gens.length = rows.length) {k : Nat} (hk : k < 6) : ∀ i, i <= rows.length -> -(i * 66355200) <= zee rows gens v i k /\ zee rows gens v i k <= i * 66355200
 | 0, _ => by simp [zee, zag]
 | i + 1, hi => by
  have ih := zjN hr hv hg hl hk i (by omega);have hm := zkQ (zpL hr hv (show i < rows.length by omega)) (hg i (by omega) k hk);have e : zee rows gens v (i + 1) k = zee rows gens v i k + (zfY rows v).getD i 0 * (rw_ gens i).getD k 0 := rfl;rw [e];omega
theorem f114 {E : Env} (hE : E.spec 32 = none) (hF : E.fn 32 = some ir32) (h110 : E.spec 33 = some (zb5 T10 33)) {l gx : AV} {rows gens : List (List Int)} {v : List Int} (hl : RwL l rows) (h3 : rows.length <= 3) (hr : ∀ i, i < rows.length -> okB 400 (rw_ rows i)) (hv6 : v.length = 6) (hv : okB 48 v)
  (hgx : RwL gx gens) (hgl : gens.length = rows.length) (hg : ∀ i, i < gens.length -> okB 576 (rw_ gens i)) {H : Hp} {L : List (Option ALoop)} :
  WF E (.func 32 [] []) [.func 33 [.agg [l]] [], gx, .agg (zaa v)] ⟨H, L⟩ fun y m' => y = .agg (zaa (zcB rows gens v)) /\ ∃ R, m' = ⟨H ++ R, L⟩ := by
 have hmv : (zaa v).length = 6 := by rw [zae, hv6]
 have hcv := zav hv6
 have hil : (zaa (zfY rows v)).length = rows.length := by rw [zae, zfA]
 refine zx0 hE hF (by show 3 <= 40; decide) ?_;unfold ir32;simp only [zaw, List.replicate, zNA, zAN]
 repeat' (first |refine zE (by intro; simp (disch := omega) only [go_sem, List.append_assoc, List.length_append, Nat.reduceAdd, hcv, lk0, zCA, zNA]; rfl) ?_ |refine zy1 ?_ |refine zy2 ?_ |refine zy3 ?_ |(simp only [fl1]))
 have c110 : zb5 T10 33 [.agg [l], .agg (zaa v)] ⟨H ++ [some ⟨0, zaa v⟩, some ⟨0, zaa zer6⟩, some ⟨0, zaa zer6⟩], L⟩ = some (.sref (H.length + 3) 0 0 1 rows.length (some rows.length), ⟨H ++ [some ⟨0, zaa v⟩, some ⟨0, zaa zer6⟩, some ⟨0, zaa zer6⟩, some ⟨0, zaa (zfY rows v)⟩], L⟩) := by
  have := r110 (m := ⟨H ++ [some ⟨0, zaa v⟩, some ⟨0, zaa zer6⟩, some ⟨0, zaa zer6⟩], L⟩) hl h3 hr hv6 hv (hl.byC _);simpa using this
 refine WO.callE rfl rfl (WF.spec h110 c110 ⟨rfl, rfl⟩) (by simp only [pt8, pt6]; rfl) ?_
 repeat' (first |refine zE (by intro; simp (disch := omega) only [go_sem]; rfl) ?_ |refine zy3 ?_ |refine zy5 ?_)
 refine zx9 (fun m s => ∃ T w i, s = ⟨T, H ++ [some ⟨0, zaa v⟩, some ⟨0, zaa zer6⟩, some ⟨0, zaa w⟩, some ⟨0, zaa (zfY rows v)⟩], L⟩ /\ T.length = 40 /\ gt T 1 = gx /\ gt T 6 = .pref (H.length + 1) 0 0 /\ gt T 7 = .pref (H.length + 2) 0 0 /\ gt T 14 = .sref (H.length + 3) 0 0 1 rows.length (some rows.length) /\ gt T 15 = .int .i64 (rows.length : Nat) /\ gt T 16 = .int .i64 (i : Nat) /\ m + i = rows.length /\ w.length = 6 /\ ∀ k, k < 6 -> w.getD k 0 = zee rows gens v i k) ?_ rows.length _ ⟨_, zer6, 0, rfl, rfl, rfl, rfl, rfl, rfl, rfl, rfl, by omega, rfl, fun k hk => by
  show _ = 0
  have : k = 0 \/ k = 1 \/ k = 2 \/ k = 3 \/ k = 4 \/ k = 5 := by omega
  rcases this with rfl | rfl | rfl | rfl | rfl | rfl <;> rfl⟩
 rintro m _ ⟨T, w, i, rfl, hT, g1, g6, g7, g14, g15, g16, hm, hwl, hw⟩;obtain ⟨f, rfl⟩ := exG hT;clear hT;change f 1 = _ at g1;change f 6 = _ at g6;change f 7 = _ at g7;change f 14 = _ at g14;change f 15 = _ at g15;change f 16 = _ at g16;simp only [tb, Nat.reduceAdd, g1, g6, g7, g14, g15, g16]
 by_cases hi : i < rows.length
 ·have h6 := hgx.six (i := i) (by omega);have hat := hgx.at (i := i) (by omega);have hcut := zcu (t := zet gens i) h6;have hcr : (rw_ gens i).map (AV.int .i64) = zaa (rw_ gens i) := rfl;rw [hcr] at hat hcut
  have hml : (zaa (rw_ gens i)).length = 6 := by rw [zae, h6]
  have hix : zaj 1 (.sref (H.length + 3) 0 0 1 rows.length (some rows.length)) (.int .i64 (i : Int)) = some (.pref (H.length + 3) 0 i) := by rw [zbl, zbb hi]; simp
  have hia := zaK (r := zfY rows v) (j := i) (by rw [zfA]; exact hi);have hib := zpL hr hv hi;have hgi := hg i (by omega)
  repeat' (first |refine zE (by intro; simp (disch := omega) only [go_sem, hat, hcut, hix, hia, lk3]; rfl) ?_ |refine zy1 ?_ |refine zy2 ?_ |refine zy3 ?_ |(simp only [fl1]) |refine zy6 ?_ |refine zy5 ?_ |refine zy4 rfl (fun hp => ?_) (fun hp => ?_) <;> try (exfalso; first | omega | contradiction))
  refine zx9 (fun m2 s => ∃ T w j, s = ⟨T, H ++ [some ⟨0, zaa v⟩, some ⟨0, zaa zer6⟩, some ⟨0, zaa w⟩, some ⟨0, zaa (zfY rows v)⟩], L⟩ /\ T.length = 40 /\ gt T 1 = gx /\ gt T 6 = .pref (H.length + 1) 0 0 /\ gt T 7 = .pref (H.length + 2) 0 0 /\ gt T 14 = .sref (H.length + 3) 0 0 1 rows.length (some rows.length) /\ gt T 15 = .int .i64 (rows.length : Nat) /\ gt T 16 = .int .i64 (i : Nat) /\ gt T 9 = .int .i64 ((zfY rows v).getD i 0) /\ gt T 24 = .agg (zaa (rw_ gens i)) /\ gt T 25 = .int .i64 (j : Nat) /\ m2 + j = 6 /\ w.length = 6 /\ (∀ k, k < j -> w.getD k 0 = zee rows gens v (i + 1) k) /\ ∀ k, j <= k -> k < 6 -> w.getD k 0 = zee rows gens v i k) ?_ 6 _ ⟨_, w, 0, rfl, rfl, rfl, rfl, rfl, rfl, rfl, rfl, rfl, rfl, rfl, by omega, hwl, fun k hk => by omega, fun k _ hk => hw k hk⟩;clear g1 g6 g7 g14 g15 g16 f hwl hw w;rintro m2 _ ⟨T, w, j, rfl, hT, g1, g6, g7, g14, g15, g16, g9, g24, g25, hm2, hwl, hw1, hw2⟩;obtain ⟨f, rfl⟩ := exG hT;clear hT;change f 1 = _ at g1;change f 6 = _ at g6;change f 7 = _ at g7;change f 14 = _ at g14;change f 15 = _ at g15;change f 16 = _ at g16;change f 9 = _ at g9;change f 24 = _ at g24;change f 25 = _ at g25;simp only [tb, Nat.reduceAdd, g1, g6, g7, g14, g15, g16, g9, g24, g25]
  by_cases hj : j < 6
  ·have hja := zaK (r := rw_ gens i) (j := j) (by omega);have hwa := zaK (r := w) (j := j) (by omega);rw [hw2 j (Nat.le_refl _) hj] at hwa;have hd : zee rows gens v (i + 1) j = zee rows gens v i j + (zfY rows v).getD i 0 * (rw_ gens i).getD j 0 := rfl;have hov2 := zbp (r := w) (j := j) (by omega) (zee rows gens v (i + 1) j);have b1 := zjN hr hv hg hgl hj i (by omega);have b2 := zjN hr hv hg hgl hj (i + 1) (by omega);have b3 := zkQ hib (hgi j hj)
   repeat' (first |refine zE (by intro; simp (disch := omega) only [go_sem, hja, hwa, <- hd, lk2, Nat.mul_one, Nat.zero_add]; rfl) ?_ |refine zx2 (by intro; simp (disch := omega) only [go_sem, Option.bind_eq_bind, zqr, hov2, lk2, zat, Nat.zero_add]; rfl) ?_ |refine zy1 ?_ |refine zy2 ?_ |refine zy3 ?_ |(simp only [zbr]) |refine zy6 ?_ |refine zy5 ?_ |refine zy4 rfl (fun hp => ?_) (fun hp => ?_) <;> try (exfalso; first | omega | contradiction))
   exact ⟨m2 - 1, by omega, _, w.set j (zee rows gens v (i + 1) j), j + 1, rfl, rfl, rfl, rfl, rfl, rfl, rfl, rfl, rfl, rfl, rfl, by omega, by simpa using hwl, fun k hk => by
    by_cases e : k = j
    ·subst e; rw [zaD (by omega)]
    ·rw [zay (by omega)]; exact hw1 k (by omega), fun k h1 h2 => by rw [zay (by omega)]; exact hw2 k (by omega) h2⟩
  ·have hje : j = 6 := by omega
   subst hje
   repeat' (first |refine zE (by intro; simp (disch := omega) only [go_sem]; rfl) ?_ |refine zy1 ?_ |refine zy2 ?_ |refine zy3 ?_ |(simp only [zbr]) |refine zy9 rfl ?_ |refine zy8 ?_)
   exact ⟨m - 1, by omega, _, w, i + 1, rfl, rfl, rfl, rfl, rfl, rfl, rfl, rfl, by omega, hwl, fun k hk => hw1 k hk⟩
 ·have hie : i = rows.length := by omega
  subst hie
  have hwe : w = zcB rows gens v := zbf (by rw [hwl]; simp [zcB]) fun k hk => by rw [hw k (by omega), zrR (by omega)]
  subst hwe;have hcw := zav hwl
  have hml : (zaa (zcB rows gens v)).length = 6 := by rw [zae, hwl]
  have hov := fun x0 x1 x2 x3 x4 x5 => zaN hwl (x0 := x0) (x1 := x1) (x2 := x2) (x3 := x3) (x4 := x4) (x5 := x5)
  have hze : zaa zer6 = [.int .i64 0, .int .i64 0, .int .i64 0, .int .i64 0, .int .i64 0, .int .i64 0] := rfl;rw [hze]
  repeat' (first |refine zE (by intro; simp (disch := omega) only [go_sem, hcw, lk2]; rfl) ?_ |refine zx2 (by intro; simp (disch := omega) only [go_sem, Option.bind_eq_bind, zlp, hml, hov, lk1, zat]; rfl) ?_ |refine zy1 ?_ |refine zy2 ?_ |refine zy3 ?_ |(simp only [fl1]) |refine zy8 ?_ |refine zy7 ?_ |refine zy4 rfl (fun hp => ?_) (fun hp => ?_) <;> try (exfalso; first | omega | contradiction))
  exact ⟨_, by simp only [zbZ, gt6, lk1 rfl, za4, hcw, if_true, Option.bind_some, Option.map_some]; rfl, rfl, _, rfl⟩
end Go.Proofs.YtgchabldcnmccabDoor

