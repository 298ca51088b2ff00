import Derived.Test.YtgchabldcnmccabDoorAbsI
import Derived.Test.YtgchabldcnmccabDoorEx
import Derived.Test.YtgchabldcnmccabDoorUIr

set_option linter.unusedSimpArgs false
set_option linter.unusedVariables false

namespace Go.Proofs.YtgchabldcnmccabDoor
open Go.Zz
set_option maxRecDepth 100000
set_option maxHeartbeats 4000000
noncomputable def G0 : Env := { fn := fun g => (Tryd.prog.funcs[g]?).bind (zaQ Tryd.prog), spec := fun _ => none }
theorem ziG : EnvOk Tryd.prog G0 := by
 refine ⟨fun g ifn h => ?_, fun g S h => by cases h⟩;simp only [G0, Option.bind_eq_some_iff] at h;exact h
theorem zaz {g : Nat} {f : Func} {i : IFunc} (hf : Tryd.prog.funcs[g]? = some f) (hc : zaQ Tryd.prog f = some i) : G0.fn g = some i := by
 simp only [G0, hf, Option.bind_some, hc]
theorem zaq {g : Nat} {f : Func} (hf : Tryd.prog.funcs[g]? = some f) (h : (f.name != "runtime.NumGoroutine" && f.body.isSome) = true) : zbN Tryd.prog g := by
 simp only [Bool.and_eq_true, bne_iff_ne, ne_eq] at h;exact ⟨f, hf, h.1, h.2⟩
def zaa (r : List Int) : List AV := r.map (.int .i64)
def RwL (x : AV) (rows : List (List Int)) : Prop := SL 6 x (rows.map zaa)
theorem RwL.len {x : AV} {rows : List (List Int)} (h : RwL x rows) : zcH x = some rows.length := by
 have := SL.len h
 rwa [List.length_map] at this
def rw_ (rows : List (List Int)) (i : Nat) : List Int := rows.getD i []
theorem zo5 {rows : List (List Int)} {i : Nat} (h : i < rows.length) : rw_ rows i = rows[i] := by simp [rw_, h]
theorem RwL.six {x : AV} {rows : List (List Int)} (h : RwL x rows) {i : Nat} (hi : i < rows.length) : (rw_ rows i).length = 6 := by
 have := h.1 (zaa (rw_ rows i)) (by rw [zo5 hi]; exact List.mem_map_of_mem (List.getElem_mem hi));simpa [zaa] using this
def zet (rows : List (List Int)) (i : Nat) : List AV := ((rows.map zaa).drop (i + 1)).flatten
theorem RwL.at {x : AV} {rows : List (List Int)} (h : RwL x rows) {i : Nat} (hi : i < rows.length) : zaj 6 x (.int .i64 (i : Int)) = some (.pval ((rw_ rows i).map (AV.int .i64) ++ zet rows i)) := by
 have := SL.at h (i := i) (by simpa using hi);rw [this, zo5 hi];simp [zaa, zet]
theorem RwL.byVal {x : AV} {rows : List (List Int)} (h : RwL x rows) (H : Hp) : Zz.byVal H x = some x := SL.byVal h (fun c hc => by
 obtain ⟨r, _, rfl⟩ := List.mem_map.1 hc
 simp [zaa, za9]) H
theorem RwL.pureC {x : AV} {rows : List (List Int)} (h : RwL x rows) : Zz.pureC x = true := by
 have := h.byVal [];obtain ⟨_, ⟨rfl, _⟩ | ⟨f, rfl⟩⟩ := h
 ·rfl
 ·simp only [Zz.byVal, Zz.byC] at this
  split at this
  ·assumption
  ·cases this
theorem RwL.pureA {x : AV} {rows : List (List Int)} (h : RwL x rows) : Zz.pureA x = true := by
 have := h.pureC
 obtain ⟨_, ⟨rfl, _⟩ | ⟨f, rfl⟩⟩ := h <;> exact this
theorem zcu {r : List Int} {t : List AV} (h : r.length = 6) : Zz.cut (r.map (AV.int .i64) ++ t) 0 6 = some (r.map (.int .i64)) := by
 unfold Zz.cut;rw [if_pos (by simp; omega), List.drop_zero, List.take_left' (by simpa using h)]
theorem zlt {r : List Int} (h : r.length = 6) : Zz.cut (r.map (AV.int .i64)) 0 6 = some (r.map (.int .i64)) := by
 have := zcu (t := []) h
 rwa [List.append_nil] at this
theorem zlj {r : List Int} (h : r.length = 6) {x0 x1 x2 x3 x4 x5 : AV} : Zz.over [x0, x1, x2, x3, x4, x5] 0 (r.map (AV.int .i64)) = some (r.map (.int .i64)) := by
 unfold Zz.over;rw [if_pos (by simp; omega)];simp [h]
theorem zny {r : List Int} {t : List AV} {j : Nat} (hj : j < r.length) : ((r.map (AV.int .i64) ++ t).drop j)[0]? = some (.int .i64 (r.getD j 0)) := by
 rw [List.getElem?_drop, Nat.add_zero, List.getElem?_append_left (by simpa using hj), List.getElem?_map, List.getElem?_eq_getElem hj, List.getD_eq_getElem?_getD, List.getElem?_eq_getElem hj];rfl
def zbm (x : Int) : Int := if x < 0 then -x else x
def zga (r : List Int) (j : Nat) : Int := ((r.take j).map zbm).sum
theorem zdS {r : List Int} {j : Nat} (h : j < r.length) : zga r (j + 1) = zga r j + zbm (r.getD j 0) := by
 unfold zga;rw [List.take_add_one, List.getD_eq_getElem?_getD, List.getElem?_eq_getElem h]
 show ((r.take j ++ [r[j]]).map zbm).sum = _
 rw [List.map_append, List.sum_append];simp
def zdE (r : List Int) : Int := zga r 6
def zej (rows : List (List Int)) : Nat -> Int
 | 0 => 1
 | i + 1 => zej rows i * max (zdE (rw_ rows i)) 1
def okE (r : List Int) : Prop := ∀ j, j < 6 -> -1000000000 <= r.getD j 0 /\ r.getD j 0 <= 1000000000
def VM (rows : List (List Int)) : Prop := rows.length <= 8 /\ (∀ i, i < rows.length -> okE (rw_ rows i)) /\ zej rows rows.length <= 1000000000
instance (r : List Int) : Decidable (okE r) := by unfold okE; infer_instance
instance (rows : List (List Int)) : Decidable (VM rows) := by unfold VM; infer_instance
theorem zhh (x : Int) : 0 <= zbm x := by unfold zbm; split <;> omega
theorem ziw {r : List Int} : ∀ j, 0 <= zga r j
 | 0 => by simp [zga]
 | j + 1 => by
  have ih := ziw (r := r) j
  by_cases h : j < r.length
  ·have := zhh (r.getD j 0);rw [zdS h];omega
  ·have e : zga r (j + 1) = zga r j := by
    unfold zga;rw [List.take_of_length_le (by omega), List.take_of_length_le (by omega)]
   rw [e];exact ih
theorem zdl {rows : List (List Int)} : ∀ i, 1 <= zej rows i
 | 0 => by simp [zej]
 | i + 1 => by
  have ih := zdl (rows := rows) i
  have h : 1 <= max (zdE (rw_ rows i)) 1 := by omega
  have := Int.mul_le_mul ih h (by omega) (by omega);unfold zej;omega
theorem zms {rows : List (List Int)} (i : Nat) : zej rows i <= zej rows (i + 1) := by
 have h0 := zdl (rows := rows) i
 have h : 1 <= max (zdE (rw_ rows i)) 1 := by omega
 have := Int.mul_le_mul_of_nonneg_left h (show 0 <= zej rows i by omega);rw [Int.mul_one] at this;exact this
theorem ziI {rows : List (List Int)} {i k : Nat} (h : i <= k) : zej rows i <= zej rows k := by
 induction h with
 | refl => exact Int.le_refl _
 | step _ ih => exact Int.le_trans ih (zms _)
theorem zks {a b A B : Int} (h1 : 0 <= a) (h2 : a <= A) (h3 : -B <= b) (h4 : b <= B) : -(A * B) <= a * b /\ a * b <= A * B := by
 have hB : 0 <= B := by omega
 have e1 := Int.mul_le_mul_of_nonneg_left h4 h1;have e2 := Int.mul_le_mul_of_nonneg_right h2 hB;have e3 := Int.mul_le_mul_of_nonneg_left h3 h1;have e4 : a * -B = -(a * B) := Int.mul_neg a B;omega
theorem f81 {x : Int} (h : -9223372036854775807 <= x /\ x <= 9223372036854775807) : WF G0 (.func 36 [] []) [.int .i64 x] ⟨[], []⟩ fun y m' => y = .int .i64 (zbm x) := by
 refine zx0 rfl (zaz Tryd.func36 cir36) (by show 1 <= 8; decide) ?_;unfold ir36;simp only [zaw, List.replicate, zNA, zAN]
 repeat' (first |refine zE (by intro; simp (disch := omega) only [go_sem, Int.zero_sub]; rfl) ?_ |refine zy1 ?_ |refine zy2 ?_ |refine zy3 ?_ |(simp only [fl1, fl2]) |refine zy6 ?_ |refine zy7 ?_ |refine zy4 rfl (fun hp => ?_) (fun hp => ?_) <;> try (exfalso; first | omega | contradiction))
 all_goals
  refine ⟨_, rfl, ?_⟩;simp only [zbo, gt2];unfold zbm
  first | rw [if_pos (by assumption)] | rw [if_neg (by assumption)]
theorem s81 {x : Int} (h : -9223372036854775807 <= x /\ x <= 9223372036854775807) {m : Mem} : zar G0 36 [.int .i64 x] m = some (.int .i64 (zbm x), m) := zaB rfl ((f81 h).mono fun y m' h => by rw [h]; rfl)
noncomputable def E1 : Env := G0.put 36 (zar G0 36)
theorem zqG : EnvOk Tryd.prog E1 := Env.put_ok ziG (zax ziG (zaq Tryd.func36 (by kernel_rfl)))
theorem zlv {r : List Int} (h : okE r) : ∀ j, j <= 6 -> zga r j <= j * 1000000000
 | 0, _ => by simp [zga]
 | j + 1, hj => by
  have ih := zlv h j (by omega)
  by_cases hl : j < r.length
  ·have := h j (by omega);rw [zdS hl];unfold zbm
   split <;> omega
  ·have e : zga r (j + 1) = zga r j := by
    unfold zga;rw [List.take_of_length_le (by omega), List.take_of_length_le (by omega)]
   rw [e];omega
theorem f25 {l : AV} {rows : List (List Int)} (hl : RwL l rows) (hmax : rows.length < 9223372036854775807) : WF E1 (.func 18 [] []) [l] ⟨[], []⟩ fun y m' => y = .bool (decide (VM rows)) := by
 have hlen := hl.len;refine zx0 rfl (zaz Tryd.func18 cir18) (by show 1 <= 40; decide) ?_;unfold ir18;simp only [zaw, List.replicate, zNA, zAN]
 repeat' (first |refine zE (by intro; simp (disch := omega) only [go_sem]; rfl) ?_ |refine WO.opE (by intro; exact zaf (by simp only [go_sem]; first | rfl | assumption)) (by simp only [pt8, pt2]; rfl) ?_ |refine zy1 ?_ |refine zy2 ?_ |refine zy3 ?_ |(simp only [fl1]) |refine zy5 ?_)
 refine zx9 (fun m s => ∃ T R i, s = ⟨T, R, []⟩ /\ T.length = 40 /\ gt T 0 = l /\ gt T 3 = .int .i64 (zej rows i) /\ gt T 9 = l /\ gt T 10 = .int .i64 (rows.length : Nat) /\ gt T 11 = .int .i64 (i : Nat) /\ m + i = rows.length /\ (∀ j, j < i -> okE (rw_ rows j)) /\ zej rows i <= 1000000000) ?_ rows.length _ ⟨_, [], 0, rfl, rfl, rfl, rfl, rfl, rfl, rfl, by omega, fun j hj => by omega, by simp [zej]⟩;rintro m _ ⟨T, R, i, rfl, hT, g0, g3, g9, g10, g11, hm, hi, hvol⟩;obtain ⟨f, rfl⟩ := exG hT;clear hT;change f 0 = _ at g0;change f 3 = _ at g3;change f 9 = _ at g9;change f 10 = _ at g10;change f 11 = _ at g11;simp only [tb, Nat.reduceAdd, g0, g3, g9, g10, g11];have hvp := zdl (rows := rows) i
 by_cases hin : i < rows.length
 ·have h6 := hl.six hin;have hat := hl.at hin
  have hml : ((rw_ rows i).map (AV.int .i64)).length = 6 := by rw [List.length_map, h6]
  have hcut := zcu (t := zet rows i) h6;have hcut0 := zlt h6
  have hov := fun x0 x1 x2 x3 x4 x5 => zlj h6 (x0 := x0) (x1 := x1) (x2 := x2) (x3 := x3) (x4 := x4) (x5 := x5)
  have hno : ¬ okE (rw_ rows i) -> ¬ VM rows := fun h h' => h (h'.2.1 i hin)
  have hnv : 1000000000 < zej rows (i + 1) -> ¬ VM rows := fun h h' => by
   have := ziI (rows := rows) (i := i + 1) (k := rows.length) (by omega);have := h'.2.2;omega
  have hvs : zej rows (i + 1) = zej rows i * max (zdE (rw_ rows i)) 1 := rfl;have hrs : zdE (rw_ rows i) = zga (rw_ rows i) 6 := rfl;have hok : okE (rw_ rows i) ↔ ∀ j, j < 6 -> -1000000000 <= (rw_ rows i).getD j 0 /\ (rw_ rows i).getD j 0 <= 1000000000 := Iff.rfl
  repeat' (first |refine zE (by intro; simp (disch := omega) only [go_sem, hat, hcut, hcut0, lk0]; rfl) ?_ |refine zx2 (by intro; simp (disch := omega) only [go_sem, hov, hml, lk0, st0]; rfl) ?_ |refine zy1 ?_ |refine zy2 ?_ |refine zy3 ?_ |(simp only [fl1]) |refine zy6 ?_ |refine zy5 ?_ |refine zy4 rfl (fun hp => ?_) (fun hp => ?_) <;> try (exfalso; first | omega | contradiction))
  refine zx9 (fun m1 s => ∃ T R j, s = ⟨T, R, []⟩ /\ T.length = 40 /\ gt T 0 = l /\ gt T 3 = .int .i64 (zej rows i) /\ gt T 9 = l /\ gt T 10 = .int .i64 (rows.length : Nat) /\ gt T 11 = .int .i64 (i : Nat) /\ gt T 6 = .int .i64 (zga (rw_ rows i) j) /\ gt T 15 = .agg ((rw_ rows i).map (.int .i64)) /\ gt T 16 = .int .i64 (j : Nat) /\ m1 + j = 6 /\ (∀ k, k < j -> -1000000000 <= (rw_ rows i).getD k 0 /\ (rw_ rows i).getD k 0 <= 1000000000) /\ zga (rw_ rows i) j <= j * 1000000000) ?_ 6 _ ⟨_, _, 0, rfl, rfl, rfl, rfl, rfl, rfl, rfl, rfl, rfl, rfl, by omega, fun j hj => by omega, by simp [zga]⟩;clear R f g0 g3 g9 g10 g11;rintro m1 _ ⟨T, R, j, rfl, hT, g0, g3, g9, g10, g11, g6, g15, g16, hm1, hj, hps⟩;obtain ⟨f, rfl⟩ := exG hT;clear hT;change f 0 = _ at g0;change f 3 = _ at g3;change f 9 = _ at g9;change f 10 = _ at g10;change f 11 = _ at g11;change f 6 = _ at g6;change f 15 = _ at g15;change f 16 = _ at g16;simp only [tb, Nat.reduceAdd, g0, g3, g9, g10, g11, g6, g15, g16];have hpn := ziw (r := rw_ rows i) j
  by_cases hj6 : j < 6
  ·have hpsu := zdS (r := rw_ rows i) (j := j) (by omega);have hia := zr9 (c := rw_ rows i) (i := j) (by omega);generalize hx : (rw_ rows i).getD j 0 = x at *
   by_cases hxb : -1000000000 <= x /\ x <= 1000000000
   ·have hxb1 := hxb
    have ha : 0 <= zbm x /\ zbm x <= 1000000000 := by unfold zbm; split <;> omega
    repeat' (first |refine zx1 rfl ?_ |refine zE (by intro; simp (disch := omega) only [go_sem, Int.reduceNeg, Int.reduceAdd, hia, Nat.mul_one]; rfl) ?_ |refine zS rfl rfl (s81 (by omega)) ?_ |refine zy1 ?_ |refine zy2 ?_ |refine zy3 ?_ |(simp only [fl1, zbr]) |refine zy6 ?_ |refine zy5 ?_ |refine zx7 rfl (by intro hp; simp only [hp, decide_true]; rfl) (by intro hp; simp only [hp, decide_false]; rfl) (fun hp => ?_) (fun hp => ?_) <;> try (exfalso; first | omega | contradiction) |refine zy4 rfl (fun hp => ?_) (fun hp => ?_) <;> try (exfalso; first | omega | contradiction))
    exact ⟨m1 - 1, by omega, _, R, j + 1, rfl, rfl, rfl, rfl, rfl, rfl, rfl, congrArg (AV.int .i64) hpsu.symm, rfl, rfl, by omega, fun k hk => by
     by_cases e : k = j
     ·subst e; rw [hx]; exact hxb
     ·exact hj k (by omega), by omega⟩
   ·have hxb1 := hxb
    repeat' (first |refine zx1 rfl ?_ |refine zN rfl ?_ |refine zE (by intro; simp (disch := omega) only [go_sem, Int.reduceNeg, Int.reduceAdd, hia, Nat.mul_one]; rfl) ?_ |refine zy1 ?_ |refine zy2 ?_ |refine zy3 ?_ |(simp only [fl1, fl2, fl5, fl8]) |refine zy0 rfl ?_ |refine zy6 ?_ |refine zy7 ?_ |refine zy5 ?_ |refine zx7 rfl (by intro hp; simp only [hp, decide_true]; rfl) (by intro hp; simp only [hp, decide_false]; rfl) (fun hp => ?_) (fun hp => ?_) <;> try (exfalso; first | omega | contradiction) |refine zy4 rfl (fun hp => ?_) (fun hp => ?_) <;> try (exfalso; first | omega | contradiction))
    all_goals
     refine ⟨_, rfl, ?_⟩;simp only [zbo, gt2, AV.bool.injEq];symm;rw [decide_eq_false_iff_not]
     exact hno fun h => hxb (by have := hok.1 h j hj6; rw [hx] at this; exact this)
  ·have hj6' : j = 6 := by omega
   subst hj6';have hoke := hok.2 hj;rw [<- hrs] at hps hpn ⊢;have mb := zks (a := zej rows i) (A := 1000000000) (b := max (zdE (rw_ rows i)) 1) (B := 6000000000) (by omega) hvol (by omega) (by omega);have hvp1 := zdl (rows := rows) (i + 1);rw [<- hvs] at mb
   by_cases hbig : zej rows (i + 1) <= 1000000000
   ·have hbig1 := hbig
    repeat' (first |refine zE (by intro; simp (disch := omega) only [go_sem, <- hvs]; rfl) ?_ |refine zy1 ?_ |refine zy2 ?_ |refine zy3 ?_ |(simp only [fl1, zbr]) |refine zy9 rfl ?_ |refine zy6 ?_ |refine zy8 ?_ |refine zy4 rfl (fun hp => ?_) (fun hp => ?_) <;> try (exfalso; first | omega | contradiction))
    exact ⟨m - 1, by omega, _, R, i + 1, rfl, rfl, rfl, rfl, rfl, rfl, rfl, by omega, fun j hj => by
     by_cases e : j = i
     ·subst e; exact hoke
     ·exact hi j (by omega), hbig⟩
   ·have hbig1 := hbig
    repeat' (first |refine zE (by intro; simp (disch := omega) only [go_sem, <- hvs]; rfl) ?_ |refine zy1 ?_ |refine zy2 ?_ |refine zy3 ?_ |(simp only [fl1, fl2, fl5, fl8]) |refine zy9 rfl ?_ |refine zy8 ?_ |refine zy7 ?_ |refine zy4 rfl (fun hp => ?_) (fun hp => ?_) <;> try (exfalso; first | omega | contradiction))
    refine ⟨_, rfl, ?_⟩;simp only [zbo, gt2, AV.bool.injEq];symm;rw [decide_eq_false_iff_not];exact hnv (by omega)
 ·have hi' : i = rows.length := by omega
  subst hi'
  have hvm : VM rows ↔ rows.length <= 8 := ⟨fun h => h.1, fun h => ⟨h, hi, hvol⟩⟩
  repeat' (first |refine zE (by intro; simp (disch := omega) only [go_sem]; rfl) ?_ |refine WO.opE (by intro; exact zaf (by simp only [go_sem]; first | rfl | assumption)) (by simp only [pt8, pt6]; rfl) ?_ |refine zy1 ?_ |refine zy2 ?_ |refine zy3 ?_ |(simp only [fl1]) |refine zy8 ?_ |refine zy7 ?_ |refine zy4 rfl (fun hp => ?_) (fun hp => ?_) <;> try (exfalso; first | omega | contradiction))
  refine ⟨_, rfl, ?_⟩;simp only [zbo, gt2, AV.bool.injEq];rw [decide_eq_decide, hvm];omega
theorem s25 {l : AV} {rows : List (List Int)} (hl : RwL l rows) (hmax : rows.length < 9223372036854775807) {m : Mem} : zar E1 18 [l] m = some (.bool (decide (VM rows)), m) := zaB (za1 hl.pureA rfl) ((f25 hl hmax).mono fun y m' h => by rw [h]; rfl)
noncomputable def E2 : Env := E1.put 18 (zar E1 18)
theorem ztv : EnvOk Tryd.prog E2 := Env.put_ok zqG (zax zqG (zaq Tryd.func18 (by kernel_rfl)))
theorem f26 {l : AV} {rows : List (List Int)} (hl : RwL l rows) (hmax : rows.length < 9223372036854775807) : WF E2 (.func 34 [] []) [l] ⟨[], []⟩ fun y m' => y = .bool (decide (VM rows)) := by
 have hlen := hl.len
 by_cases h8 : rows.length <= 8
 ·have h81 := h8;refine zx0 rfl (zaz Tryd.func34 zsf) (by show 1 <= 46; decide) ?_;unfold ir34;simp only [zaw, List.replicate, zNA, zAN]
  repeat' (first |refine zE (by intro; simp (disch := omega) only [go_sem]; rfl) ?_ |refine WO.opE (by intro; exact zaf (by simp only [go_sem]; first | rfl | assumption)) (by simp only [pt8, pt1]; rfl) ?_ |refine zy1 ?_ |refine zy2 ?_ |refine zy3 ?_ |(simp only [fl1]) |refine zy6 ?_ |refine zy5 ?_ |refine zy4 rfl (fun hp => ?_) (fun hp => ?_) <;> try (exfalso; first | omega | contradiction))
  refine zx9 (fun m s => ∃ T i, s = ⟨T, [], []⟩ /\ T.length = 46 /\ gt T 0 = l /\ gt T 3 = .int .i64 (zej rows i) /\ gt T 4 = .int .i64 (i : Nat) /\ m + i = rows.length /\ (∀ j, j < i -> okE (rw_ rows j)) /\ zej rows i <= 1000000000) ?_ rows.length _ ⟨_, 0, rfl, rfl, rfl, rfl, rfl, by omega, fun j hj => by omega, by simp [zej]⟩;rintro m _ ⟨T, i, rfl, hT, g0, g3, g4, hm, hi, hvol⟩;obtain ⟨f, rfl⟩ := exG hT;clear hT;change f 0 = _ at g0;change f 3 = _ at g3;change f 4 = _ at g4;simp only [tb, Nat.reduceAdd, g0, g3, g4];have hvp := zdl (rows := rows) i
  by_cases hin : i < rows.length
  ·have h6 := hl.six hin;have hat := hl.at hin
   have hno : ¬ okE (rw_ rows i) -> ¬ VM rows := fun h h' => h (h'.2.1 i hin)
   have hnv : 1000000000 < zej rows (i + 1) -> ¬ VM rows := fun h h' => by
    have := ziI (rows := rows) (i := i + 1) (k := rows.length) (by omega);have := h'.2.2;omega
   have hvs : zej rows (i + 1) = zej rows i * max (zdE (rw_ rows i)) 1 := rfl;have hrs : zdE (rw_ rows i) = zga (rw_ rows i) 6 := rfl;have hok : okE (rw_ rows i) ↔ ∀ j, j < 6 -> -1000000000 <= (rw_ rows i).getD j 0 /\ (rw_ rows i).getD j 0 <= 1000000000 := Iff.rfl
   repeat' (first |refine zE (by intro; simp (disch := omega) only [go_sem]; rfl) ?_ |refine WO.opE (by intro; exact zaf (by simp only [go_sem]; first | rfl | assumption)) (by simp only [pt8, pt5]; rfl) ?_ |refine zy1 ?_ |refine zy2 ?_ |refine zy3 ?_ |(simp only [fl1]) |refine zy6 ?_ |refine zy5 ?_ |refine zy4 rfl (fun hp => ?_) (fun hp => ?_) <;> try (exfalso; first | omega | contradiction))
   refine zx9 (fun m1 s => ∃ T j, s = ⟨T, [], []⟩ /\ T.length = 46 /\ gt T 0 = l /\ gt T 3 = .int .i64 (zej rows i) /\ gt T 4 = .int .i64 (i : Nat) /\ gt T 5 = .int .i64 (zga (rw_ rows i) j) /\ gt T 6 = .int .i64 (j : Nat) /\ m1 + j = 6 /\ (∀ k, k < j -> -1000000000 <= (rw_ rows i).getD k 0 /\ (rw_ rows i).getD k 0 <= 1000000000) /\ zga (rw_ rows i) j <= j * 1000000000) ?_ 6 _ ⟨_, 0, rfl, rfl, rfl, rfl, rfl, rfl, rfl, by omega, fun j hj => by omega, by simp [zga]⟩;clear f g0 g3 g4;rintro m1 _ ⟨T, j, rfl, hT, g0, g3, g4, g5, g6, hm1, hj, hps⟩;obtain ⟨f, rfl⟩ := exG hT;clear hT;change f 0 = _ at g0;change f 3 = _ at g3;change f 4 = _ at g4;change f 5 = _ at g5;change f 6 = _ at g6;simp only [tb, Nat.reduceAdd, g0, g3, g4, g5, g6];have hpn := ziw (r := rw_ rows i) j
   by_cases hj6 : j < 6
   ·have hpsu := zdS (r := rw_ rows i) (j := j) (by omega);have hpt := zny (r := rw_ rows i) (t := zet rows i) (j := j) (by omega);generalize hx : (rw_ rows i).getD j 0 = x at *
    by_cases hxb : -1000000000 <= x /\ x <= 1000000000
    ·have hxb1 := hxb
     have ha : 0 <= zbm x /\ zbm x <= 1000000000 := by unfold zbm; split <;> omega
     have hmx : max x (-x) = zbm x := by unfold zbm; split <;> omega
     repeat' (first |refine zx1 rfl ?_ |refine zE (by intro; simp (disch := omega) only [go_sem, Int.reduceNeg, Int.reduceAdd, hat, hpt, hmx, Int.zero_sub, Nat.mul_one]; rfl) ?_ |refine zy1 ?_ |refine zy2 ?_ |refine zy3 ?_ |(simp only [fl1, zbr]) |refine zy6 ?_ |refine zy5 ?_ |refine zx7 rfl (by intro hp; simp only [hp, decide_true]; rfl) (by intro hp; simp only [hp, decide_false]; rfl) (fun hp => ?_) (fun hp => ?_) <;> try (exfalso; first | omega | contradiction) |refine zy4 rfl (fun hp => ?_) (fun hp => ?_) <;> try (exfalso; first | omega | contradiction))
     exact ⟨m1 - 1, by omega, _, j + 1, rfl, rfl, rfl, rfl, rfl, congrArg (AV.int .i64) hpsu.symm, rfl, by omega, fun k hk => by
      by_cases e : k = j
      ·subst e; rw [hx]; exact hxb
      ·exact hj k (by omega), by omega⟩
    ·have hxb1 := hxb
     repeat' (first |refine zx1 rfl ?_ |refine zN rfl ?_ |refine zE (by intro; simp (disch := omega) only [go_sem, Int.reduceNeg, Int.reduceAdd, hat, hpt, Nat.mul_one]; rfl) ?_ |refine zy1 ?_ |refine zy2 ?_ |refine zy3 ?_ |(simp only [fl1, fl2, fl5, fl8]) |refine zy0 rfl ?_ |refine zy6 ?_ |refine zy7 ?_ |refine zy5 ?_ |refine zx7 rfl (by intro hp; simp only [hp, decide_true]; rfl) (by intro hp; simp only [hp, decide_false]; rfl) (fun hp => ?_) (fun hp => ?_) <;> try (exfalso; first | omega | contradiction) |refine zy4 rfl (fun hp => ?_) (fun hp => ?_) <;> try (exfalso; first | omega | contradiction))
     all_goals
      refine ⟨_, rfl, ?_⟩;simp only [zbo, gt2, AV.bool.injEq];symm;rw [decide_eq_false_iff_not]
      exact hno fun h => hxb (by have := hok.1 h j hj6; rw [hx] at this; exact this)
   ·have hj6' : j = 6 := by omega
    subst hj6';have hoke := hok.2 hj;rw [<- hrs] at hps hpn ⊢;have mb := zks (a := zej rows i) (A := 1000000000) (b := zdE (rw_ rows i)) (B := 6000000000) (by omega) hvol (by omega) (by omega);have hvp1 := zdl (rows := rows) (i + 1)
    by_cases hbig : zej rows (i + 1) <= 1000000000
    ·by_cases hz : 0 < zdE (rw_ rows i)
     ·rw [show max (zdE (rw_ rows i)) 1 = zdE (rw_ rows i) by omega] at hvs;rw [<- hvs] at mb;have hbig1 := hbig
      repeat' (first |refine zE (by intro; simp (disch := omega) only [go_sem, <- hvs]; rfl) ?_ |refine zy1 ?_ |refine zy2 ?_ |refine zy3 ?_ |(simp only [fl1, zbr]) |refine zy9 rfl ?_ |refine zy6 ?_ |refine zy8 ?_ |refine zy4 rfl (fun hp => ?_) (fun hp => ?_) <;> try (exfalso; first | omega | contradiction))
      exact ⟨m - 1, by omega, _, i + 1, rfl, rfl, rfl, rfl, rfl, by omega, fun j hj => by
       by_cases e : j = i
       ·subst e; exact hoke
       ·exact hi j (by omega), hbig⟩
     ·rw [show max (zdE (rw_ rows i)) 1 = 1 by omega, Int.mul_one] at hvs
      repeat' (first |refine zE (by intro; simp (disch := omega) only [go_sem]; rfl) ?_ |refine zy1 ?_ |refine zy2 ?_ |refine zy3 ?_ |(simp only [fl1, zbr]) |refine zy9 rfl ?_ |refine zy6 ?_ |refine zy8 ?_ |refine zy4 rfl (fun hp => ?_) (fun hp => ?_) <;> try (exfalso; first | omega | contradiction))
      exact ⟨m - 1, by omega, _, i + 1, rfl, rfl, rfl, congrArg (AV.int .i64) hvs.symm, rfl, by omega, fun j hj => by
       by_cases e : j = i
       ·subst e; exact hoke
       ·exact hi j (by omega), hbig⟩
    ·by_cases hz : 0 < zdE (rw_ rows i)
     ·rw [show max (zdE (rw_ rows i)) 1 = zdE (rw_ rows i) by omega] at hvs;rw [<- hvs] at mb
      repeat' (first |refine zE (by intro; simp (disch := omega) only [go_sem, <- hvs]; rfl) ?_ |refine zy1 ?_ |refine zy2 ?_ |refine zy3 ?_ |(simp only [fl1, fl2, fl5, fl8]) |refine zy9 rfl ?_ |refine zy8 ?_ |refine zy7 ?_ |refine zy4 rfl (fun hp => ?_) (fun hp => ?_) <;> try (exfalso; first | omega | contradiction))
      refine ⟨_, rfl, ?_⟩;simp only [zbo, gt2, AV.bool.injEq];symm;rw [decide_eq_false_iff_not];exact hnv (by omega)
     ·rw [show max (zdE (rw_ rows i)) 1 = 1 by omega, Int.mul_one] at hvs;omega
  ·have hi' : i = rows.length := by omega
   subst hi'
   have hvm : VM rows := ⟨h8, hi, hvol⟩
   repeat' (first |refine zE (by intro; simp (disch := omega) only [go_sem]; rfl) ?_ |refine WO.opE (by intro; exact zaf (by simp only [go_sem]; first | rfl | assumption)) (by simp only [pt8, pt5]; rfl) ?_ |refine zy1 ?_ |refine zy2 ?_ |refine zy3 ?_ |(simp only [fl1]) |refine zy8 ?_ |refine zy7 ?_ |refine zy4 rfl (fun hp => ?_) (fun hp => ?_) <;> try (exfalso; first | omega | contradiction))
   refine ⟨_, rfl, ?_⟩;simp only [zbo, gt2, AV.bool.injEq];symm;rw [decide_eq_true_iff];exact hvm
 ·have h81 := h8;refine zx0 rfl (zaz Tryd.func34 zsf) (by show 1 <= 46; decide) ?_;unfold ir34;simp only [zaw, List.replicate, zNA, zAN]
  repeat' (first |refine zE (by intro; simp (disch := omega) only [go_sem]; rfl) ?_ |refine WO.opE (by intro; exact zaf (by simp only [go_sem]; first | rfl | assumption)) (by simp only [pt8, pt1]; rfl) ?_ |refine zy1 ?_ |refine zy2 ?_ |refine zy3 ?_ |(simp only [fl1, fl2]) |refine zy7 ?_ |refine zy4 rfl (fun hp => ?_) (fun hp => ?_) <;> try (exfalso; first | omega | contradiction))
  refine ⟨_, rfl, ?_⟩;simp only [zbo, gt2, AV.bool.injEq];symm;rw [decide_eq_false_iff_not]
  exact fun h => h8 h.1
theorem s26 {l : AV} {rows : List (List Int)} (hl : RwL l rows) (hmax : rows.length < 9223372036854775807) {m : Mem} : zar E2 34 [l] m = some (.bool (decide (VM rows)), m) := zaB (za1 hl.pureA rfl) ((f26 hl hmax).mono fun y m' h => by rw [h]; rfl)
noncomputable def E3 : Env := E2.put 34 (zar E2 34)
theorem E3_ok : EnvOk Tryd.prog E3 := Env.put_ok ztv (zax ztv (zaq Tryd.func34 (by kernel_rfl)))
def sg (n : Nat) : Int := if n % 2 = 0 then 1 else -1
def zdy (f : Nat -> Int) : Nat -> Int
 | 0 => 0
 | n + 1 => zdy f n + sg n * f n
theorem zde (n : Nat) : sg (n + 1) = -sg n := by
 unfold sg
 by_cases h : n % 2 = 0
 ·rw [if_pos h, if_neg (by omega)]
 ·rw [if_neg h, if_pos (by omega)]; rfl
theorem zjT (n : Nat) : sg n = 1 \/ sg n = -1 := by unfold sg; split <;> simp
def zab (e : Nat -> Nat -> Int) : List Nat -> List Nat -> Int
 | [], _ => 1
 | i :: is, us => zdy (fun p => e i (us.getD p 0) * zab e is (us.eraseIdx p)) us.length
def ent (rows : List (List Int)) (i j : Nat) : Int := (rw_ rows i).getD j 0
def unu : List Nat -> List Bool -> List Nat
 | j :: js, false :: u => j :: unu js u
 | _ :: js, true :: u => unu js u
 | [], _ => []
 | _ :: _, [] => []
def pn : List Bool -> Nat -> Nat
 | [], _ => 0
 | _ :: _, 0 => 0
 | false :: u, k + 1 => pn u k + 1
 | true :: u, k + 1 => pn u k
theorem zij (u : List Bool) : pn u 0 = 0 := by cases u <;> rfl
theorem zjJ : ∀ {u : List Bool} {k : Nat}, k < u.length -> pn u (k + 1) = if u.getD k false = true then pn u k else pn u k + 1
 | [], _, h => by simp at h
 | false :: u, 0, _ => by simp [pn, zij]
 | true :: u, 0, _ => by simp [pn, zij]
 | false :: u, k + 1, h => by
  have ih := zjJ (u := u) (k := k) (by simpa using h);simp only [pn, List.getD_cons_succ];rw [ih]
  split <;> rfl
 | true :: u, k + 1, h => by
  have ih := zjJ (u := u) (k := k) (by simpa using h);simp only [pn, List.getD_cons_succ];rw [ih]
theorem znO : ∀ {js : List Nat} {u : List Bool}, js.length = u.length -> pn u u.length = (unu js u).length
 | [], [], _ => rfl
 | [], _ :: _, h => by simp at h
 | _ :: _, [], h => by simp at h
 | j :: js, false :: u, h => by
  have ih := znO (js := js) (u := u) (by simpa using h)
  simp only [List.length_cons, pn, unu, ih]
 | j :: js, true :: u, h => by
  have ih := znO (js := js) (u := u) (by simpa using h);simp only [List.length_cons, pn, unu, ih]
theorem zoB : ∀ {js : List Nat} {u : List Bool} {k : Nat}, js.length = u.length -> k < u.length -> u.getD k false = false ->
  pn u k < (unu js u).length /\ (unu js u).getD (pn u k) 0 = js.getD k 0 /\ unu js (u.set k true) = (unu js u).eraseIdx (pn u k)
 | [], [], k, _, h, _ => by simp at h
 | [], _ :: _, _, h, _, _ => by simp at h
 | _ :: _, [], _, h, _, _ => by simp at h
 | j :: js, false :: u, 0, h, _, _ => by simp [unu, pn]
 | j :: js, true :: u, 0, _, _, h => by simp at h
 | j :: js, false :: u, k + 1, h, hk, hu => by
  obtain ⟨h1, h2, h3⟩ := zoB (js := js) (u := u) (k := k) (by simpa using h) (by simpa using hk) (by simpa using hu);simp only [unu, pn, List.length_cons, List.getD_cons_succ, List.set_cons_succ, List.eraseIdx_cons_succ, h2, h3]
  exact ⟨by omega, trivial, trivial⟩
 | j :: js, true :: u, k + 1, h, hk, hu => by
  obtain ⟨h1, h2, h3⟩ := zoB (js := js) (u := u) (k := k) (by simpa using h) (by simpa using hk) (by simpa using hu);simp only [unu, pn, List.getD_cons_succ, List.set_cons_succ, h2, h3];exact ⟨h1, trivial, trivial⟩
theorem zk1 : ∀ (js : List Nat), unu js (List.replicate js.length false) = js
 | [] => rfl
 | j :: js => by simp only [List.length_cons, List.replicate_succ, unu, zk1 js]
theorem zj9 : ∀ (js : List Nat) (u : List Bool), (unu js u).Sublist js
 | [], u => by simp [unu]
 | j :: js, [] => by simp [unu]
 | j :: js, false :: u => (zj9 js u).cons_cons j
 | j :: js, true :: u => (zj9 js u).cons j
def zag (a : Nat -> Int) : Nat -> Int
 | 0 => 0
 | m + 1 => zag a m + a m
theorem zlc {a : Nat -> Int} (ha : ∀ j, 0 <= a j) : ∀ (m : Nat) (l : List Nat), l.Nodup -> (∀ x ∈ l, x < m) -> (l.map a).sum <= zag a m
 | 0, l, _, h => by
  cases l with
  | nil => simp [zag]
  | cons x l => exact absurd (h x (by simp)) (by omega)
 | m + 1, l, hn, h => by
  unfold zag
  by_cases hm : m ∈ l
  ·obtain ⟨s, t, rfl⟩ := List.append_of_mem hm;have hn2 : (s ++ t).Nodup := hn.sublist (List.Sublist.append_left (List.sublist_cons_self m t) s)
   have hnm : m ∉ s ++ t := by
    rw [List.nodup_append] at hn;obtain ⟨_, h2, h3⟩ := hn;rw [List.nodup_cons] at h2;rw [List.mem_append];rintro (hs | ht)
    ·exact h3 m hs m (by simp) rfl
    ·exact h2.1 ht
   have ih := zlc ha m (s ++ t) hn2 (fun x hx => by
    have h1 := h x (by rw [List.mem_append] at hx ⊢; rcases hx with hx | hx; exact .inl hx; exact .inr (by simp [hx]))
    have h2 : x ≠ m := fun e => hnm (e ▸ hx)
    omega)
   simp only [List.map_append, List.sum_append, List.map_cons, List.sum_cons] at ih ⊢;omega
  ·have ih := zlc ha m l hn (fun x hx => by
    have h1 := h x hx
    have h2 : x ≠ m := fun e => hm (e ▸ hx)
    omega)
   have := ha m;omega
theorem zqw {r : List Int} (h6 : r.length = 6) : zdE r = zag (fun j => zbm (r.getD j 0)) 6 := by
 have key : ∀ j, j <= 6 -> zga r j = zag (fun j => zbm (r.getD j 0)) j := by
  intro j
  induction j with
  | zero => intro _; simp [zga, zag]
  | succ j ih =>
   intro hj;rw [zdS (by omega), zag, ih (by omega)]
 exact key 6 (Nat.le_refl _)
def zeF (rows : List (List Int)) (i : Nat) (us : List Nat) (n : Nat) : Int := ((us.take n).map fun j => zbm (ent rows i j)).sum
theorem zeP {rows : List (List Int)} {i n : Nat} {us : List Nat} (h : n < us.length) : zeF rows i us (n + 1) = zeF rows i us n + zbm (ent rows i (us.getD n 0)) := by
 unfold zeF;rw [List.take_add_one, List.getD_eq_getElem?_getD, List.getElem?_eq_getElem h]
 show ((us.take n ++ [us[n]]).map _).sum = _
 rw [List.map_append, List.sum_append];simp
theorem zfr {rows : List (List Int)} {i n : Nat} {us : List Nat} (h6 : (rw_ rows i).length = 6) (hn : us.Nodup) (hb : ∀ x ∈ us, x < 6) : zeF rows i us n <= zdE (rw_ rows i) := by
 rw [zqw h6]
 exact zlc (fun j => zhh _) 6 _ (hn.sublist (List.take_sublist _ _)) fun x hx => hb x (List.mem_of_mem_take hx)
theorem zkr {rows : List (List Int)} {i : Nat} {us : List Nat} : ∀ n, 0 <= zeF rows i us n
 | 0 => by simp [zeF]
 | n + 1 => by
  have ih := zkr (rows := rows) (i := i) (us := us) n
  by_cases h : n < us.length
  ·have := zhh (ent rows i (us.getD n 0));rw [zeP h];omega
  ·have e : zeF rows i us (n + 1) = zeF rows i us n := by
    unfold zeF;rw [List.take_of_length_le (by omega), List.take_of_length_le (by omega)]
   rw [e];exact ih
def zcg (rows : List (List Int)) (c : Int) : List Nat -> Int
 | [] => 1
 | i :: is => c * zdE (rw_ rows i) * zcg rows c is
theorem znx (r : List Int) : 0 <= zdE r := ziw 6
theorem zdq (rows : List (List Int)) {c : Int} (hc : 0 <= c) : ∀ is, 0 <= zcg rows c is
 | [] => by simp [zcg]
 | i :: is => Int.mul_nonneg (Int.mul_nonneg hc (znx _)) (zdq rows hc is)
theorem zhe {x m P : Int} (h : -P <= m /\ m <= P) : -(zbm x * P) <= x * m /\ x * m <= zbm x * P := by
 unfold zbm
 split
 ·rename_i hx;have h1 := Int.mul_le_mul_of_nonneg_left h.1 (show 0 <= -x by omega);have h2 := Int.mul_le_mul_of_nonneg_left h.2 (show 0 <= -x by omega)
  have e1 : -x * -P = x * P := by rw [Int.neg_mul_neg]
  have e2 : -x * m = -(x * m) := Int.neg_mul x m;have e3 : -x * P = -(x * P) := Int.neg_mul x P;omega
 ·rename_i hx;have h1 := Int.mul_le_mul_of_nonneg_left h.1 (show 0 <= x by omega);have h2 := Int.mul_le_mul_of_nonneg_left h.2 (show 0 <= x by omega);have e3 : x * -P = -(x * P) := Int.mul_neg x P;omega
def okJ (us : List Nat) : Prop := us.Nodup /\ ∀ x ∈ us, x < 6
theorem okJ.sub {us vs : List Nat} (h : okJ us) (hs : vs.Sublist us) : okJ vs := ⟨h.1.sublist hs, fun x hx => h.2 x (hs.subset hx)⟩
def okI (rows : List (List Int)) (is : List Nat) : Prop := ∀ i ∈ is, i < rows.length
structure okW (rows : List (List Int)) (c : Int) (us : List Nat) : Prop where
 lt : ∀ x ∈ us, x < 6
 le : ∀ vs : List Nat, vs.Sublist us -> ∀ i, i < rows.length -> zeF rows i vs vs.length <= c * zdE (rw_ rows i)
theorem okW.sub {rows : List (List Int)} {c : Int} {us vs : List Nat} (h : okW rows c us) (hs : vs.Sublist us) : okW rows c vs := ⟨fun x hx => h.lt x (hs.subset hx), fun ws hw i hi => h.le ws (hw.trans hs) i hi⟩
theorem okW.at {rows : List (List Int)} {c : Int} {us : List Nat} (h : okW rows c us) {i : Nat} (hi : i < rows.length) (n : Nat) : zeF rows i us n <= c * zdE (rw_ rows i) := by
 have e : zeF rows i us n = zeF rows i (us.take n) (us.take n).length := by
  unfold zeF;rw [List.take_length]
 rw [e];exact h.le _ (List.take_sublist _ _) i hi
theorem okJ.toW {rows : List (List Int)} (h6 : ∀ i, i < rows.length -> (rw_ rows i).length = 6) {us : List Nat} (h : okJ us) : okW rows 1 us :=
 ⟨h.2, fun vs hs i hi => by rw [Int.one_mul]; exact zfr (h6 i hi) (h.1.sublist hs) fun x hx => h.2 x (hs.subset hx)⟩
theorem zch {rows : List (List Int)} {c : Int} (hc : 0 <= c) : ∀ {is : List Nat} {us : List Nat}, okI rows is -> okW rows c us ->
  (-zcg rows c is <= zab (ent rows) is us /\ zab (ent rows) is us <= zcg rows c is) /\ (∀ i is', is = i :: is' -> ∀ n, n <= us.length ->
   -(zeF rows i us n * zcg rows c is') <= zdy (fun p => ent rows i (us.getD p 0) * zab (ent rows) is' (us.eraseIdx p)) n /\ zdy (fun p => ent rows i (us.getD p 0) * zab (ent rows) is' (us.eraseIdx p)) n <= zeF rows i us n * zcg rows c is')
 | [], us, _, _ => ⟨by simp [zab, zcg], fun i is' h => by cases h⟩
 | i :: is, us, hi, hj => by
  have key : ∀ n, n <= us.length -> -(zeF rows i us n * zcg rows c is) <= zdy (fun p => ent rows i (us.getD p 0) * zab (ent rows) is (us.eraseIdx p)) n /\ zdy (fun p => ent rows i (us.getD p 0) * zab (ent rows) is (us.eraseIdx p)) n <= zeF rows i us n * zcg rows c is := by
   intro n
   induction n with
   | zero => intro _; simp [zdy, zeF]
   | succ n ih =>
    intro hn;obtain ⟨a1, a2⟩ := ih (by omega);obtain ⟨b1, _⟩ := zch hc (is := is) (us := us.eraseIdx n) (fun x hx => hi x (by simp [hx])) (hj.sub (List.eraseIdx_sublist us n));obtain ⟨c1, c2⟩ := zhe (x := ent rows i (us.getD n 0)) b1;rw [zeP (by omega), Int.add_mul];simp only [zdy]
    rcases zjT n with h | h
    ·rw [h, Int.one_mul]; omega
    ·rw [h, Int.neg_mul, Int.one_mul]; omega
  refine ⟨?_, fun i' is' e => by cases e; exact key⟩;have h1 := key us.length (Nat.le_refl _);have h2 := hj.at (hi i (by simp)) us.length;have h3 := Int.mul_le_mul_of_nonneg_right h2 (zdq rows hc is);simp only [zab, zcg];omega
def okP (rows : List (List Int)) (c : Int) (is : List Nat) : Prop := ∀ s, s <:+ is -> zcg rows c s <= 9000000000000000000
theorem zfz (f : Nat -> Int) : ∀ n, zdy f n = zag (fun k => sg k * f k) n
 | 0 => rfl
 | n + 1 => by simp only [zdy, zag, zfz f n]
theorem zac {f g : Nat -> Int} : ∀ {n : Nat}, (∀ k, k < n -> f k = g k) -> zag f n = zag g n
 | 0, _ => rfl
 | n + 1, h => by
  simp only [zag];rw [zac (n := n) fun k hk => h k (by omega), h n (by omega)]
theorem za7 : ∀ n, zag (fun _ => 0) n = 0
 | 0 => rfl
 | n + 1 => by simp only [zag, za7 n]; rfl
theorem zcf (f g : Nat -> Int) : ∀ n, zag (fun k => f k + g k) n = zag f n + zag g n
 | 0 => rfl
 | n + 1 => by simp only [zag, zcf f g n]; omega
theorem zbC (f : Nat -> Int) : ∀ n, zag (fun k => -f k) n = -zag f n
 | 0 => rfl
 | n + 1 => by simp only [zag, zbC f n]; omega
theorem zaG (c : Int) (f : Nat -> Int) : ∀ n, zag (fun k => c * f k) n = c * zag f n
 | 0 => by simp [zag]
 | n + 1 => by simp only [zag, zaG c f n, Int.mul_add]
theorem zbA (f : Nat -> Nat -> Int) (m : Nat) : ∀ n, zag (fun p => zag (fun q => f p q) m) n = zag (fun q => zag (fun p => f p q) n) m
 | 0 => by simp only [zag]; exact (za7 m).symm
 | n + 1 => by
  simp only [zag];rw [zbA f m n, <- zcf]
def skip (p q : Nat) : Nat := if q < p then q else q + 1
def eps (p q : Nat) : Int := if q < p then sg q else if q = p then 0 else -sg q
theorem zqs (F : Nat -> Int) (p : Nat) : ∀ n, n <= p -> zag (fun q => sg q * F (skip p q)) n = zag (fun q => eps p q * F q) n := fun n hn => zac fun q hq => by
 unfold skip eps;rw [if_pos (by omega), if_pos (by omega)]
theorem zlx (F : Nat -> Int) (p : Nat) : ∀ n, zag (fun q => sg q * F (skip p q)) (p + n) = zag (fun q => eps p q * F q) (p + n + 1)
 | 0 => by
  rw [Nat.add_zero, zqs F p p (Nat.le_refl _)];simp only [zag]
  have : eps p p = 0 := by unfold eps; rw [if_neg (by omega), if_pos rfl]
  rw [this, Int.zero_mul, Int.add_zero]
 | n + 1 => by
  have ih := zlx F p n;have e1 : skip p (p + n) = p + n + 1 := if_neg (by omega)
  have e2 : eps p (p + n + 1) = sg (p + n) := by
   unfold eps;rw [if_neg (by omega), if_neg (by omega), zde, Int.neg_neg]
  show zag (fun q => sg q * F (skip p q)) (p + n) + sg (p + n) * F (skip p (p + n)) = zag (fun q => eps p q * F q) (p + n + 1) + eps p (p + n + 1) * F (p + n + 1)
  rw [ih, e1, e2]
theorem zpE (F : Nat -> Int) {p n : Nat} (h : p < n) : zag (fun q => sg q * F (skip p q)) (n - 1) = zag (fun q => eps p q * F q) n := by
 have := zlx F p (n - 1 - p)
 rwa [show p + (n - 1 - p) = n - 1 by omega, show n - 1 + 1 = n by omega] at this
theorem zoa {us : List Nat} {p q : Nat} (hp : p < us.length) : (us.eraseIdx p).getD q 0 = us.getD (skip p q) 0 := by
 rw [List.getD_eq_getElem?_getD, List.getD_eq_getElem?_getD, List.getElem?_eraseIdx];unfold skip
 split <;> rfl
theorem zfB : ∀ {us : List Nat} {p r : Nat}, r < p -> (us.eraseIdx p).eraseIdx r = (us.eraseIdx r).eraseIdx (p - 1)
 | [], p, r, _ => by simp
 | a :: us, 0, r, h => by omega
 | a :: us, p + 1, 0, _ => by simp
 | a :: us, p + 1, r + 1, h => by
  have ih := zfB (us := us) (p := p) (r := r) (by omega);simp only [List.eraseIdx_cons_succ];rw [ih]
  obtain ⟨p', rfl⟩ : ∃ p', p = p' + 1 := ⟨p - 1, by omega⟩
  simp
def zqp (us : List Nat) (p r : Nat) : List Nat := if r < p then (us.eraseIdx p).eraseIdx r else (us.eraseIdx p).eraseIdx (r - 1)
theorem zni {us : List Nat} {p q : Nat} : (us.eraseIdx p).eraseIdx q = zqp us p (skip p q) := by
 unfold zqp skip
 by_cases h : q < p
 ·simp only [h, if_true]
 ·have h2 : ¬ (q + 1 < p) := by omega
  simp only [h, h2, if_false, Nat.add_sub_cancel]
theorem zmF {us : List Nat} {p r : Nat} (h : p ≠ r) : zqp us p r = zqp us r p := by
 unfold zqp
 by_cases hr : r < p
 ·rw [if_pos hr, if_neg (by omega), zfB hr]
 ·rw [if_neg hr, if_pos (by omega), zfB (show p < r by omega)]
theorem ziZ (e : Nat -> Nat -> Int) (a b : Nat) (is us : List Nat) : zab e (a :: b :: is) us = zag (fun p => zag (fun q => sg p * eps p q * (e a (us.getD p 0) * e b (us.getD q 0) * zab e is (zqp us p q))) us.length) us.length := by
 show zdy _ us.length = _
 rw [zfz]
 refine zac fun p hp => ?_
 have h1 : zab e (b :: is) (us.eraseIdx p) = zag (fun q => eps p q * (e b (us.getD q 0) * zab e is (zqp us p q))) us.length := by
  show zdy _ (us.eraseIdx p).length = _
  rw [zfz, List.length_eraseIdx, if_pos hp, <- zpE (fun q => e b (us.getD q 0) * zab e is (zqp us p q)) hp]
  refine zac fun q hq => ?_
  rw [zoa hp, zni]
 simp only [h1];rw [<- zaG, <- zaG]
 refine zac fun q hq => ?_
 simp only [Int.mul_assoc, Int.mul_left_comm, Int.mul_comm]
theorem zoW {p q : Nat} : sg q * eps q p = -(sg p * eps p q) := by
 unfold eps
 by_cases h : p = q
 ·subst h;simp
 ·by_cases hl : p < q
  ·rw [if_pos hl, if_neg (by omega), if_neg (by omega), Int.mul_neg, Int.neg_neg, Int.mul_comm]
  ·rw [if_neg hl, if_neg h, if_pos (by omega), Int.mul_neg, Int.mul_comm]
theorem zhz (e : Nat -> Nat -> Int) (a b : Nat) (is us : List Nat) : zab e (a :: b :: is) us = -zab e (b :: a :: is) us := by
 rw [ziZ, ziZ, zbA, <- zbC]
 refine zac fun q _ => ?_
 rw [<- zbC]
 refine zac fun p _ => ?_
 by_cases h : p = q
 ·subst h
  have : eps p p = 0 := by unfold eps; rw [if_neg (by omega), if_pos rfl]
  simp [this]
 ·rw [zmF h];have := zoW (p := p) (q := q);rw [this, Int.neg_mul, Int.neg_neg, Int.mul_comm (e b (us.getD q 0))]
theorem zcm (e : Nat -> Nat -> Int) (a b : Nat) (is : List Nat) : ∀ (pre us : List Nat), zab e (pre ++ a :: b :: is) us = -zab e (pre ++ b :: a :: is) us
 | [], us => zhz e a b is us
 | c :: pre, us => by
  simp only [zCA, zab];rw [zfz, zfz, <- zbC]
  refine zac fun p _ => ?_
  rw [zcm e a b is pre (us.eraseIdx p)];simp [Int.mul_neg]
theorem zgJ (e : Nat -> Nat -> Int) (a : Nat) (post us : List Nat) : ∀ (mid pre : List Nat), zab e (pre ++ a :: (mid ++ a :: post)) us = 0
 | [], pre => by
  have := zcm e a a post pre us;simp only [zNA]
  omega
 | c :: mid, pre => by
  have h1 := zcm e a c (mid ++ a :: post) pre us;have h2 := zgJ e a post us mid (pre ++ [c]);simp only [List.append_assoc, zCA, zNA] at h2;simp only [zCA];rw [h1, h2];rfl
theorem zg0 : ∀ {l : List Nat}, ¬ l.Nodup -> ∃ a pre mid post, l = pre ++ a :: (mid ++ a :: post)
 | [], h => absurd List.nodup_nil h
 | x :: l, h => by
  by_cases hx : x ∈ l
  ·obtain ⟨s, t, rfl⟩ := List.append_of_mem hx;exact ⟨x, [], s, t, rfl⟩
  ·have hl : ¬ l.Nodup := fun hn => h (List.nodup_cons.2 ⟨hx, hn⟩)
   obtain ⟨a, pre, mid, post, rfl⟩ := zg0 hl;exact ⟨a, x :: pre, mid, post, rfl⟩
theorem zeq {e : Nat -> Nat -> Int} {is us : List Nat} (h : zab e is us ≠ 0) : is.Nodup := by
 apply Decidable.byContradiction;intro hn;obtain ⟨a, pre, mid, post, rfl⟩ := zg0 hn;exact h (zgJ e a post us mid pre)
def zcv (rows : List (List Int)) : List Nat -> Int
 | [] => 1
 | i :: is => max (zdE (rw_ rows i)) 1 * zcv rows is
theorem zdI (rows : List (List Int)) : ∀ is, 1 <= zcv rows is
 | [] => by simp [zcv]
 | i :: is => by
  have ih := zdI rows is;have := Int.mul_le_mul (show 1 <= max (zdE (rw_ rows i)) 1 by omega) ih (by omega) (by omega);unfold zcv;omega
theorem zgg (rows : List (List Int)) : ∀ is, zcg rows 1 is <= zcv rows is
 | [] => by simp [zcg, zcv]
 | i :: is => by
  have ih := zgg rows is;exact Int.mul_le_mul (by omega) ih (zdq _ (by decide) _) (by omega)
theorem ziV (rows : List (List Int)) : ∀ is, zcg rows 2 is = 2 ^ is.length * zcg rows 1 is
 | [] => by simp [zcg]
 | i :: is => by
  simp only [zcg, ziV rows is, List.length_cons, Int.pow_succ, Int.one_mul];simp only [Int.mul_assoc, Int.mul_left_comm, Int.mul_comm]
theorem zc5 (rows : List (List Int)) (b : List Nat) : ∀ a, zcv rows (a ++ b) = zcv rows a * zcv rows b
 | [] => by simp [zcv]
 | i :: a => by simp only [zCA, zcv, zc5 rows b a, Int.mul_assoc]
theorem zdM {rows : List (List Int)} : ∀ (m : Nat) (l : List Nat), l.Nodup -> (∀ x ∈ l, x < m) -> zcv rows l <= zej rows m
 | 0, l, _, h => by
  cases l with
  | nil => simp [zcv, zej]
  | cons x l => exact absurd (h x (by simp)) (by omega)
 | m + 1, l, hn, h => by
  unfold zej
  by_cases hm : m ∈ l
  ·obtain ⟨s, t, rfl⟩ := List.append_of_mem hm;have hn2 : (s ++ t).Nodup := hn.sublist (List.Sublist.append_left (List.sublist_cons_self m t) s)
   have hnm : m ∉ s ++ t := by
    rw [List.nodup_append] at hn;obtain ⟨_, h2, h3⟩ := hn;rw [List.nodup_cons] at h2;rw [List.mem_append];rintro (hs | ht)
    ·exact h3 m hs m (by simp) rfl
    ·exact h2.1 ht
   have ih := zdM (rows := rows) m (s ++ t) hn2 (fun x hx => by
    have h1 := h x (by rw [List.mem_append] at hx ⊢; rcases hx with hx | hx; exact .inl hx; exact .inr (by simp [hx]))
    have h2 : x ≠ m := fun e => hnm (e ▸ hx)
    omega)
   have e : zcv rows (s ++ m :: t) = zcv rows (s ++ t) * max (zdE (rw_ rows m)) 1 := by
    rw [zc5, zc5];simp only [zcv];simp only [Int.mul_assoc, Int.mul_comm]
   rw [e];exact Int.mul_le_mul_of_nonneg_right ih (by omega)
  ·have ih := zdM (rows := rows) m l hn (fun x hx => by
    have h1 := h x hx
    have h2 : x ≠ m := fun e => hm (e ▸ hx)
    omega)
   have := Int.mul_le_mul_of_nonneg_left (show 1 <= max (zdE (rw_ rows m)) 1 by omega) (show 0 <= zej rows m by have := zdl (rows := rows) m; omega);omega
theorem zro {r : List Int} (h : okE r) : zdE r <= 6000000000 := zlv h 6 (Nat.le_refl _)
theorem zn1 {rows : List (List Int)} (hv : VM rows) {is : List Nat} (hn : is.Nodup) (hi : okI rows is) {i : Nat} (hi1 : i < rows.length) : okP rows 1 (is ++ [i]) := by
 intro s hs
 have h1 : zcv rows is <= 1000000000 := by
  have := zdM (rows := rows) rows.length is hn hi;have := hv.2.2;omega
 have h2 := zro (hv.2.1 i hi1)
 have h3 : zcv rows (is ++ [i]) <= 6000000000000000000 := by
  rw [zc5]
  have e : zcv rows [i] = max (zdE (rw_ rows i)) 1 := by simp [zcv]
  rw [e];have := Int.mul_le_mul h1 (show max (zdE (rw_ rows i)) 1 <= 6000000000 by omega) (by omega) (by omega);omega
 obtain ⟨t, ht⟩ := hs;rw [<- ht, zc5] at h3;have h4 := zdI rows t;have h5 := zdI rows s;have h6 := Int.mul_le_mul_of_nonneg_right h4 (show 0 <= zcv rows s by omega);have h7 := zgg rows s;omega
theorem zqv {rows : List (List Int)} (hv : VM rows) {is : List Nat} (hn : is.Nodup) (hi : okI rows is) (hl : is.length <= 8) : okP rows 2 is := by
 intro s hs
 have h1 : zcv rows is <= 1000000000 := by
  have := zdM (rows := rows) rows.length is hn hi;have := hv.2.2;omega
 obtain ⟨t, ht⟩ := hs
 have hsl : s.length <= 8 := by
  have := congrArg List.length ht;rw [List.length_append] at this;omega
 rw [<- ht, zc5] at h1;have h4 := zdI rows t;have h5 := zdI rows s;have h6 := Int.mul_le_mul_of_nonneg_right h4 (show 0 <= zcv rows s by omega);have h7 := zgg rows s
 have h8 : (2 : Int) ^ s.length <= 256 := by
  have : s.length = 0 \/ s.length = 1 \/ s.length = 2 \/ s.length = 3 \/ s.length = 4 \/ s.length = 5 \/ s.length = 6 \/ s.length = 7 \/ s.length = 8 := by omega
  rcases this with h | h | h | h | h | h | h | h | h <;> rw [h] <;> decide
 have h9 := Int.mul_le_mul h8 (show zcg rows 1 s <= 1000000000 by omega) (zdq _ (by decide) _) (by omega);rw [ziV];omega
theorem zm3 {rows : List (List Int)} {i j : Nat} {us : List Nat} : zeF rows i (j :: us) (us.length + 1) = zbm (ent rows i j) + zeF rows i us us.length := by
 unfold zeF;simp
theorem zia {rows : List (List Int)} {i : Nat} (a b : List Nat) : zeF rows i (a ++ b) (a ++ b).length = zeF rows i a a.length + zeF rows i b b.length := by
 unfold zeF;rw [List.take_length, List.take_length, List.take_length, List.map_append, List.sum_append]
theorem zsn {rows : List (List Int)} {i j : Nat} (h6 : (rw_ rows i).length = 6) (hj : j < 6) : zbm (ent rows i j) <= zdE (rw_ rows i) := by
 have := zfr (rows := rows) (i := i) (n := 1) (us := [j]) h6 (by simp) (fun x hx => by simp at hx; omega);simpa [zeF] using this
theorem zqH {rows : List (List Int)} (h6 : ∀ i, i < rows.length -> (rw_ rows i).length = 6) {js : List Nat} (hj : okJ js) (k : Nat) {j : Nat} (hj6 : j < 6) : okW rows 2 (js.set k j) := by
 have hlt : ∀ x ∈ js.set k j, x < 6 := fun x hx => by
  rcases List.mem_or_eq_of_mem_set hx with h | h
  ·exact hj.2 x h
  ·omega
 refine ⟨hlt, fun vs hs i hi => ?_⟩;have hr := znx (rw_ rows i)
 by_cases hk : k < js.length
 ·have e : js.set k j = js.take k ++ j :: js.drop (k + 1) := by rw [List.set_eq_take_append_cons_drop, if_pos hk]
  rw [e] at hs;obtain ⟨v1, v2, rfl, h1, h2⟩ := List.sublist_append_iff.1 hs
  have hjn : (js.take k ++ js.drop (k + 1)).Sublist js := by
   rw [<- List.eraseIdx_eq_take_drop_succ];exact List.eraseIdx_sublist js k
  rw [zia]
  cases v2 with
  | nil =>
   have h3 := zfr (rows := rows) (i := i) (n := v1.length) (h6 i hi) (hj.1.sublist (h1.trans (List.take_sublist _ _))) fun x hx => hj.2 x ((h1.trans (List.take_sublist _ _)).subset hx)
   have h4 : zeF rows i [] ([] : List Nat).length = 0 := by simp [zeF]
   omega
  | cons y v2 =>
   have hc : (y :: v2).Sublist (js.drop (k + 1)) \/ y = j /\ v2.Sublist (js.drop (k + 1)) := by
    cases h2 with
    | cons _ h => exact .inl h
    | cons_cons _ h => exact .inr ⟨rfl, h⟩
   rcases hc with h3 | ⟨rfl, h3⟩
   ·have hs2 : (v1 ++ y :: v2).Sublist js := (h1.append h3).trans hjn
    have h4 := zfr (rows := rows) (i := i) (n := (v1 ++ y :: v2).length) (h6 i hi) (hj.1.sublist hs2) fun x hx => hj.2 x (hs2.subset hx)
    rw [zia] at h4;omega
   ·have hs2 : (v1 ++ v2).Sublist js := (h1.append h3).trans hjn
    have h4 := zfr (rows := rows) (i := i) (n := (v1 ++ v2).length) (h6 i hi) (hj.1.sublist hs2) fun x hx => hj.2 x (hs2.subset hx)
    rw [zia] at h4;have h5 := zsn (rows := rows) (h6 i hi) hj6;rw [List.length_cons, zm3];omega
 ·have e : js.set k j = js := List.set_eq_of_length_le (by omega);rw [e] at hs
  have h3 := zfr (rows := rows) (i := i) (n := vs.length) (h6 i hi) (hj.1.sublist hs) fun x hx => hj.2 x (hs.subset hx)
  omega
theorem zdY (f : Nat -> Int) : ∀ n, zag f (n + 1) = f 0 + zag (fun k => f (k + 1)) n
 | 0 => by simp [zag]
 | n + 1 => by
  have ih := zdY f n
  show zag f (n + 1) + f (n + 1) = f 0 + (zag (fun k => f (k + 1)) n + f (n + 1))
  rw [ih];omega
theorem zaY (e : Nat -> Nat -> Int) (i : Nat) (is us : List Nat) : zab e (i :: is) us = zag (fun p => sg p * (e i (us.getD p 0) * zab e is (us.eraseIdx p))) us.length := by
 show zdy _ us.length = _
 rw [zfz]
theorem ze9 (e : Nat -> Nat -> Int) (u : Nat) : ∀ (is us : List Nat), is.length = us.length + 1 -> zab e is (u :: us) = zag (fun t => sg t * (e (is.getD t 0) u * zab e (is.eraseIdx t) us)) is.length
 | [], us, h => by simp at h
 | i :: is, us, h => by
  have hl : is.length = us.length := by simpa using h
  rw [zaY, List.length_cons, List.length_cons, zdY, zdY];simp only [List.getD_cons_zero, List.eraseIdx_cons_zero, List.getD_cons_succ, List.eraseIdx_cons_succ]
  congr 1
  have e1 : zag (fun k => sg (k + 1) * (e i (us.getD k 0) * zab e is (u :: us.eraseIdx k))) us.length = zag (fun k => zag (fun t => sg (k + 1) * (e i (us.getD k 0) * (sg t * (e (is.getD t 0) u * zab e (is.eraseIdx t) (us.eraseIdx k))))) is.length) us.length := by
   refine zac fun k hk => ?_
   rw [ze9 e u is (us.eraseIdx k) (by rw [List.length_eraseIdx, if_pos hk]; omega), <- zaG, <- zaG]
  rw [e1, zbA]
  refine zac fun t ht => ?_
  rw [zaY, <- zaG, <- zaG]
  refine zac fun k hk => ?_
  rw [zde, zde]
  grind
theorem zco : ∀ (e : Nat -> Nat -> Int) (us is : List Nat), is.length = us.length -> zab e is us = zab (fun j i => e i j) us is
 | e, [], [], _ => rfl
 | e, [], _ :: _, h => by simp at h
 | e, u :: us, is, h => by
  rw [ze9 e u is us (by simpa using h), zaY]
  refine zac fun t ht => ?_
  rw [zco e us (is.eraseIdx t) (by rw [List.length_eraseIdx, if_pos ht, h]; simp)]
theorem zmg {e : Nat -> Nat -> Int} {is : List Nat} {a : Nat} {pre mid post : List Nat} (h : is.length = (pre ++ a :: (mid ++ a :: post)).length) : zab e is (pre ++ a :: (mid ++ a :: post)) = 0 := by
 rw [zco _ _ _ h];exact zgJ _ a post is mid pre
theorem zdW {e : Nat -> Nat -> Int} {is us : List Nat} (h : is.length = us.length) (hn : ¬ us.Nodup) : zab e is us = 0 := by
 obtain ⟨a, pre, mid, post, rfl⟩ := zg0 hn;exact zmg h
theorem znZ (a : Nat) : ∀ b, sg (a + b) = sg a * sg b
 | 0 => by simp [sg]
 | b + 1 => by
  show sg (a + b + 1) = _
  rw [zde, znZ a b, zde, Int.mul_neg]
theorem zpi (n : Nat) : sg n * sg n = 1 := by
 rcases zjT n with h | h <;> rw [h] <;> rfl
theorem zfH (e : Nat -> Nat -> Int) (a : Nat) (us : List Nat) : ∀ (mid pre post : List Nat), zab e (pre ++ a :: (mid ++ post)) us = sg mid.length * zab e (pre ++ (mid ++ a :: post)) us
 | [], pre, post => by simp [sg]
 | c :: mid, pre, post => by
  have h1 := zcm e a c (mid ++ post) pre us;have h2 := zfH e a us mid (pre ++ [c]) post;simp only [List.append_assoc, zCA, zNA] at h2;rw [List.cons_append, h1, h2, List.length_cons, zde, Int.neg_mul];rfl
theorem zhi {e : Nat -> Nat -> Int} {a : Nat} {is mid pre post : List Nat} (h : is.length = (pre ++ a :: (mid ++ post)).length) : zab e is (pre ++ a :: (mid ++ post)) = sg mid.length * zab e is (pre ++ (mid ++ a :: post)) := by
 rw [zco _ _ _ h, zco _ (pre ++ (mid ++ a :: post)) _ (by simp at h ⊢; omega)];exact zfH _ a is mid pre post
theorem zdL {e : Nat -> Nat -> Int} {D : Int} {b m : Nat} {c : Nat -> Int} {a : Nat -> Nat} {post : List Nat} : ∀ {pre us : List Nat}, (∀ j ∈ us, D * e b j = zag (fun l => c l * e (a l) j) m) ->
  D * zab e (pre ++ b :: post) us = zag (fun l => c l * zab e (pre ++ a l :: post) us) m
 | [], us, h => by
  simp only [zNA]
  have e1 : ∀ l, c l * zab e (a l :: post) us = zag (fun p => c l * (sg p * (e (a l) (us.getD p 0) * zab e post (us.eraseIdx p)))) us.length := fun l => by rw [zaY, zaG]
  simp only [e1];rw [zbA, zaY, <- zaG]
  refine zac fun p hp => ?_
  have hm : us.getD p 0 ∈ us := by
   rw [List.getD_eq_getElem?_getD, List.getElem?_eq_getElem hp];exact List.getElem_mem hp
  have e2 : D * (sg p * (e b (us.getD p 0) * zab e post (us.eraseIdx p))) = (sg p * zab e post (us.eraseIdx p)) * (D * e b (us.getD p 0)) := by
   simp only [Int.mul_assoc, Int.mul_left_comm, Int.mul_comm]
  rw [e2, h _ hm, <- zaG]
  refine zac fun l _ => ?_
  simp only [Int.mul_assoc, Int.mul_left_comm, Int.mul_comm]
 | r :: pre, us, h => by
  simp only [zCA]
  have e1 : ∀ l, c l * zab e (r :: (pre ++ a l :: post)) us = zag (fun p => c l * (sg p * (e r (us.getD p 0) * zab e (pre ++ a l :: post) (us.eraseIdx p)))) us.length := fun l => by rw [zaY, zaG]
  simp only [e1];rw [zbA, zaY, <- zaG]
  refine zac fun p hp => ?_
  have ih := zdL (e := e) (D := D) (b := b) (m := m) (c := c) (a := a) (post := post) (pre := pre) (us := us.eraseIdx p) fun j hj => h j (List.mem_of_mem_eraseIdx hj)
  have e2 : D * (sg p * (e r (us.getD p 0) * zab e (pre ++ b :: post) (us.eraseIdx p))) = (sg p * e r (us.getD p 0)) * (D * zab e (pre ++ b :: post) (us.eraseIdx p)) := by
   simp only [Int.mul_assoc, Int.mul_left_comm, Int.mul_comm]
  rw [e2, ih, <- zaG]
  refine zac fun l _ => ?_
  simp only [Int.mul_assoc, Int.mul_left_comm, Int.mul_comm]
theorem zhE {e : Nat -> Nat -> Int} {D : Int} {b m : Nat} {c : Nat -> Int} {a : Nat -> Nat} {is pre post : List Nat} (hl : is.length = (pre ++ b :: post).length) (h : ∀ i ∈ is, D * e i b = zag (fun l => c l * e i (a l)) m) :
  D * zab e is (pre ++ b :: post) = zag (fun l => c l * zab e is (pre ++ a l :: post)) m := by
 rw [zco _ _ _ hl, zdL (e := fun j i => e i j) h]
 refine zac fun l _ => ?_
 rw [zco e _ is (by simp at hl ⊢; omega)]
theorem zcr {js : List Nat} {k : Nat} (hk : k < js.length) (j : Nat) : js.set k j = js.take k ++ j :: js.drop (k + 1) := by
 rw [List.set_eq_take_append_cons_drop, if_pos hk]
theorem zkG {js : List Nat} {k : Nat} (hk : k < js.length) : js.set k (js.getD k 0) = js := by
 apply List.ext_getElem (by simp);intro i h1 h2
 by_cases e : k = i
 ·subst e;rw [List.getElem_set_self];simp [List.getD_eq_getElem?_getD, h2]
 ·rw [List.getElem_set_ne e]
theorem zjo {js : List Nat} {k l : Nat} (hk : k < js.length) (hl : l < js.length) (hkl : k ≠ l) : ¬ (js.set k (js.getD l 0)).Nodup := by
 intro h
 have h1 : (js.set k (js.getD l 0))[k]'(by simpa using hk) = (js.set k (js.getD l 0))[l]'(by simpa using hl) := by
  rw [List.getElem_set_self, List.getElem_set_ne hkl];simp [List.getD_eq_getElem?_getD, hl]
 exact hkl ((List.getElem_inj h).1 h1)
def cof (e : Nat -> Nat -> Int) (is js : List Nat) (k t : Nat) : Int := sg k * (sg t * zab e (is.eraseIdx t) (js.eraseIdx k))
theorem zkz {e : Nat -> Nat -> Int} {is js : List Nat} (hl : is.length = js.length) {k : Nat} (hk : k < js.length) (j : Nat) : zab e is (js.set k j) = zag (fun t => cof e is js k t * e (is.getD t 0) j) is.length := by
 have h1 : js.set k j = [] ++ (js.take k ++ j :: js.drop (k + 1)) := by rw [zcr hk]; rfl
 have h2 := zhi (e := e) (a := j) (is := is) (mid := js.take k) (pre := []) (post := js.drop (k + 1)) (by simp; omega)
 have h3 : [] ++ j :: (js.take k ++ js.drop (k + 1)) = j :: js.eraseIdx k := by rw [List.eraseIdx_eq_take_drop_succ]; rfl
 have h4 : (js.take k).length = k := by simp; omega
 rw [h3, h4] at h2
 have h5 : zab e is (js.set k j) = sg k * zab e is (j :: js.eraseIdx k) := by
  rw [h1, h2, <- Int.mul_assoc, zpi, Int.one_mul]
 rw [h5, ze9 e j is _ (by rw [List.length_eraseIdx, if_pos hk]; omega), <- zaG]
 refine zac fun t _ => ?_
 unfold cof;simp only [Int.mul_assoc, Int.mul_left_comm, Int.mul_comm]
theorem ze8 {e : Nat -> Nat -> Int} {is js : List Nat} (hl : is.length = js.length) {k l : Nat} (hk : k < js.length) (hll : l < js.length) : zab e is (js.set k (js.getD l 0)) = if k = l then zab e is js else 0 := by
 by_cases h : k = l
 ·subst h;rw [if_pos rfl, zkG hk]
 ·rw [if_neg h];exact zdW (by simpa using hl) (zjo hk hll h)
theorem zqe {e : Nat -> Nat -> Int} {is js : List Nat} (hl : is.length = js.length) (i j : Nat) : zab e (is ++ [i]) (js ++ [j]) = zab e is js * e i j - zag (fun p => zab e is (js.set p j) * e i (js.getD p 0)) js.length := by
 have h1 := zfH e i (js ++ [j]) is [] [];simp only [zNA, zAN] at h1
 have h2 : zab e (is ++ [i]) (js ++ [j]) = sg is.length * zab e (i :: is) (js ++ [j]) := by
  rw [h1, <- Int.mul_assoc, zpi, Int.one_mul]
 rw [h2, zaY, List.length_append, List.length_singleton]
 show sg is.length * (zag _ js.length + sg js.length * (e i ((js ++ [j]).getD js.length 0) * zab e is ((js ++ [j]).eraseIdx js.length))) = _
 have h3 : (js ++ [j]).getD js.length 0 = j := by simp [List.getD_eq_getElem?_getD]
 have h4 : (js ++ [j]).eraseIdx js.length = js := by
  rw [List.eraseIdx_append_of_length_le (Nat.le_refl _)];simp
 rw [h3, h4, Int.mul_add, hl, <- Int.mul_assoc, zpi, Int.one_mul, <- zaG]
 have h5 : zag (fun k => sg js.length * (sg k * (e i ((js ++ [j]).getD k 0) * zab e is ((js ++ [j]).eraseIdx k)))) js.length = zag (fun k => -(zab e is (js.set k j) * e i (js.getD k 0))) js.length := by
  refine zac fun p hp => ?_
  have e1 : (js ++ [j]).getD p 0 = js.getD p 0 := by simp [List.getD_eq_getElem?_getD, List.getElem?_append_left hp]
  have e2 : (js ++ [j]).eraseIdx p = js.take p ++ (js.drop (p + 1) ++ [j]) := by
   rw [List.eraseIdx_append_of_lt_length hp, List.eraseIdx_eq_take_drop_succ, List.append_assoc]
  have e3 := zhi (e := e) (a := j) (is := is) (mid := js.drop (p + 1)) (pre := js.take p) (post := []) (by simp; omega);rw [List.append_nil] at e3;have e4 : (js.drop (p + 1)).length = js.length - (p + 1) := List.length_drop;rw [e4] at e3
  have e5 : sg js.length * (sg p * sg (js.length - (p + 1))) = -1 := by
   rw [<- znZ, <- znZ];unfold sg;rw [if_neg (by omega)]
  rw [e1, e2, zcr hp, e3];generalize zab e is (js.take p ++ (js.drop (p + 1) ++ [j])) = M
  have e6 : sg js.length * (sg p * (e i (js.getD p 0) * M)) = sg js.length * (sg p * (sg (js.length - (p + 1)) * sg (js.length - (p + 1)))) * (e i (js.getD p 0) * M) := by
   rw [zpi, Int.mul_one];simp only [Int.mul_assoc]
  rw [e6]
  have e7 : sg js.length * (sg p * (sg (js.length - (p + 1)) * sg (js.length - (p + 1)))) = (sg js.length * (sg p * sg (js.length - (p + 1)))) * sg (js.length - (p + 1)) := by simp only [Int.mul_assoc]
  rw [e7, e5]
  grind
 rw [h5, zbC]
 grind
theorem zjR {rows : List (List Int)} (h6 : ∀ i, i < rows.length -> (rw_ rows i).length = 6) {is js : List Nat} (hi : okI rows is) (hj : okJ js) (hl : is.length = js.length) {k j : Nat} (hk : k < js.length) (hj6 : j < 6) :
  -zcg rows 1 is <= zab (ent rows) is (js.set k j) /\ zab (ent rows) is (js.set k j) <= zcg rows 1 is := by
 by_cases hn : (js.set k j).Nodup
 ·have ho : okJ (js.set k j) := ⟨hn, fun x hx => by
   rcases List.mem_or_eq_of_mem_set hx with h | h
   ·exact hj.2 x h
   ·omega⟩
  exact (zch (by decide) hi (ho.toW h6)).1
 ·rw [zdW (by simpa using hl) hn];have := zdq rows (c := 1) (by decide) is;omega
theorem zc7 {rows : List (List Int)} (hv : VM rows) {is : List Nat} (hn : is.Nodup) (hi : okI rows is) : zcg rows 1 is <= 1000000000 := by
 have h1 := zdM (rows := rows) rows.length is hn hi;have h2 := zgg rows is;have := hv.2.2;omega
set_option maxRecDepth 100000
set_option maxHeartbeats 4000000
def NatS (x : AV) (l : List Nat) : Prop := IntS x (l.map Int.ofNat)
theorem NatS.len {x : AV} {l : List Nat} (h : NatS x l) : zcH x = some l.length := by
 have := IntS.len h
 rwa [List.length_map] at this
theorem natD {l : List Nat} {k : Nat} (h : k < l.length) : (l.map Int.ofNat).getD k 0 = ((l.getD k 0 : Nat) : Int) := by
 simp [List.getD_eq_getElem?_getD, h]
theorem NatS.at {x : AV} {l : List Nat} (h : NatS x l) {k : Nat} (hk : k < l.length) : ∃ t, zaj 1 x (.int .i64 (k : Int)) = some (.pval (.int .i64 ((l.getD k 0 : Nat) : Int) :: t)) := by
 have h1 := h.atI (i := (k : Int)) (by omega) (by rw [List.length_map]; omega);rw [zdV, natD hk] at h1;exact ⟨_, h1⟩
structure MF (A : List Bool -> Hp) (l iv jv : AV) (k N b1 b2 b3 b4 b5 qu : Nat) : Prop where
 len : ∀ u, (A u).length = N
 l1 : ∀ u X, Zz.look (A u ++ X) b1 0 = some [iv]
 l2 : ∀ u X, Zz.look (A u ++ X) b2 0 = some [jv]
 l3 : ∀ u X, Zz.look (A u ++ X) b3 0 = some [.sref qu 0 0 1 k (some k)]
 l4 : ∀ u X, Zz.look (A u ++ X) b4 0 = some [l]
 l5 : ∀ u X, Zz.look (A u ++ X) b5 0 = some [.func 63 [] [.pref b1 0 0, .pref b2 0 0, .pref b3 0 0, .pref b4 0 0, .pref b5 0 0]]
 lu : ∀ u X, Zz.look (A u ++ X) qu 0 = some (u.map .bool)
 su : ∀ u u' X, (A u ++ X).set qu (some ⟨0, u'.map .bool⟩) = A u' ++ X
theorem okW.nd {rows : List (List Int)} {c : Int} {js : List Nat} (h : okW rows c js) {k : Nat} (hk : k < js.length) : js.getD k 0 < 6 := by
 rw [List.getD_eq_getElem?_getD, List.getElem?_eq_getElem hk];exact h.lt _ (List.getElem_mem hk)
theorem okI.nd {rows : List (List Int)} {is : List Nat} (h : okI rows is) {k : Nat} (hk : k < is.length) : is.getD k 0 < rows.length := by
 rw [List.getD_eq_getElem?_getD, List.getElem?_eq_getElem hk];exact h _ (List.getElem_mem hk)
theorem zpr {u : List Bool} {k : Nat} (h : u.getD k false = false) : (u.set k true).set k false = u := by
 rw [List.set_set];apply List.ext_getElem (by simp);intro j h1 h2
 by_cases e : k = j
 ·subst e;rw [List.getElem_set_self];rw [List.getD_eq_getElem?_getD, List.getElem?_eq_getElem h2] at h;exact h.symm
 ·rw [List.getElem_set_ne e]
theorem f137 {A : List Bool -> Hp} {l iv jv : AV} {N b1 b2 b3 b4 b5 qu : Nat} {rows : List (List Int)} {is js : List Nat} (hA : MF A l iv jv js.length N b1 b2 b3 b4 b5 qu) (hl : RwL l rows) (hiv : NatS iv is) (hjv : NatS jv js) (hi : okI rows is) {c : Int} (hc : 0 <= c) (hj : okW rows c js) (hp9 : okP rows c is) (he : ∀ i, i < rows.length -> okE (rw_ rows i)) (hil : is.length < 1000000) (hjl : js.length < 1000000) (hrl : rows.length < 9223372036854775807) {L : List (Option ALoop)} :
  ∀ (is' : List Nat) (i : Nat) (u : List Bool) (R : Hp), is.drop i = is' -> i + is'.length = is.length -> u.length = js.length ->
   WF G0 (.func 63 [] [.pref b1 0 0, .pref b2 0 0, .pref b3 0 0, .pref b4 0 0, .pref b5 0 0]) [.int .i64 (i : Nat)] ⟨A u ++ R, L⟩ fun v m' => v = .int .i64 (zab (ent rows) is' (unu js u)) /\ m' = ⟨A u ++ R, L⟩
 | [], i, u, R, hd, hpl, hu => by
  have hivl := hiv.len;have l1 := hA.l1
  have hie : i = is.length := by simpa using hpl
  refine zx0 rfl (zaz Tryd.func63 ztl) (by show 6 <= 59; decide) ?_;unfold ir63;simp only [zaw, List.replicate, zNA, zCA]
  repeat' (first |refine WO.opE (by intro; simp (disch := first | omega | (simp only [hA.len])) only [go_sem, l1]; rfl) (by simp only [pt8, pt0, pt5, pt6, pt7]; rfl) ?_ |refine WO.opE (by intro; exact zaf (by simp only [go_sem]; first | rfl | assumption)) (by simp only [pt8, pt7]; rfl) ?_ |refine zy1 ?_ |refine zy2 ?_ |refine zy3 ?_ |(simp only [fl1, fl2]) |refine zy7 ?_ |refine zy4 rfl (fun hp => ?_) (fun hp => ?_) <;> try (exfalso; first | omega | contradiction))
  exact ⟨_, rfl, rfl, rfl⟩
 | ii :: is', i, u, R, hd, hpl, hu => by
  have hivl := hiv.len;have hjvl := hjv.len;have l1 := hA.l1;have l2 := hA.l2;have l3 := hA.l3;have l4 := hA.l4;have l5 := hA.l5;have lu := hA.lu
  have hil2 : i < is.length := by simp at hpl; omega
  have hig : is.getD i 0 = ii := by
   have : (is.drop i)[0]? = some ii := by rw [hd]; rfl
   rw [List.getElem?_drop, Nat.add_zero] at this;rw [List.getD_eq_getElem?_getD, this];rfl
  have hii := hi.nd hil2;rw [hig] at hii;obtain ⟨t1, hat1⟩ := hiv.at hil2;rw [hig] at hat1;have h6 := hl.six hii;have hrow := hl.at hii
  have hsuf : is' <:+ is := by
   refine ⟨is.take (i + 1), ?_⟩;have := List.take_append_drop (i + 1) is;rw [<- List.drop_drop, hd] at this;simpa using this
  have hsuf2 : (ii :: is') <:+ is := ⟨is.take i, by rw [<- hd]; exact List.take_append_drop i is⟩
  have hP := hp9 _ hsuf2
  have hoI : okI rows (ii :: is') := fun x hx => hi x (hsuf2.subset hx)
  have hus := hj.sub (zj9 js u);have hbnd := (zch hc hoI hus).2 ii is' rfl
  have has : ∀ n, zeF rows ii (unu js u) n <= c * zdE (rw_ rows ii) := fun n => hus.at hii n
  have hpe : zcg rows c (ii :: is') = c * zdE (rw_ rows ii) * zcg rows c is' := rfl;have hpl0 := znO (js := js) (u := u) hu.symm;refine zx0 rfl (zaz Tryd.func63 ztl) (by show 6 <= 59; decide) ?_;unfold ir63;simp only [zaw, List.replicate, zNA, zCA]
  repeat' (first |refine WO.opE (by intro; simp (disch := first | omega | (simp only [hA.len])) only [go_sem, l1, l2]; rfl) (by simp only [pt8, pt0, pt1, pt3, pt5, pt6, pt7]; rfl) ?_ |refine WO.opE (by intro; exact zaf (by simp only [go_sem]; first | rfl | assumption)) (by simp only [pt8, pt2, pt7]; rfl) ?_ |refine zy1 ?_ |refine zy2 ?_ |refine zy3 ?_ |(simp only [fl1]) |refine zy6 ?_ |refine zy5 ?_ |refine zy4 rfl (fun hp => ?_) (fun hp => ?_) <;> try (exfalso; first | omega | contradiction))
  refine zx9 (fun m st => ∃ T k S0 s0, st = ⟨T, A u ++ R, L⟩ /\ T.length = 59 /\ gt T 0 = .int .i64 (i : Nat) /\ gt T 1 = .pref b1 0 0 /\ gt T 2 = .pref b2 0 0 /\ gt T 3 = .pref b3 0 0 /\ gt T 4 = .pref b4 0 0 /\ gt T 5 = .pref b5 0 0 /\ gt T 8 = .int .i64 S0 /\ gt T 9 = .int .i64 s0 /\ gt T 17 = jv /\ gt T 18 = .int .i64 (js.length : Nat) /\ gt T 19 = .int .i64 (k : Nat) /\ m + k = js.length /\ S0 = zdy (fun p => ent rows ii ((unu js u).getD p 0) * zab (ent rows) is' ((unu js u).eraseIdx p)) (pn u k) /\ s0 = sg (pn u k)) ?_ js.length _ ⟨_, 0, 0, 1, rfl, rfl, rfl, rfl, rfl, rfl, rfl, rfl, rfl, rfl, rfl, rfl, rfl, by omega, by rw [zij]; rfl, by rw [zij]; rfl⟩;rintro m _ ⟨T, k, S0, s0, rfl, hT, g0, g1, g2, g3, g4, g5, g8, g9, g17, g18, g19, hm, hS0, hs0⟩;obtain ⟨f, rfl⟩ := exG hT;clear hT;change f 0 = _ at g0;change f 1 = _ at g1;change f 2 = _ at g2;change f 3 = _ at g3;change f 4 = _ at g4;change f 5 = _ at g5;change f 8 = _ at g8;change f 9 = _ at g9;change f 17 = _ at g17;change f 18 = _ at g18;change f 19 = _ at g19;simp only [tb, Nat.reduceAdd, g0, g1, g2, g3, g4, g5, g8, g9, g17, g18, g19]
  by_cases hk : k < js.length
  ·have hku : k < u.length := by omega
   have hkj := hj.nd hk;obtain ⟨t2, hat2⟩ := hjv.at hk;have hps := zjJ hku
   by_cases hused : u.getD k false = true
   ·have hub : (u.map AV.bool)[k]? = some (.bool true) := by rw [znJ hku, decide_eq_true hused]
    rw [if_pos hused] at hps
    repeat' (first |refine WO.opE (by intro; simp (disch := first | omega | (simp only [hA.len])) only [go_sem, l3, lu, hat2, zbl, hub, Nat.mul_one]; rfl) (by simp only [pt8, pt0, pt1, pt2, pt3, pt4, pt5, pt6, pt7]; rfl) ?_ |refine zy1 ?_ |refine zy2 ?_ |refine zy3 ?_ |(simp only [fl1, zbr]) |refine zy0 rfl ?_ |refine zy6 ?_ |refine zy8 ?_ |refine zy5 ?_ |refine zy4 rfl (fun hp => ?_) (fun hp => ?_) <;> try (exfalso; first | omega | contradiction))
    exact ⟨m - 1, by omega, _, k + 1, S0, s0, rfl, rfl, rfl, rfl, rfl, rfl, rfl, rfl, rfl, rfl, rfl, rfl, rfl, by omega, by rw [hps]; exact hS0, by rw [hps]; exact hs0⟩
   ·have hfalse : u.getD k false = false := by simpa using hused
    have hub : (u.map AV.bool)[k]? = some (.bool false) := by rw [znJ hku, decide_eq_false hused]
    rw [if_neg hused] at hps;obtain ⟨q1, q2, q3⟩ := zoB hu.symm hku hfalse;have hover := zi8 (v := true) hku;have hover2 := zi8 (c := u.set k true) (i := k) (v := false) (by simpa using hku);rw [zpr hfalse] at hover2;have hdr := zny (r := rw_ rows ii) (t := zet rows ii) (j := js.getD k 0) (by omega);have hx1 := he ii hii (js.getD k 0) hkj;have hb1 := hbnd (pn u k) (by omega);have hb2 := hbnd (pn u k + 1) (by omega);have hs1 := has (pn u k + 1);have hs0' := has (pn u k)
    have ih := fun R => f137 hA hl hiv hjv hi hc hj hp9 he hil hjl hrl (L := L) is' (i + 1) (u.set k true) R (by rw [<- List.drop_drop, hd]; rfl) (by simp at hpl ⊢; omega) (by simpa using hu)
    rw [q3] at ih;have hM := (zch hc (is := is') (us := (unu js u).eraseIdx (pn u k)) (fun x hx => hoI x (by simp [hx])) (hus.sub (List.eraseIdx_sublist _ _))).1
    have hent : ent rows ii ((unu js u).getD (pn u k) 0) = (rw_ rows ii).getD (js.getD k 0) 0 := by rw [q2]; rfl
    have hnx : zdy (fun p => ent rows ii ((unu js u).getD p 0) * zab (ent rows) is' ((unu js u).eraseIdx p)) (pn u k + 1) = zdy (fun p => ent rows ii ((unu js u).getD p 0) * zab (ent rows) is' ((unu js u).eraseIdx p)) (pn u k) + sg (pn u k) * ((rw_ rows ii).getD (js.getD k 0) 0 * zab (ent rows) is' ((unu js u).eraseIdx (pn u k))) := by
     simp only [zdy, hent]
    have hsg := zde (pn u k);have hso := zjT (pn u k);have hPn := zdq rows hc is';have ha1 := zeP (rows := rows) (i := ii) q1;have ha0 := zkr (rows := rows) (i := ii) (us := unu js u) (pn u k);rw [hent] at ha1;have hax := Int.mul_le_mul_of_nonneg_right (show zbm ((rw_ rows ii).getD (js.getD k 0) 0) <= c * zdE (rw_ rows ii) by omega) hPn;rw [<- hpe] at hax;obtain ⟨hc1, hc2⟩ := zhe (x := (rw_ rows ii).getD (js.getD k 0) 0) hM;have hr1 := Int.mul_le_mul_of_nonneg_right hs1 hPn;have hr0 := Int.mul_le_mul_of_nonneg_right hs0' hPn;rw [<- hpe] at hr1 hr0;rw [<- hps] at hnx hsg hb2 hr1;rw [<- hS0, <- hs0] at hnx;rw [<- hS0] at hb1;rw [<- hs0] at hsg hso;generalize hS1 : zdy (fun p => ent rows ii ((unu js u).getD p 0) * zab (ent rows) is' ((unu js u).eraseIdx p)) (pn u (k + 1)) = S1 at *;generalize zab (ent rows) is' ((unu js u).eraseIdx (pn u k)) = M at *;generalize hxx : (rw_ rows ii).getD (js.getD k 0) 0 = x at *;generalize hs1g : sg (pn u (k + 1)) = s1 at *;have hxM : s0 * x * M = s0 * (x * M) := Int.mul_assoc _ _ _
    have hsx : -1000000000 <= s0 * x /\ s0 * x <= 1000000000 := by rcases hso with h | h <;> rw [h] <;> omega
    have hdiff : s0 * x * M = S1 - S0 := by omega
    have hneg : -s0 = s1 := by omega
    have hfin : -9000000000000000000 <= s0 * x * M /\ s0 * x * M <= 9000000000000000000 := by rw [hxM]; rcases hso with h | h <;> rw [h] <;> omega
    have hfin2 : -9000000000000000000 <= S0 + s0 * x * M /\ S0 + s0 * x * M <= 9000000000000000000 := by omega
    by_cases hx0 : x = 0
    ·have hx01 := hx0
     have hSS : S1 = S0 := by rw [hx0, Int.mul_zero, Int.zero_mul] at hdiff; omega
     repeat' (first |refine WO.opE (by intro; simp (disch := first | omega | (simp only [hA.len])) only [go_sem, l1, l3, l4, lu, hat1, hat2, hrow, hdr, zbl, hub, Nat.mul_one, Int.zero_sub]; rfl) (by simp only [pt8, pt0, pt1, pt2, pt3, pt4, pt5, pt6, pt7]; rfl) ?_ |refine zy1 ?_ |refine zy2 ?_ |refine zy3 ?_ |(simp only [fl1, zbr]) |refine zx5 rfl ?_ |refine zy9 rfl ?_ |refine zy6 ?_ |refine zy5 ?_ |refine zy4 rfl (fun hp => ?_) (fun hp => ?_) <;> try (exfalso; first | omega | contradiction))
     exact ⟨m - 1, by omega, _, k + 1, S0, -s0, rfl, rfl, rfl, rfl, rfl, rfl, rfl, rfl, rfl, rfl, rfl, rfl, rfl, by omega, by rw [hS1]; exact hSS.symm, by rw [hs1g]; exact hneg⟩
    ·have hx01 := hx0
     repeat' (first |refine WO.opE (by intro; simp (disch := first | omega | (simp only [hA.len])) only [go_sem, l1, l3, l4, l5, lu, hat1, hat2, hrow, hdr, zbl, hub, Nat.mul_one]; rfl) (by simp only [pt8, pt0, pt1, pt2, pt3, pt4, pt5, pt6, pt7]; rfl) ?_ |refine zx2 (by intro; simp (disch := first | omega | (simp only [hA.len])) only [go_sem, lu, hover, hA.su]; rfl) ?_ |refine zy1 ?_ |refine zy2 ?_ |refine zy3 ?_ |(simp only [fl1]) |refine zx5 rfl ?_ |refine zy9 rfl ?_ |refine zy6 ?_ |refine zy5 ?_ |refine zy4 rfl (fun hp => ?_) (fun hp => ?_) <;> try (exfalso; first | omega | contradiction))
     refine WO.call rfl rfl ((ih R).mono ?_);rintro v m' ⟨rfl, rfl⟩;simp only [pt8, pt1]
     repeat' (first |refine WO.opE (by intro; simp (disch := first | omega | (simp only [hA.len])) only [go_sem, l3, zbl, Nat.mul_one, Int.zero_sub]; rfl) (by simp only [pt8, pt0, pt1, pt2, pt3, pt4, pt5, pt6, pt7]; rfl) ?_ |refine zx2 (by intro; simp (disch := first | omega | (simp only [hA.len])) only [go_sem, lu, hover2, hA.su]; rfl) ?_ |refine zy2 ?_ |refine zy3 ?_ |(simp only [zbr]))
     exact ⟨m - 1, by omega, _, k + 1, S0 + s0 * x * M, -s0, rfl, rfl, rfl, rfl, rfl, rfl, rfl, rfl, rfl, rfl, rfl, rfl, rfl, by omega, by rw [hS1]; omega, by rw [hs1g]; exact hneg⟩
  ·have hke : k = js.length := by omega
   subst hke
   repeat' (first |refine zE (by intro; simp (disch := omega) only [go_sem]; rfl) ?_ |refine zy1 ?_ |refine zy2 ?_ |refine zy3 ?_ |(simp only [fl1]) |refine zy8 ?_ |refine zy7 ?_ |refine zy4 rfl (fun hp => ?_) (fun hp => ?_) <;> try (exfalso; first | omega | contradiction))
   refine ⟨_, rfl, ?_, rfl⟩;simp only [zbo, gt7];rw [hS0, <- hu, hpl0];rfl
theorem zqz (n : Nat) : za0 [AV.bool false] n = (List.replicate n false).map .bool := by
 induction n with
 | zero => rfl
 | succ n ih => rw [za0, ih]; rfl
theorem NatS.cells {x : AV} {l : List Nat} (h : NatS x l) : x.cells = some [x] := IntS.cells h
theorem f104 {l iv jv : AV} {rows : List (List Int)} {is js : List Nat} (hl : RwL l rows) (hiv : NatS iv is) (hjv : NatS jv js) (hi : okI rows is) {c : Int} (hc : 0 <= c) (hj : okW rows c js) (hp9 : okP rows c is) (he : ∀ i, i < rows.length -> okE (rw_ rows i)) (hil : is.length < 1000000) (hjl : js.length < 1000000) (hrl : rows.length < 9223372036854775807) :
  WF G0 (.func 57 [] []) [l, iv, jv] ⟨[], []⟩ fun v m' => v = .int .i64 (zab (ent rows) is js) := by
 have hlc := SL.cells hl;have hic := hiv.cells;have hjc := hjv.cells;unfold AV.cells at hlc hic hjc;have hjvl := hjv.len;refine zx0 rfl (zaz Tryd.func57 cir57) (by show 3 <= 15; decide) ?_;unfold ir57;simp only [zaw, List.replicate, zNA, zAN]
 repeat' (first |refine zE (by intro; simp (disch := omega) only [go_sem, Zz.look, Nat.reduceAdd, hlc, hic, hjc, List.map_cons, List.map_nil, if_pos, zqz]; rfl) ?_ |refine zx2 (by intro; simp (disch := omega) only [go_sem, Zz.look, zaF]; rfl) ?_ |refine WO.opE (by intro; exact zaf (by simp only [go_sem]; first | rfl | assumption)) (by simp only [pt8, pt2]; rfl) ?_ |refine zy1 ?_ |refine zy2 ?_ |refine zy3 ?_ |(simp only [fl1]))
 have hA : MF (fun u => [some ⟨0, [l]⟩, some ⟨0, [iv]⟩, some ⟨0, [jv]⟩, some ⟨0, u.map .bool⟩, some ⟨0, [.sref 3 0 0 1 js.length (some js.length)]⟩, some ⟨0, [.func 63 [] [.pref 1 0 0, .pref 2 0 0, .pref 4 0 0, .pref 0 0 0, .pref 5 0 0]]⟩]) l iv jv js.length 6 1 2 4 0 5 3 :=
  ⟨fun _ => rfl, fun _ _ => rfl, fun _ _ => rfl, fun _ _ => rfl, fun _ _ => rfl, fun _ _ => rfl, fun _ _ => rfl, fun _ _ _ => rfl⟩
 have h63 := f137 hA hl hiv hjv hi hc hj hp9 he hil hjl hrl (L := []) is 0 (List.replicate js.length false) [] rfl (by omega) (by simp);rw [zk1] at h63;refine WO.call rfl rfl (h63.mono ?_);rintro v m' ⟨rfl, rfl⟩;simp only [pt8, pt6]
 repeat' (first |refine zE (by intro; simp (disch := omega) only [go_sem]; rfl) ?_ |refine zy3 ?_ |refine zy7 ?_)
 exact ⟨_, rfl, rfl⟩
theorem s104 {l l' iv jv iv' jv' : AV} {rows : List (List Int)} {is js : List Nat} (hl : RwL l rows) (hiv : NatS iv is) (hjv : NatS jv js) (hi : okI rows is) {c : Int} (hc : 0 <= c) (hj : okW rows c js) (hp9 : okP rows c is) (he : ∀ i, i < rows.length -> okE (rw_ rows i)) (hil : is.length < 1000000) (hjl : js.length < 1000000) (hrl : rows.length < 9223372036854775807) {m : Mem} (h0 : Zz.byVal m.heap l' = some l) (h1 : Zz.byVal m.heap iv' = some iv) (h2 : Zz.byVal m.heap jv' = some jv) :
  zaA G0 57 [l', iv', jv'] m = some (.int .i64 (zab (ent rows) is js), m) :=
 zaS (zal h0 (zal h1 (zal h2 rfl))) ((f104 hl hiv hjv hi hc hj hp9 he hil hjl hrl).mono fun y m' h => by rw [h]; rfl)
noncomputable def E4 : Env := E3.put 57 (zaA G0 57)
theorem E4_ok : EnvOk Tryd.prog E4 := Env.put_ok E3_ok (za6 ziG (zaq Tryd.func57 (by kernel_rfl)))
def zas (l : List Nat) : List AV := (l.map Int.ofNat).map (.int .i64)
theorem zai (l : List Nat) : (zas l).length = l.length := by simp [zas]
theorem zc4 (a b : List Nat) : zas (a ++ b) = zas a ++ zas b := by simp [zas]
theorem zdu (l : List Nat) (k : Nat) : (zas l).take k = zas (l.take k) := by simp [zas, List.map_take]
theorem zeD (l : List Nat) (k : Nat) : (zas l).drop k = zas (l.drop k) := by simp [zas, List.map_drop]
theorem zd6 {l : List Nat} {k : Nat} (h : k < l.length) : (zas l)[k]? = some (.int .i64 ((l.getD k 0 : Nat) : Int)) := by
 simp [zas, h]
def JS (H : Hp) (x : AV) (l : List Nat) : Prop := NatS x l \/ ∃ q g cap, x = .sref q g 0 1 l.length cap /\ Zz.look H q g = some (zas l) /\ (cap = none \/ cap = some l.length)
def Ext (H H' : Hp) : Prop := H.length <= H'.length /\ ∀ j, j < H.length -> H'[j]? = H[j]?
theorem Ext.refl (H : Hp) : Ext H H := ⟨Nat.le_refl _, fun _ _ => rfl⟩
theorem Ext.app (H R : Hp) : Ext H (H ++ R) := ⟨by simp, fun j hj => List.getElem?_append_left hj⟩
theorem Ext.trans {A B C : Hp} (h : Ext A B) (h' : Ext B C) : Ext A C := ⟨Nat.le_trans h.1 h'.1, fun j hj => by rw [h'.2 j (by have := h.1; omega), h.2 j hj]⟩
theorem Ext.look {H H' : Hp} (h : Ext H H') {q g : Nat} {c : List AV} (hl : Zz.look H q g = some c) : Zz.look H' q g = some c := by
 rw [zad (h.2 q (zah hl))];exact hl
theorem Ext.split {H H' : Hp} (h : Ext H H') : ∃ R, H' = H ++ R := by
 refine ⟨H'.drop H.length, ?_⟩;apply List.ext_getElem?;intro j
 by_cases hj : j < H.length
 ·rw [List.getElem?_append_left hj, h.2 j hj]
 ·rw [List.getElem?_append_right (by omega), List.getElem?_drop]
  congr 1
  omega
theorem JS.ext {H H' : Hp} {x : AV} {l : List Nat} (h : JS H x l) (he : Ext H H') : JS H' x l := by
 rcases h with h | ⟨q, g, cap, rfl, h1, h2⟩
 ·exact .inl h
 ·exact .inr ⟨q, g, cap, rfl, he.look h1, h2⟩
theorem zlU {H H' : Hp} {y : AV} {c : List AV} (he : Ext H H') (h : scells H 1 y = some c) : scells H' 1 y = some c := by
 cases y <;> first | exact h | skip
 rename_i id g off sz n cap;simp only [scells] at h ⊢
 split at h
 ·rename_i e;rw [if_pos e];simp only [Option.bind_eq_some_iff] at h ⊢;obtain ⟨l, h1, h2⟩ := h;exact ⟨l, he.look h1, h2⟩
 ·cases h
theorem JS.len {H : Hp} {x : AV} {l : List Nat} (h : JS H x l) : zcH x = some l.length := by
 rcases h with h | ⟨q, g, cap, rfl, h1, h2⟩
 ·exact h.len
 ·rfl
theorem JS.at {H : Hp} {x : AV} {l : List Nat} (h : JS H x l) {k : Nat} (hk : k < l.length) : ∃ y, zaj 1 x (.int .i64 (k : Int)) = some y /\ zbQ H false 1 y = some (.int .i64 ((l.getD k 0 : Nat) : Int)) /\ (match y with | .pref id _ _ => id < H.length | _ => True) := by
 rcases h with h | ⟨q, g, cap, rfl, h1, h2⟩
 ·obtain ⟨t, ht⟩ := h.at hk;exact ⟨_, ht, rfl, trivial⟩
 ·refine ⟨.pref q g (0 + k * 1), by rw [zbl, zbb hk]; rfl, ?_, zah h1⟩
  show (Zz.look H q g).bind _ = _
  rw [h1]
  show za4 false 1 (zas l) (0 + k * 1) = _
  rw [Nat.mul_one, Nat.zero_add];exact zd6 hk
theorem JS.take {H : Hp} {x : AV} {l : List Nat} (h : JS H x l) {k : Nat} (hk : k <= l.length) : ∃ y, zaU H 1 x none (some (.int .i64 (k : Int))) none = some y /\ zcH y = some k /\ scells H 1 y = some (zas (l.take k)) := by
 rcases h with (⟨rfl, h0⟩ | ⟨f, rfl⟩) | ⟨q, g, cap, rfl, h1, h2⟩
 ·have e : l = [] := by simpa using h0
  subst e
  have hk0 : k = 0 := by simpa using hk
  subst hk0;exact ⟨.snil, rfl, rfl, rfl⟩
 ·have hl : (l.map Int.ofNat).length = l.length := by simp
  have hc : ((l.map Int.ofNat).map (AV.int .i64)) = zas l := rfl;rw [hl, hc];refine ⟨.sval (match (if f = true then some l.length else none : Option Nat) with | some c => c == k | none => false) k ((zas l).take k), ?_, rfl, ?_⟩
  ·simp only [zaU, zai, Nat.mul_one, if_true, zed, zfi, bnd]
   have hcp : (if f = true then some l.length else none : Option Nat).getD l.length = l.length := by cases f <;> rfl
   rw [hcp, if_pos ⟨by omega, by omega⟩];simp
   cases f <;> rfl
  ·simp only [scells];rw [zdu, zai, List.length_take, if_pos (by omega)]
 ·rcases h2 with rfl | rfl
  ·refine ⟨.sref q g 0 1 k none, ?_, rfl, ?_⟩
   ·have hkc : zqk H 1 q g 0 l.length = l.length := by
     simp only [zqk, h1, zai];omega
    simp only [zaU, if_true, Option.isNone, Option.isSome, Bool.and_self, hkc, zed, zfi, bnd, Option.getD_none];rw [if_pos ⟨by omega, by omega⟩];simp
   ·simp only [scells, if_true, h1, Option.bind_some, Zz.cut];rw [if_pos (by rw [zai]; omega), List.drop_zero, Nat.mul_one, zdu]
  ·refine ⟨.sref q g 0 1 k (some l.length), ?_, rfl, ?_⟩
   ·simp only [zaU, if_true, Option.isNone, Bool.false_and, Bool.false_eq_true, if_false, zed, zfi, bnd, Option.getD_some];rw [if_pos ⟨by omega, by omega⟩];simp
   ·simp only [scells, if_true, h1, Option.bind_some, Zz.cut];rw [if_pos (by rw [zai]; omega), List.drop_zero, Nat.mul_one, zdu]
theorem JS.drop {H : Hp} {x : AV} {l : List Nat} (h : JS H x l) {k : Nat} (hk : k <= l.length) : ∃ y, (∀ H', zaU H' 1 x (some (.int .i64 (k : Int))) none none = some y) /\ zcH y = some (l.length - k) /\ scells H 1 y = some (zas (l.drop k)) := by
 rcases h with (⟨rfl, h0⟩ | ⟨f, rfl⟩) | ⟨q, g, cap, rfl, h1, h2⟩
 ·have e : l = [] := by simpa using h0
  subst e
  have hk0 : k = 0 := by simpa using hk
  subst hk0;exact ⟨.snil, fun _ => rfl, rfl, rfl⟩
 ·have hl : (l.map Int.ofNat).length = l.length := by simp
  have hc : ((l.map Int.ofNat).map (AV.int .i64)) = zas l := rfl;rw [hl, hc];refine ⟨.sval (match (if f = true then some l.length else none : Option Nat) with | some c => c == l.length | none => false) (l.length - k) ((zas l).drop k), fun H' => ?_, rfl, ?_⟩
  ·simp only [zaU, zai, Nat.mul_one, if_true, zed, zfi, bnd];rw [if_pos ⟨by omega, by omega⟩];simp only [Option.map_some, Int.toNat_natCast];rw [List.take_of_length_le (by rw [List.length_drop, zai]; omega)]
   cases f <;> rfl
  ·simp only [scells];rw [zeD, zai, List.length_drop, if_pos (by omega)]
 ·rcases h2 with rfl | rfl
  ·by_cases hk0 : k = 0
   ·subst hk0;refine ⟨.sref q g 0 1 l.length none, fun H' => ?_, rfl, ?_⟩
    ·simp only [zaU, if_true, Option.isSome, Bool.and_false, Bool.false_eq_true, if_false, zed, zfi, bnd];rw [if_pos ⟨by omega, by omega⟩];simp
    ·simp only [scells, if_true, h1, Option.bind_some, Zz.cut];rw [if_pos (by rw [zai]; omega), List.drop_zero, List.drop_zero, Nat.mul_one, List.take_of_length_le (by rw [zai]; omega)]
   ·by_cases hkl : l.length - k = 0
    ·refine ⟨.sval false 0 [], fun H' => ?_, by rw [hkl]; rfl, ?_⟩
     ·simp only [zaU, if_true, Option.isSome, Bool.and_false, Bool.false_eq_true, if_false, zed, zfi, bnd];rw [if_pos ⟨by omega, by omega⟩];simp only [Option.bind_some, Int.toNat_natCast];rw [if_neg hk0, if_pos hkl]
     ·rw [List.drop_eq_nil_of_le (by omega)];rfl
    ·refine ⟨.sref q g (0 + k * 1) 1 (l.length - k) none, fun H' => ?_, rfl, ?_⟩
     ·simp only [zaU, if_true, Option.isSome, Bool.and_false, Bool.false_eq_true, if_false, zed, zfi, bnd];rw [if_pos ⟨by omega, by omega⟩];simp only [Option.bind_some, Int.toNat_natCast];rw [if_neg hk0, if_neg hkl]
     ·simp only [scells, if_true, h1, Option.bind_some, Zz.cut];rw [if_pos (by rw [zai]; omega), Nat.mul_one, Nat.zero_add, Nat.mul_one, zeD, List.take_of_length_le (by rw [zai, List.length_drop]; omega)]
  ·refine ⟨.sref q g (if l.length = k then 0 else 0 + k * 1) 1 (l.length - k) (some (l.length - k)), fun H' => ?_, rfl, ?_⟩
   ·simp only [zaU, if_true, Option.isNone, Bool.false_and, Bool.false_eq_true, if_false, zed, zfi, bnd];rw [if_pos ⟨by omega, by omega⟩];simp
   ·simp only [scells, if_true, h1, Option.bind_some, Zz.cut]
    by_cases e : l.length = k
    ·rw [if_pos e, if_pos (by rw [zai]; omega)];subst e;simp [zas]
    ·rw [if_neg e, if_pos (by rw [zai]; omega), Nat.mul_one, Nat.zero_add, Nat.mul_one, zeD, List.take_of_length_le (by rw [zai, List.length_drop]; omega)]
theorem JS.of_gs {H : Hp} {v : AV} {q : Nat} {l : List Nat} (h : GS 1 H v q (zas l)) : JS H v l := by
 rcases h with ⟨rfl, h1⟩ | ⟨g, rfl, h1, h2⟩ | ⟨g, n, rfl, h1, h2, h3⟩
 ·have : l = [] := by simpa [zas] using h1
  subst this;exact .inl IntS.nil
 ·have : l = [] := by simpa [zas] using h1
  subst this;exact .inr ⟨q, g, _, rfl, by rw [h2]; rfl, .inr rfl⟩
 ·rw [zai, Nat.mul_one] at h1;subst h1;exact .inr ⟨q, g, _, rfl, h3, .inl rfl⟩
end Go.Proofs.YtgchabldcnmccabDoor

