import Derived.Test.YtgchabldcnmccabDoorUPn
import Derived.Test.YtgchabldcnmccabDoorUPb

set_option linter.unusedSimpArgs false
set_option linter.unusedVariables false

namespace Go.Proofs.YtgchabldcnmccabDoor
open Go.Zz
theorem zrq {a d B : Int} (hd : d ≠ 0) (hB : 0 <= B) (h : -(B * zbm d) <= a /\ a <= B * zbm d) : -B <= a.tdiv d /\ a.tdiv d <= B := by
 have e : (a.tdiv d).natAbs = a.natAbs / d.natAbs := Int.natAbs_tdiv a d
 have hd' : 0 < d.natAbs := by omega
 have e2 : zbm d = (d.natAbs : Int) := by unfold zbm; split <;> omega
 have e3 : ((B.toNat * d.natAbs : Nat) : Int) = B * (d.natAbs : Int) := by rw [Int.natCast_mul, Int.toNat_of_nonneg hB]
 rw [e2, <- e3] at h
 have h2 : a.natAbs / d.natAbs <= B.toNat := by
  refine Nat.div_le_of_le_mul ?_;rw [Nat.mul_comm];omega
 omega
theorem zqR {f : Nat -> Int} {C : Int} (hC : 0 <= C) : ∀ {n : Nat}, n <= 6 -> (∀ k, k < n -> -C <= f k /\ f k <= C) -> -(6 * C) <= zag f n /\ zag f n <= 6 * C := by
 have key : ∀ n : Nat, (∀ k, k < n -> -C <= f k /\ f k <= C) -> -(n * C) <= zag f n /\ zag f n <= n * C := fun n => by
  induction n with
  | zero => intro _; simp [zag]
  | succ n ih =>
   intro h
   have h1 := ih fun k hk => h k (by omega)
   have h2 := h n (by omega);have e : zag f (n + 1) = zag f n + f n := rfl
   have e2 : ((n + 1 : Nat) : Int) * C = n * C + C := by rw [Int.natCast_add, Int.add_mul]; simp
   rw [e, e2];omega
 intro n hn h;have h1 := key n h;have h2 : (n : Int) * C <= 6 * C := Int.mul_le_mul_of_nonneg_right (by omega) hC;omega
theorem zrY {x y d M : Int} (hx : 0 <= x /\ x <= d) (hy : -M <= y /\ y <= M) : -(M * d) <= x * y /\ x * y <= M * d := by
 have := zks hx.1 hx.2 hy.1 hy.2;rw [Int.mul_comm d M] at this;exact this
theorem zrb {rows : List (List Int)} (hv : VM rows) (h6 : Six rows) : Bd6 (zaI rows) := by
 have hB := ziT hv h6;have hX := zkE hB hv.2.1;have hab := hB.abs;intro i j hi hj;have hlen : (zaI rows).length = (zfJ rows (zbx rows)).length := List.length_map _;rw [hlen] at hi
 show -6000000000 <= ent ((zfJ rows (zbx rows)).map (zfg rows (zbx rows))) i j /\ ent ((zfJ rows (zbx rows)).map (zfg rows (zbx rows))) i j <= 6000000000
 rw [zfx hi, zmv hj];have hl := hX.lb.len;refine zrq hB.ne (by decide) ?_
 have h1 := zqR (f := fun k => ((zfJ rows (zbx rows)).getD i []).getD k 0 * zab (ent rows) (zbx rows).is ((zbx rows).js.set k j)) (C := 1000000000 * zbm (zbx rows).d) (by omega) hB.six fun k hk => by
  have h1 := zjR (rows := rows) h6 hB.i hB.j hB.len hk hj;have h2 := zc7 hv hB.nd hB.i;exact zrY (hX.lb.el i k (by omega) hk) ⟨by omega, by omega⟩
 have e : zlh rows (zbx rows) ((zfJ rows (zbx rows)).getD i []) j (zbx rows).js.length = zag (fun k => ((zfJ rows (zbx rows)).getD i []).getD k 0 * zab (ent rows) (zbx rows).is ((zbx rows).js.set k j)) (zbx rows).js.length := rfl;rw [e];omega
theorem zoZ (a b : Nat -> Int) : zag (fun j => a j * b j) 6 = zag (fun j => b j * a j) 6 := zac fun j _ => Int.mul_comm _ _
theorem KerP.dot {e : Nat -> Nat -> Int} {m : Nat} {y : Nat -> Int} (hy : KerP e m y) {v : Nat -> Int} (hv : zd5 e m v) : zag (fun j => y j * v j) 6 = 0 := by
 have := KerP.closed (e := fun _ => y) (m := 1) (S := zbv e m) (y := v) (fun g ⟨k, hk, hg⟩ i _ => by
  subst hg;have := hy k hk;rw [zoZ] at this
  exact this) hv
 exact this 0 (by decide)
theorem zmM {rows K : List (List Int)} {p : List Nat} (hK : KerL rows K p) {v : Nat -> Int} (hv : zd5 (ent rows) rows.length v) : KerP (ent K) K.length v := fun i hi => ((hK.sp _).1 (Sp.row hi)).dot hv
theorem zre {rows : List (List Int)} {is js : List Nat} (hl : is.length = js.length) (hi : okI rows is) {k : Nat} (hk : k < js.length) : zd5 (ent rows) rows.length fun j => zab (ent rows) is (js.set k j) := by
 refine Sp.sum (f := fun t => ent rows (is.getD t 0)) (c := fun t => cof (ent rows) is js k t) (m := is.length) (fun t ht => Sp.row (hi _ ?_)) fun j _ => zkz hl hk j
 exact zbg ht
theorem zlO {rows : List (List Int)} (hv : VM rows) (h6 : Six rows) {is js : List Nat} (hl : is.length = js.length) (hi : okI rows is) (hj : ∀ x ∈ js, x < 6) (hlt : zb1 rows < js.length) : zab (ent rows) is js = 0 := by
 have hB := ziT hv h6;have e : zb1 rows = (zbx rows).js.length := hB.len;exact zlq (znU rows) hB.ne hi (post := js) (pre := []) (by simpa using hl) (fun x hx => by cases hx) hj (by simp; omega)
theorem zi4 {rows K : List (List Int)} {p : List Nat} (hv : VM rows) (h6 : Six rows) (hK : KerL rows K p) {y : Nat -> Int} (hy : KerP (ent K) K.length y) {is js : List Nat} (hl : is.length = js.length) (hi : okI rows is) (hj : ∀ x ∈ js, x < 6) (hr : js.length = zb1 rows) : ∀ j, j < 6 -> zab (ent rows) is js * y j = zag (fun k => y (js.getD k 0) * zab (ent rows) is (js.set k j)) js.length := by
 intro j hj6
 have hz : KerP (ent rows) rows.length fun t => (if t = j then zab (ent rows) is js else 0) - zag (fun k => zab (ent rows) is (js.set k j) * (if t = js.getD k 0 then 1 else 0)) js.length := fun i hii => by
  have h0 := zqe (e := ent rows) hl i j
  rw [zlO hv h6 (by simp; omega) (fun x hx => by
   rcases List.mem_append.1 hx with hx | hx
   ·exact hi x hx
   ·simp at hx; omega) (fun x hx => by
   rcases List.mem_append.1 hx with hx | hx
   ·exact hj x hx
   ·simp at hx; omega) (by simp; omega)] at h0
  have e1 : zag (fun t => ent rows i t * (if t = j then zab (ent rows) is js else 0)) 6 = zab (ent rows) is js * ent rows i j := by
   rw [zbe (k := j) hj6 fun t _ hne => by
    show ent rows i t * (if t = j then _ else 0) = 0
    rw [if_neg hne, Int.mul_zero]]
   show ent rows i j * (if j = j then _ else 0) = _
   rw [if_pos rfl, Int.mul_comm]
  have e2 : zag (fun t => ent rows i t * zag (fun k => zab (ent rows) is (js.set k j) * (if t = js.getD k 0 then 1 else 0)) js.length) 6 = zag (fun k => zab (ent rows) is (js.set k j) * ent rows i (js.getD k 0)) js.length := by
   have a1 : zag (fun t => ent rows i t * zag (fun k => zab (ent rows) is (js.set k j) * (if t = js.getD k 0 then 1 else 0)) js.length) 6 = zag (fun t => zag (fun k => ent rows i t * (zab (ent rows) is (js.set k j) * (if t = js.getD k 0 then 1 else 0))) js.length) 6 := zac fun t _ => (zaG _ _ _).symm
   rw [a1, zbA]
   refine zac fun k hk => ?_
   rw [zbe (k := js.getD k 0) (hj _ (zbg hk)) fun t _ hne => by
    show ent rows i t * (zab (ent rows) is (js.set k j) * (if t = js.getD k 0 then 1 else 0)) = 0
    rw [if_neg hne, Int.mul_zero, Int.mul_zero]]
   show ent rows i (js.getD k 0) * (zab (ent rows) is (js.set k j) * (if js.getD k 0 = js.getD k 0 then 1 else 0)) = _
   rw [if_pos rfl, Int.mul_one, Int.mul_comm]
  have e3 : zag (fun t => ent rows i t * ((if t = j then zab (ent rows) is js else 0) - zag (fun k => zab (ent rows) is (js.set k j) * (if t = js.getD k 0 then 1 else 0)) js.length)) 6 = zag (fun t => ent rows i t * (if t = j then zab (ent rows) is js else 0)) 6 - zag (fun t => ent rows i t * zag (fun k => zab (ent rows) is (js.set k j) * (if t = js.getD k 0 then 1 else 0)) js.length) 6 := by
   rw [Int.sub_eq_add_neg, <- zbC, <- zcf]
   exact zac fun t _ => by grind
  rw [e3, e1, e2];omega
 have h1 := hy.dot ((hK.sp _).2 hz)
 have e1 : zag (fun t => y t * (if t = j then zab (ent rows) is js else 0)) 6 = zab (ent rows) is js * y j := by
  rw [zbe (k := j) hj6 fun t _ hne => by
   show y t * (if t = j then _ else 0) = 0
   rw [if_neg hne, Int.mul_zero]]
  show y j * (if j = j then _ else 0) = _
  rw [if_pos rfl, Int.mul_comm]
 have e2 : zag (fun t => y t * zag (fun k => zab (ent rows) is (js.set k j) * (if t = js.getD k 0 then 1 else 0)) js.length) 6 = zag (fun k => y (js.getD k 0) * zab (ent rows) is (js.set k j)) js.length := by
  have a1 : zag (fun t => y t * zag (fun k => zab (ent rows) is (js.set k j) * (if t = js.getD k 0 then 1 else 0)) js.length) 6 = zag (fun t => zag (fun k => y t * (zab (ent rows) is (js.set k j) * (if t = js.getD k 0 then 1 else 0))) js.length) 6 := zac fun t _ => (zaG _ _ _).symm
  rw [a1, zbA]
  refine zac fun k hk => ?_
  rw [zbe (k := js.getD k 0) (hj _ (zbg hk)) fun t _ hne => by
   show y t * (zab (ent rows) is (js.set k j) * (if t = js.getD k 0 then 1 else 0)) = 0
   rw [if_neg hne, Int.mul_zero, Int.mul_zero]]
  show y (js.getD k 0) * (zab (ent rows) is (js.set k j) * (if js.getD k 0 = js.getD k 0 then 1 else 0)) = _
  rw [if_pos rfl, Int.mul_one]
 have e3 : zag (fun t => y t * ((if t = j then zab (ent rows) is js else 0) - zag (fun k => zab (ent rows) is (js.set k j) * (if t = js.getD k 0 then 1 else 0)) js.length)) 6 = zag (fun t => y t * (if t = j then zab (ent rows) is js else 0)) 6 - zag (fun t => y t * zag (fun k => zab (ent rows) is (js.set k j) * (if t = js.getD k 0 then 1 else 0)) js.length) 6 := by
  rw [Int.sub_eq_add_neg, <- zbC, <- zcf]
  exact zac fun t _ => by grind
 have h1' : zag (fun t => y t * ((if t = j then zab (ent rows) is js else 0) - zag (fun k => zab (ent rows) is (js.set k j) * (if t = js.getD k 0 then 1 else 0)) js.length)) 6 = 0 := h1;rw [e3, e1, e2] at h1';omega
theorem zon {rows K : List (List Int)} {p : List Nat} (hv : VM rows) (h6 : Six rows) (hK : KerL rows K p) {y : Nat -> Int} (hy : KerP (ent K) K.length y) {is js : List Nat} (hl : is.length = js.length) (hi : okI rows is) (hj : ∀ x ∈ js, x < 6) (hr : js.length = zb1 rows) : zd5 (ent rows) rows.length fun j => zab (ent rows) is js * y j :=
 Sp.sum (f := fun k j => zab (ent rows) is (js.set k j)) (c := fun k => y (js.getD k 0)) (m := js.length) (fun k hk => zre hl hi hk) (zi4 hv h6 hK hy hl hi hj hr)
end Go.Proofs.YtgchabldcnmccabDoor

