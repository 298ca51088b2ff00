import Derived.Test.YtgchabldcnmccabDoorUMA
import Derived.Test.YtgchabldcnmccabDoorAbsI
import Derived.Test.YtgchabldcnmccabDoorUTg
import Derived.Test.YtgchabldcnmccabDoorULC

set_option linter.unusedSimpArgs false
set_option linter.unusedVariables false

namespace Go.Proofs.YtgchabldcnmccabDoor
open Go.Zz
set_option maxRecDepth 100000
set_option maxHeartbeats 8000000
theorem lc0 {g : Nat} {l : List AV} {Y : Hp} : Zz.look (some ⟨g, l⟩ :: Y) 0 g = some l := by simp [Zz.look]
def bt (s : ByteArray) (i : Nat) : Int := ((s.data.toList.getD i 0).toNat : Int)
theorem zrz (s : ByteArray) (i : Nat) : 0 <= bt s i /\ bt s i < 256 := by
 unfold bt;have := (s.data.toList.getD i 0).toNat_lt;omega
theorem zcP (s : ByteArray) : zb6 .len [.str s] = some (.int .i64 s.size) := rfl
theorem zln {s : ByteArray} {i : Nat} (h : i < s.size) : zb6 .index [.str s, .int .i64 (i : Int)] = some (.int .u8 (bt s i)) := by
 have e : s[i]? = some s[i] := by simp [h]
 have e2 : s.data.toList.getD i 0 = s[i] := by
  rw [List.getD_eq_getElem?_getD, List.getElem?_eq_getElem (by simpa using h)];rfl
 simp only [zb6, zbb h, Option.bind_some, e, Option.map_some, bt, e2]
def zbF (s : ByteArray) : Prop := 1 <= s.size /\ s.size <= 16 /\ ∀ i < s.size, 97 <= bt s i /\ bt s i <= 122
instance (s : ByteArray) : Decidable (zbF s) := inferInstanceAs (Decidable (_ /\ _))
theorem f14 {s : ByteArray} (hs : s.size <= maxLen) : WF G0 (.func 14 [] []) [.str s] ⟨[], []⟩ fun y m' => y = .bool (decide (zbF s)) := by
 have hml : s.size <= 9223372036854775807 := hs;refine zx0 rfl (zaz Tryd.func14 cir14) (by show 1 <= 28; decide) ?_;unfold ir14;simp only [zaw, List.replicate, zNA, zAN]
 repeat' (first |refine zE (by intro; simp (disch := omega) only [go_sem]; rfl) ?_ |refine zy1 ?_ |refine zy2 ?_ |refine zy3 ?_ |(simp only [fl1]) |refine zy5 ?_)
 refine zx9 (fun m st => ∃ T i, st = ⟨T, [], []⟩ /\ T.length = 28 /\ gt T 0 = .str s /\ gt T 2 = .bool false /\ gt T 3 = .int .i64 (i : Nat) /\ m + i = s.size /\ ∀ j < i, 97 <= bt s j /\ bt s j <= 122) ?_ s.size _ ⟨_, 0, rfl, rfl, rfl, rfl, rfl, by omega, by omega⟩;rintro m _ ⟨T, i, rfl, hT, g0, g2, g3, hml2, hok⟩;obtain ⟨f, rfl⟩ := exG hT;clear hT;change f 0 = _ at g0;change f 2 = _ at g2;change f 3 = _ at g3;simp only [tb, Nat.reduceAdd, g0, g2, g3]
 by_cases hi : i < s.size
 ·have hat := zln hi;have hbd := zrz s i
  have hno : ¬ (97 <= bt s i /\ bt s i <= 122) -> decide (zbF s) = false := fun h => decide_eq_false fun hn => h (hn.2.2 i hi)
  have hnx : 97 <= bt s i /\ bt s i <= 122 -> ∀ j < i + 1, 97 <= bt s j /\ bt s j <= 122 := fun h j hj => by
   by_cases e : j = i
   ·rw [e]; exact h
   ·exact hok j (by omega)
  generalize bt s i = b at *
  repeat' (first |refine zx1 rfl ?_ |refine zN rfl ?_ |refine zE (by intro; simp (disch := omega) only [go_sem, List.map_cons, List.map_nil, zcP, hat]; rfl) ?_ |refine zy1 ?_ |refine zy2 ?_ |refine zy3 ?_ |(simp only [fl1, fl2, fl5, fl8, zbr]) |refine zy0 rfl ?_ |refine zy6 ?_ |refine zy7 ?_ |refine zy5 ?_ |refine zx7 rfl (by intro hp; simp only [hp, decide_true]; rfl) (by intro hp; simp only [hp, decide_false]; rfl) (fun hp => ?_) (fun hp => ?_) <;> try (exfalso; first | omega | contradiction) |refine zy4 rfl (fun hp => ?_) (fun hp => ?_) <;> try (exfalso; first | omega | contradiction))
  all_goals first
   | exact ⟨m - 1, by omega, _, i + 1, rfl, rfl, rfl, rfl, rfl, by omega, hnx ⟨by omega, by omega⟩⟩
   | (rw [hno (by omega)]; exact ⟨_, rfl, rfl⟩)
 ·have hie : i = s.size := by omega
  have hd : decide (zbF s) = decide (1 <= s.size /\ s.size <= 16) := by
   rw [decide_eq_decide];exact ⟨fun h => ⟨h.1, h.2.1⟩, fun h => ⟨h.1, h.2, fun j hj => hok j (by omega)⟩⟩
  rw [hd]
  repeat' (first |refine zx1 rfl ?_ |refine zN rfl ?_ |refine zE (by intro; simp (disch := omega) only [go_sem]; rfl) ?_ |refine zy1 ?_ |refine zy2 ?_ |refine zy3 ?_ |(simp only [fl1]) |refine zy8 ?_ |refine zy7 ?_ |refine zx7 rfl (by intro hp; simp only [hp, decide_true]; rfl) (by intro hp; simp only [hp, decide_false]; rfl) (fun hp => ?_) (fun hp => ?_) <;> try (exfalso; first | omega | contradiction) |refine zy4 rfl (fun hp => ?_) (fun hp => ?_) <;> try (exfalso; first | omega | contradiction))
  all_goals refine ⟨_, rfl, ?_⟩
  all_goals simp only [zbo, gt2, AV.bool.injEq]
  all_goals first
   | (symm; rw [decide_eq_true_iff]; omega)
   | (symm; rw [decide_eq_false_iff_not]; omega)
   | (rw [decide_eq_decide]; omega)
theorem s14 {s : ByteArray} (hs : s.size <= maxLen) {m : Mem} : zar G0 14 [.str s] m = some (.bool (decide (zbF s)), m) :=
 zaB rfl ((f14 hs).mono fun y m' h => by rw [h]; rfl)
def AZ : ByteArray := ⟨⟨[97, 98, 99, 100, 101, 102, 103, 104, 105, 106, 107, 108, 109, 110, 111, 112, 113, 114, 115, 116, 117, 118, 119, 120, 121, 122]⟩⟩
theorem AZ_at {i : Nat} (h : i < 26) : bt AZ i = 97 + i := by
 have : ∀ i : Fin 26, bt AZ i = 97 + (i : Nat) := by decide
 exact this ⟨i, h⟩
def azt (i : Nat) : List AV := (List.range 256).map fun c => .bool (decide (97 <= c /\ c < 97 + i))
theorem zcy (i : Nat) : (azt i).length = 256 := by simp [azt]
theorem zh4 (i j : Nat) : (azt i)[j]? = if j < 256 then some (.bool (decide (97 <= j /\ j < 97 + i))) else none := by
 unfold azt;rw [List.getElem?_map]
 by_cases h : j < 256
 ·rw [if_pos h, List.getElem?_range h];rfl
 ·rw [if_neg h, List.getElem?_eq_none (by simpa using h)];rfl
theorem zpJ {i : Nat} (h : i < 26) : Zz.over (azt i) (97 + i) [.bool true] = some (azt (i + 1)) := by
 unfold Zz.over;rw [if_pos (by rw [zcy]; simp; omega)];refine congrArg some (List.ext_getElem? fun j => ?_)
 have hl : (List.take (97 + i) (azt i)).length = 97 + i := by rw [List.length_take, zcy]; omega
 have hd : ∀ p q : Prop, [Decidable p] -> [Decidable q] -> (p ↔ q) -> some (AV.bool (decide p)) = some (AV.bool (decide q)) := fun p q _ _ h => by
  rw [decide_eq_decide.2 h]
 rw [List.append_assoc, zh4]
 by_cases h1 : j < 97 + i
 ·rw [List.getElem?_append_left (by rw [hl]; exact h1), List.getElem?_take, if_pos h1, zh4, if_pos (by omega), if_pos (by omega)];exact hd _ _ (by omega)
 ·rw [List.getElem?_append_right (by rw [hl]; omega), hl]
  by_cases h2 : j = 97 + i
  ·subst h2;rw [Nat.sub_self, if_pos (by omega), List.singleton_append, List.getElem?_cons_zero];have : decide (97 <= 97 + i /\ 97 + i < 97 + (i + 1)) = true := decide_eq_true (by omega);rw [this]
  ·rw [List.getElem?_append_right (by simp; omega), List.length_singleton, List.getElem?_drop, show 97 + i + 1 + (j - (97 + i) - 1) = j by omega, zh4]
   split
   ·exact hd _ _ (by omega)
   ·rfl
theorem f66 : WF G0 (.func 66 [] []) [.str AZ] ⟨[], []⟩ fun y m' => y = .tuple [.agg (azt 26), .bool true] := by
 have hsz : AZ.size = 26 := rfl
 have h0 : ([.bool false, .bool false, .bool false, .bool false, .bool false, .bool false, .bool false, .bool false, .bool false, .bool false, .bool false, .bool false, .bool false, .bool false, .bool false, .bool false, .bool false, .bool false, .bool false, .bool false, .bool false, .bool false, .bool false, .bool false, .bool false, .bool false, .bool false, .bool false, .bool false, .bool false, .bool false, .bool false, .bool false, .bool false, .bool false, .bool false, .bool false, .bool false, .bool false, .bool false, .bool false, .bool false, .bool false, .bool false, .bool false, .bool false, .bool false, .bool false, .bool false, .bool false, .bool false, .bool false, .bool false, .bool false, .bool false, .bool false, .bool false, .bool false, .bool false, .bool false, .bool false, .bool false, .bool false, .bool false, .bool false, .bool false, .bool false, .bool false, .bool false, .bool false, .bool false, .bool false, .bool false, .bool false, .bool false, .bool false, .bool false, .bool false, .bool false, .bool false, .bool false, .bool false, .bool false, .bool false, .bool false, .bool false, .bool false, .bool false, .bool false, .bool false, .bool false, .bool false, .bool false, .bool false, .bool false, .bool false, .bool false, .bool false, .bool false, .bool false, .bool false, .bool false, .bool false, .bool false, .bool false, .bool false, .bool false, .bool false, .bool false, .bool false, .bool false, .bool false, .bool false, .bool false, .bool false, .bool false, .bool false, .bool false, .bool false, .bool false, .bool false, .bool false, .bool false, .bool false, .bool false, .bool false, .bool false, .bool false, .bool false, .bool false, .bool false, .bool false, .bool false, .bool false, .bool false, .bool false, .bool false, .bool false, .bool false, .bool false, .bool false, .bool false, .bool false, .bool false, .bool false, .bool false, .bool false, .bool false, .bool false, .bool false, .bool false, .bool false, .bool false, .bool false, .bool false, .bool false, .bool false, .bool false, .bool false, .bool false, .bool false, .bool false, .bool false, .bool false, .bool false, .bool false, .bool false, .bool false, .bool false, .bool false, .bool false, .bool false, .bool false, .bool false, .bool false, .bool false, .bool false, .bool false, .bool false, .bool false, .bool false, .bool false, .bool false, .bool false, .bool false, .bool false, .bool false, .bool false, .bool false, .bool false, .bool false, .bool false, .bool false, .bool false, .bool false, .bool false, .bool false, .bool false, .bool false, .bool false, .bool false, .bool false, .bool false, .bool false, .bool false, .bool false, .bool false, .bool false, .bool false, .bool false, .bool false, .bool false, .bool false, .bool false, .bool false, .bool false, .bool false, .bool false, .bool false, .bool false, .bool false, .bool false, .bool false, .bool false, .bool false, .bool false, .bool false, .bool false, .bool false, .bool false, .bool false, .bool false, .bool false, .bool false, .bool false, .bool false, .bool false, .bool false, .bool false, .bool false, .bool false, .bool false, .bool false, .bool false, .bool false, .bool false, .bool false, .bool false, .bool false, .bool false, .bool false, .bool false, .bool false, .bool false, .bool false, .bool false] : List AV) = azt 0 := by kernel_rfl
 refine zx0 rfl (zaz Tryd.func66 cir66) (by show 1 <= 21; decide) ?_;unfold ir66;simp only [zaw, List.replicate, zNA, zAN];rw [h0]
 repeat' (first |refine zE (by intro; simp (disch := omega) only [go_sem]; rfl) ?_ |refine zy1 ?_ |refine zy2 ?_ |refine zy3 ?_ |(simp only [fl1]) |refine zy5 ?_)
 refine zx9 (fun m st => ∃ T i, st = ⟨T, [some ⟨0, azt i⟩], []⟩ /\ T.length = 21 /\ gt T 0 = .str AZ /\ gt T 2 = .pref 0 0 0 /\ gt T 3 = .bool false /\ gt T 4 = .int .i64 (i : Nat) /\ m + i = 26) ?_ 26 _ ⟨_, 0, rfl, rfl, rfl, rfl, rfl, rfl, by omega⟩;rintro m _ ⟨T, i, rfl, hT, g0, g2, g3, g4, hml⟩;obtain ⟨f, rfl⟩ := exG hT;clear hT;change f 0 = _ at g0;change f 2 = _ at g2;change f 3 = _ at g3;change f 4 = _ at g4;simp only [tb, Nat.reduceAdd, g0, g2, g3, g4]
 by_cases hi : i < 26
 ·have hat := zln (s := AZ) (i := i) hi;rw [AZ_at hi] at hat
  have hix : idx (.int .u8 (97 + (i : Int))) 256 = some (97 + i) := by
   unfold idx;simp only;rw [if_pos (by omega)];exact congrArg some (by omega)
  have hov := zpJ hi
  repeat' (first |refine zE (by intro; simp (disch := omega) only [go_sem, List.map_cons, List.map_nil, zcP, hsz, hat, hix, Nat.mul_one]; rfl) ?_ |refine zx2 (by intro; simp (disch := omega) only [go_sem, Option.bind_eq_bind, hov, lc0, zat, List.set_cons_zero]; rfl) ?_ |refine zy1 ?_ |refine zy2 ?_ |refine zy3 ?_ |(simp only [fl1, zbr]) |refine zy6 ?_ |refine zy5 ?_ |refine zy4 rfl (fun hp => ?_) (fun hp => ?_) <;> try (exfalso; first | omega | contradiction))
  exact ⟨m - 1, by omega, _, i + 1, rfl, rfl, rfl, rfl, rfl, rfl, by omega⟩
 ·have hie : i = 26 := by omega
  subst hie
  have hcu : Zz.cut (azt 26) 0 256 = some (azt 26) := by
   unfold Zz.cut;rw [if_pos (by rw [zcy]; omega), List.drop_zero, List.take_of_length_le (by rw [zcy]; omega)]
  have hov : Zz.over (azt 26) 0 (azt 26) = some (azt 26) := by
   unfold Zz.over;rw [if_pos (by rw [zcy]; omega), List.take_zero, List.nil_append, Nat.zero_add, List.drop_eq_nil_of_le (Nat.le_refl _), List.append_nil]
  repeat' (first |refine zE (by intro; simp (disch := omega) only [go_sem, hsz, lc0, hcu]; rfl) ?_ |refine zx2 (by intro; simp (disch := omega) only [go_sem, Option.bind_eq_bind, hsz, lc0, hov, zcy, zat, List.set_cons_zero]; rfl) ?_ |refine zy1 ?_ |refine zy2 ?_ |refine zy3 ?_ |(simp only [fl1]) |refine zy9 rfl ?_ |refine zy8 ?_ |refine zy7 ?_)
  refine ⟨[.agg (azt 26), .bool true], ?_, rfl⟩;simp only [zbZ, gt2, gt3, lc0, hcu, Option.bind_some, za4, if_true, Option.map_some]
theorem s66 {m : Mem} : zar G0 66 [.str AZ] m = some (.tuple [.agg (azt 26), .bool true], m) :=
 zaB rfl (f66.mono fun y m' h => by rw [h]; exact (show resV m'.heap (.tuple [.agg (azt 26), .bool true]) = resV [] (.tuple [.agg (azt 26), .bool true]) by rfl).trans (by kernel_rfl))
noncomputable def C1 : Env := G0.put 66 (zar G0 66)
theorem C1_ok : EnvOk Tryd.prog C1 := Env.put_ok ziG (zax ziG (zaq Tryd.func66 (by kernel_rfl)))
noncomputable def C2 : Env := C1.put 14 (zar G0 14)
theorem C2_ok : EnvOk Tryd.prog C2 := Env.put_ok C1_ok (zax ziG (zaq Tryd.func14 (by kernel_rfl)))
set_option maxRecDepth 100000
set_option maxHeartbeats 8000000
theorem zh7 {s : ByteArray} {a b : Nat} (h1 : a <= b) (h2 : b <= s.size) : (s.extract a b).size = b - a := by
 rw [ByteArray.size_extract];omega
theorem zp6 {s : ByteArray} {a b i : Nat} (h1 : a <= b) (h2 : b <= s.size) (hi : i < b - a) : bt (s.extract a b) i = bt s (a + i) := by
 have e1 : i < (s.extract a b).size := by rw [zh7 h1 h2]; exact hi
 have e2 : a + i < s.size := by omega
 have g : ∀ {u : ByteArray} {j : Nat} (h : j < u.size), u.data.toList.getD j 0 = u[j] := fun {u j} h => by
  rw [List.getD_eq_getElem?_getD, List.getElem?_eq_getElem (by simpa using h)];rfl
 unfold bt;rw [g e1, g e2, ByteArray.getElem_extract]
theorem zse {n k : Nat} (h : k <= n) : zed n (some n) none (some (.int .i64 (k : Int))) none = some (0, k, some n) := by
 have e1 : (0 : Int) <= (k : Int) /\ (k : Int) <= n := by omega
 simp [zed, zfi, bnd, e1]
theorem ztV {n k : Nat} (h : k <= n) : zed n (some n) (some (.int .i64 (k : Int))) none none = some (k, n, some n) := by
 have e1 : (0 : Int) <= (k : Int) /\ (k : Int) <= n := by omega
 simp [zed, zfi, bnd, e1]
def Lt (c : Int) : Prop := 97 <= c /\ c < 123
instance (c : Int) : Decidable (Lt c) := inferInstanceAs (Decidable (_ /\ _))
theorem f71 {H : Hp} {L : List (Option ALoop)} {b : Nat} {c : Int} (hb : Zz.look H b 0 = some (azt 26)) (hc : 0 <= c /\ c < 256) : WF C2 (.func 71 [] []) [.pref b 0 0, .int .u8 c] ⟨H, L⟩ fun y m' => y = .bool (decide (Lt c)) /\ m' = ⟨H, L⟩ := by
 obtain ⟨k, rfl⟩ : ∃ k : Nat, c = k := ⟨c.toNat, by omega⟩
 have hix : idx (.int .u8 (k : Int)) 256 = some k := by
  unfold idx;simp only;rw [if_pos (by omega)];rfl
 have hg : (azt 26)[k]? = some (.bool (decide (Lt (k : Int)))) := by
  rw [zh4, if_pos (by omega)]
  have : decide (97 <= k /\ k < 97 + 26) = decide (Lt (k : Int)) := by
   rw [decide_eq_decide];unfold Lt;omega
  rw [this]
 refine zx0 rfl (zaz Tryd.func71 cir71) (by show 2 <= 10; decide) ?_;unfold ir71;simp only [zaw, List.replicate, zNA, zAN]
 repeat' (first |refine zE (by intro; simp (disch := omega) only [go_sem, hb, hix, hg, Nat.mul_one]; rfl) ?_ |refine zy1 ?_ |refine zy2 ?_ |refine zy3 ?_ |(simp only [fl1]) |refine zy7 ?_)
 exact ⟨_, rfl, rfl, rfl⟩
theorem f68 {H : Hp} {L : List (Option ALoop)} {b : Nat} {s : ByteArray} (hb : Zz.look H b 0 = some (azt 26)) (hs : s.size <= maxLen) : WF C2 (.func 68 [] []) [.str s, .pref b 0 0] ⟨H, L⟩ fun y m' => m' = ⟨H, L⟩ /\ ∃ u, y = .str u /\ u.size <= s.size /\ (∀ i < u.size, bt u i = bt s i) /\ (∀ j, u.size <= j -> j < s.size -> Lt (bt s j)) /\ (u.size = 0 \/ ¬ Lt (bt s (u.size - 1))) := by
 have hml : s.size <= 9223372036854775807 := hs;refine zx0 rfl (zaz Tryd.func68 cir68) (by show 2 <= 22; decide) ?_;unfold ir68;simp only [zaw, List.replicate, zNA, zAN]
 repeat' (first |refine zE (by intro; simp (disch := omega) only [go_sem]; rfl) ?_ |refine zy1 ?_ |refine zy2 ?_ |refine zy3 ?_ |refine zy5 ?_)
 refine zx9 (fun m st => ∃ T u, st = ⟨T, H, L⟩ /\ T.length = 22 /\ gt T 0 = .str u /\ gt T 1 = .pref b 0 0 /\ m = u.size /\ u.size <= s.size /\ (∀ i < u.size, bt u i = bt s i) /\ (∀ j, u.size <= j -> j < s.size -> Lt (bt s j))) ?_ s.size _ ⟨_, s, rfl, rfl, rfl, rfl, rfl, Nat.le_refl _, fun i _ => rfl, fun j h1 h2 => by omega⟩;rintro m _ ⟨T, u, rfl, hT, g0, g1, hm, h1, h2, h3⟩;obtain ⟨f, rfl⟩ := exG hT;clear hT;change f 0 = _ at g0;change f 1 = _ at g1;simp only [tb, Nat.reduceAdd, g0, g1]
 by_cases hi : 0 < u.size
 ·have hat := zln (s := u) (i := u.size - 1) (by omega);rw [show (((u.size - 1 : Nat)) : Int) = (u.size : Int) - 1 by omega] at hat;have hbb := zrz u (u.size - 1)
  have hsl : zb6 (.slice false true) [.str u, .int .i64 ((u.size : Int) - 1)] = some (.str (u.extract 0 (u.size - 1))) := by
   have := zse (n := u.size) (k := u.size - 1) (by omega);rw [show (((u.size - 1 : Nat)) : Int) = (u.size : Int) - 1 by omega] at this;simp only [zb6, zh8, this, Option.map_some]
  have hz1 : (u.extract 0 (u.size - 1)).size = u.size - 1 := (zh7 (by omega) (by omega)).trans (Nat.sub_zero _)
  have hz2 : ∀ i < u.size - 1, bt (u.extract 0 (u.size - 1)) i = bt s i := fun i hi => by
   rw [zp6 (by omega) (by omega) (by omega), Nat.zero_add];exact h2 i (by omega)
  have hub := h2 (u.size - 1) (by omega)
  repeat' (first |refine zE (by intro; simp (disch := omega) only [go_sem, List.map_cons, List.map_nil, zcP, hat]; rfl) ?_ |refine zy1 ?_ |refine zy2 ?_ |refine zy3 ?_ |(simp only [fl1]) |refine zy6 ?_ |refine zy5 ?_ |refine zy4 rfl (fun hp => ?_) (fun hp => ?_) <;> try (exfalso; first | omega | contradiction))
  refine WO.call rfl rfl ((f71 hb hbb).mono ?_);rintro y _ ⟨rfl, rfl⟩;simp only [pt8, pt6]
  repeat' (first |refine zE (by intro; simp (disch := omega) only [go_sem, List.map_cons, List.map_nil, zcP, hsl]; rfl) ?_ |refine zy1 ?_ |refine zy2 ?_ |refine zy3 ?_ |(simp only [fl1, fl4, zbr]) |refine zy6 ?_ |refine zy8 ?_ |refine zy7 ?_ |refine zy4 rfl (fun hp => ?_) (fun hp => ?_) <;> try (exfalso; first | omega | contradiction))
  ·exact ⟨_, rfl, rfl, u, rfl, h1, h2, h3, .inr (by rw [<- hub]; assumption)⟩
  ·refine ⟨u.size - 1, by omega, _, u.extract 0 (u.size - 1), rfl, rfl, rfl, rfl, hz1.symm, by omega, fun i hi => hz2 i (by omega), fun j hj1 hj2 => ?_⟩
   by_cases e : j = u.size - 1
   ·rw [e, <- hub];exact Decidable.not_not.1 (by assumption)
   ·exact h3 j (by omega) hj2
 ·have h0 : u.size = 0 := by omega
  repeat' (first |refine zE (by intro; simp (disch := omega) only [go_sem, List.map_cons, List.map_nil, zcP]; rfl) ?_ |refine zy1 ?_ |refine zy2 ?_ |refine zy3 ?_ |(simp only [fl1]) |refine zy8 ?_ |refine zy7 ?_ |refine zy4 rfl (fun hp => ?_) (fun hp => ?_) <;> try (exfalso; first | omega | contradiction))
  exact ⟨_, rfl, rfl, u, rfl, h1, h2, h3, .inl h0⟩
theorem f67 {H : Hp} {L : List (Option ALoop)} {b : Nat} {s : ByteArray} (hb : Zz.look H b 0 = some (azt 26)) (hs : s.size <= maxLen) : WF C2 (.func 67 [] []) [.str s, .pref b 0 0] ⟨H, L⟩ fun y m' => m' = ⟨H, L⟩ /\ ∃ u, y = .str u /\ (u.size = 0 ↔ ∀ i < s.size, Lt (bt s i)) := by
 have hml : s.size <= 9223372036854775807 := hs;refine zx0 rfl (zaz Tryd.func67 cir67) (by show 2 <= 16; decide) ?_;unfold ir67;simp only [zaw, List.replicate, zNA, zAN]
 repeat' (first |refine zE (by intro; simp (disch := omega) only [go_sem]; rfl) ?_ |refine zy1 ?_ |refine zy2 ?_ |refine zy3 ?_ |refine zy5 ?_)
 refine zx9 (fun m st => ∃ T u, st = ⟨T, H, L⟩ /\ T.length = 16 /\ gt T 0 = .str u /\ gt T 1 = .pref b 0 0 /\ m = u.size /\ u.size <= s.size /\ (∀ i < u.size, bt u i = bt s (s.size - u.size + i)) /\ (∀ j < s.size - u.size, Lt (bt s j))) ?_ s.size _ ⟨_, s, rfl, rfl, rfl, rfl, rfl, Nat.le_refl _, fun i _ => by rw [Nat.sub_self, Nat.zero_add], fun j h => by omega⟩;rintro m _ ⟨T, u, rfl, hT, g0, g1, hm, h1, h2, h3⟩;obtain ⟨f, rfl⟩ := exG hT;clear hT;change f 0 = _ at g0;change f 1 = _ at g1;simp only [tb, Nat.reduceAdd, g0, g1]
 by_cases hi : 0 < u.size
 ·have hat : zb6 .index [.str u, .int .i64 0] = _ := zln (s := u) (i := 0) hi;have hbb := zrz u 0
  have hsl : zb6 (.slice true false) [.str u, .int .i64 1] = some (.str (u.extract 1 u.size)) := by
   have := ztV (n := u.size) (k := 1) (by omega);simp only [zb6, zh8];rw [show (1 : Int) = ((1 : Nat) : Int) from rfl, this];rfl
  have hz1 : (u.extract 1 u.size).size = u.size - 1 := zh7 (by omega) (Nat.le_refl _)
  have hz2 : ∀ i < u.size - 1, bt (u.extract 1 u.size) i = bt s (s.size - (u.size - 1) + i) := fun i hi => by
   rw [zp6 (by omega) (Nat.le_refl _) hi, h2 (1 + i) (by omega)]
   congr 1
   omega
  have hub := h2 0 hi;rw [Nat.add_zero] at hub
  repeat' (first |refine zE (by intro; simp (disch := omega) only [go_sem, List.map_cons, List.map_nil, zcP, hat]; rfl) ?_ |refine zy1 ?_ |refine zy2 ?_ |refine zy3 ?_ |(simp only [fl1]) |refine zy6 ?_ |refine zy5 ?_ |refine zy4 rfl (fun hp => ?_) (fun hp => ?_) <;> try (exfalso; first | omega | contradiction))
  refine WO.call rfl rfl ((f71 hb hbb).mono ?_);rintro y _ ⟨rfl, rfl⟩;simp only [pt8, pt3]
  repeat' (first |refine zE (by intro; simp (disch := omega) only [go_sem, List.map_cons, List.map_nil, hsl]; rfl) ?_ |refine zy1 ?_ |refine zy2 ?_ |refine zy3 ?_ |(simp only [fl1, fl4, zbr]) |refine zy6 ?_ |refine zy8 ?_ |refine zy7 ?_ |refine zy4 rfl (fun hp => ?_) (fun hp => ?_) <;> try (exfalso; first | omega | contradiction))
  ·refine ⟨_, rfl, rfl, u, rfl, fun e => by omega, fun h => ?_⟩
   have hn : ¬ Lt (bt u 0) := by assumption
   exact absurd (hub ▸ h (s.size - u.size) (by omega)) hn
  ·refine ⟨u.size - 1, by omega, _, u.extract 1 u.size, rfl, rfl, rfl, rfl, hz1.symm, by omega, fun i hi => by rw [hz1]; exact hz2 i (by omega), fun j hj => ?_⟩
   by_cases e : j = s.size - u.size
   ·rw [e, <- hub];exact Decidable.not_not.1 (by assumption)
   ·exact h3 j (by omega)
 ·have h0 : u.size = 0 := by omega
  repeat' (first |refine zE (by intro; simp (disch := omega) only [go_sem, List.map_cons, List.map_nil, zcP]; rfl) ?_ |refine zy1 ?_ |refine zy2 ?_ |refine zy3 ?_ |(simp only [fl1]) |refine zy8 ?_ |refine zy7 ?_ |refine zy4 rfl (fun hp => ?_) (fun hp => ?_) <;> try (exfalso; first | omega | contradiction))
  exact ⟨_, rfl, rfl, u, rfl, fun _ i hi => h3 i (by omega), fun _ => h0⟩
set_option maxRecDepth 100000
set_option maxHeartbeats 8000000
def S0 : ByteArray := ⟨⟨[]⟩⟩
theorem zkl {s : ByteArray} : zb6 (.eql false) [.str s, .str S0] = some (.bool (decide (s.size = 0))) := by
 have h : (s.toList == S0.toList) = decide (s.size = 0) := by
  rw [Bool.eq_iff_iff];simp only [beq_iff_eq, decide_eq_true_eq, ByteArray.toList_eq];have e : S0.data.toList = [] := rfl;rw [e]
  constructor
  ·intro h;have := congrArg List.length h;simpa using this
  ·intro h;apply List.eq_nil_of_length_eq_zero;simpa using h
 simp only [zb6, Bool.false_eq_true, if_false, h]
theorem f62 {s : ByteArray} (hs : s.size <= maxLen) (h0 : 1 <= s.size) : WF C2 (.func 62 [] []) [.str s, .str AZ] ⟨[], []⟩ fun y m' => ∃ u, y = .str u /\ (u.size = 0 ↔ ∀ i < s.size, Lt (bt s i)) := by
 have hsz : AZ.size = 26 := rfl;have e1 := zkl (s := s);have e2 := zkl (s := AZ)
 have hf : ([.bool false, .bool false, .bool false, .bool false, .bool false, .bool false, .bool false, .bool false, .bool false, .bool false, .bool false, .bool false, .bool false, .bool false, .bool false, .bool false, .bool false, .bool false, .bool false, .bool false, .bool false, .bool false, .bool false, .bool false, .bool false, .bool false, .bool false, .bool false, .bool false, .bool false, .bool false, .bool false, .bool false, .bool false, .bool false, .bool false, .bool false, .bool false, .bool false, .bool false, .bool false, .bool false, .bool false, .bool false, .bool false, .bool false, .bool false, .bool false, .bool false, .bool false, .bool false, .bool false, .bool false, .bool false, .bool false, .bool false, .bool false, .bool false, .bool false, .bool false, .bool false, .bool false, .bool false, .bool false, .bool false, .bool false, .bool false, .bool false, .bool false, .bool false, .bool false, .bool false, .bool false, .bool false, .bool false, .bool false, .bool false, .bool false, .bool false, .bool false, .bool false, .bool false, .bool false, .bool false, .bool false, .bool false, .bool false, .bool false, .bool false, .bool false, .bool false, .bool false, .bool false, .bool false, .bool false, .bool false, .bool false, .bool false, .bool false, .bool false, .bool false, .bool false, .bool false, .bool false, .bool false, .bool false, .bool false, .bool false, .bool false, .bool false, .bool false, .bool false, .bool false, .bool false, .bool false, .bool false, .bool false, .bool false, .bool false, .bool false, .bool false, .bool false, .bool false, .bool false, .bool false, .bool false, .bool false, .bool false, .bool false, .bool false, .bool false, .bool false, .bool false, .bool false, .bool false, .bool false, .bool false, .bool false, .bool false, .bool false, .bool false, .bool false, .bool false, .bool false, .bool false, .bool false, .bool false, .bool false, .bool false, .bool false, .bool false, .bool false, .bool false, .bool false, .bool false, .bool false, .bool false, .bool false, .bool false, .bool false, .bool false, .bool false, .bool false, .bool false, .bool false, .bool false, .bool false, .bool false, .bool false, .bool false, .bool false, .bool false, .bool false, .bool false, .bool false, .bool false, .bool false, .bool false, .bool false, .bool false, .bool false, .bool false, .bool false, .bool false, .bool false, .bool false, .bool false, .bool false, .bool false, .bool false, .bool false, .bool false, .bool false, .bool false, .bool false, .bool false, .bool false, .bool false, .bool false, .bool false, .bool false, .bool false, .bool false, .bool false, .bool false, .bool false, .bool false, .bool false, .bool false, .bool false, .bool false, .bool false, .bool false, .bool false, .bool false, .bool false, .bool false, .bool false, .bool false, .bool false, .bool false, .bool false, .bool false, .bool false, .bool false, .bool false, .bool false, .bool false, .bool false, .bool false, .bool false, .bool false, .bool false, .bool false, .bool false, .bool false, .bool false, .bool false, .bool false, .bool false, .bool false, .bool false, .bool false, .bool false, .bool false, .bool false, .bool false, .bool false, .bool false, .bool false, .bool false, .bool false, .bool false, .bool false, .bool false, .bool false] : List AV) = azt 0 := by kernel_rfl
 have hov : Zz.over (azt 0) 0 (azt 26) = some (azt 26) := by
  unfold Zz.over;rw [if_pos (by rw [zcy, zcy]; omega), List.take_zero, List.nil_append, Nat.zero_add, List.drop_eq_nil_of_le (by rw [zcy, zcy]; omega), List.append_nil]
 refine zx0 rfl (zaz Tryd.func62 cir62) (by show 2 <= 43; decide) ?_;unfold ir62;simp only [zaw, List.replicate, zNA, zAN];rw [hf];simp only [show (⟨⟨[]⟩⟩ : ByteArray) = S0 from rfl]
 repeat' (first |refine zx1 rfl ?_ |refine zN rfl ?_ |refine zE (by intro; simp (disch := omega) only [go_sem, reduceCtorEq, List.map_cons, List.map_nil, zcP, e1, e2, hsz]; rfl) ?_ |refine zx2 (by intro; simp (disch := omega) only [go_sem, Option.bind_eq_bind, zcy, lc0, hov, zat, List.set_cons_zero]; rfl) ?_ |refine zS rfl rfl (s66) ?_ |refine zy1 ?_ |refine zy2 ?_ |refine zy3 ?_ |(simp only [fl1]) |refine zy0 rfl ?_ |refine zy9 rfl ?_ |refine zy6 ?_ |refine zx7 rfl (by intro hp; simp only [hp, decide_true]; rfl) (by intro hp; simp only [hp, decide_false]; rfl) (fun hp => ?_) (fun hp => ?_) <;> try (exfalso; first | omega | contradiction))
 refine WO.call rfl rfl ((f68 lc0 hs).mono ?_);rintro y _ ⟨rfl, v, rfl, v1, v2, v3, v4⟩;simp only [pt8, pt4];refine WO.call rfl rfl ((f67 lc0 (Nat.le_trans v1 hs)).mono ?_);rintro y _ ⟨rfl, u, rfl, hu⟩;simp only [pt8, pt5]
 repeat' (first |refine zE (by intro; simp (disch := omega) only [go_sem]; rfl) ?_ |refine zy3 ?_ |(simp only [fl2]) |refine zy7 ?_)
 refine ⟨_, rfl, u, rfl, hu.trans ⟨fun h i hi => ?_, fun h i hi => ?_⟩⟩
 ·by_cases e : i < v.size
  ·rw [<- v2 i e]; exact h i e
  ·exact v3 i (by omega) hi
 ·rw [v2 i hi]; exact h i (by omega)
theorem f52 {s : ByteArray} (hs : s.size <= maxLen) : WF C2 (.func 52 [] []) [.str s] ⟨[], []⟩ fun y m' => y = .bool (decide (zbF s)) := by
 have hml : s.size <= 9223372036854775807 := hs
 by_cases h1 : 1 <= s.size /\ s.size <= 16
 ·obtain ⟨a1, a2⟩ := h1;refine zx0 rfl (zaz Tryd.func52 zta) (by show 1 <= 16; decide) ?_;unfold ir52;simp only [zaw, List.replicate, zNA, zAN]
  repeat' (first |refine zx1 rfl ?_ |refine zE (by intro; simp (disch := omega) only [go_sem, List.map_cons, List.map_nil, zcP]; rfl) ?_ |refine zy1 ?_ |refine zy2 ?_ |refine zy3 ?_ |(simp only [fl1]) |refine zx7 rfl (by intro hp; simp only [hp, decide_true]; rfl) (by intro hp; simp only [hp, decide_false]; rfl) (fun hp => ?_) (fun hp => ?_) <;> try (exfalso; first | omega | contradiction))
  refine WO.call rfl rfl ((f62 hs a1).mono ?_);rintro y m' ⟨u, rfl, hu⟩;have e1 : zb6 (.eql false) [.str u, .str ⟨⟨[]⟩⟩] = some (.bool (decide (u.size = 0))) := zkl;simp only [pt8, pt5]
  repeat' (first |refine zx1 rfl ?_ |refine zE (by intro; simp (disch := omega) only [go_sem, List.map_cons, List.map_nil, e1]; rfl) ?_ |refine zy3 ?_ |refine zy7 ?_)
  have hd : decide (zbF s) = decide (u.size = 0) := by
   rw [decide_eq_decide, hu]
   constructor
   ·intro h i hi;have := h.2.2 i hi;exact ⟨this.1, by omega⟩
   ·intro h;exact ⟨a1, a2, fun i hi => by have := h i hi; exact ⟨this.1, by have := this.2; omega⟩⟩
  rw [hd];exact ⟨_, rfl, rfl⟩
 ·have hd : decide (zbF s) = false := decide_eq_false fun h => h1 ⟨h.1, h.2.1⟩
  rw [hd];refine zx0 rfl (zaz Tryd.func52 zta) (by show 1 <= 16; decide) ?_;unfold ir52;simp only [zaw, List.replicate, zNA, zAN]
  repeat' (first |refine zx1 rfl ?_ |refine zN rfl ?_ |refine zE (by intro; simp (disch := omega) only [go_sem, List.map_cons, List.map_nil, zcP]; rfl) ?_ |refine zy1 ?_ |refine zy2 ?_ |refine zy3 ?_ |(simp only [fl1]) |refine zy7 ?_ |refine zx7 rfl (by intro hp; simp only [hp, decide_true]; rfl) (by intro hp; simp only [hp, decide_false]; rfl) (fun hp => ?_) (fun hp => ?_) <;> try (exfalso; first | omega | contradiction))
  all_goals first
   | (exfalso; exact h1 ⟨by omega, by omega⟩)
   | exact ⟨_, rfl, rfl⟩
theorem s52 {s : ByteArray} (hs : s.size <= maxLen) {m : Mem} : zar C2 52 [.str s] m = some (.bool (decide (zbF s)), m) :=
 zaB rfl ((f52 hs).mono fun y m' h => by rw [h]; rfl)
noncomputable def C3 : Env := C2.put 52 (zar C2 52)
structure Nm where
 s : ByteArray
 v : List Int
 deriving Inhabited
def Nm.cells (c : Nm) : List AV := .str c.s :: c.v.map (.int .i64)
def NmW (c : Nm) : Prop := c.s.size <= maxLen /\ c.v.length = 6
def NmL (x : AV) (cs : List Nm) : Prop := (∀ c ∈ cs, NmW c) /\ SL 7 x (cs.map Nm.cells)
def zbR (cs : List Nm) (i : Nat) : Nm := cs.getD i default
def zss (cs : List Nm) (i : Nat) : List AV := ((cs.map Nm.cells).drop (i + 1)).flatten
theorem NmL.len {x : AV} {cs : List Nm} (h : NmL x cs) : zcH x = some cs.length := by
 have := SL.len h.2
 rwa [List.length_map] at this
theorem NmL.at {x : AV} {cs : List Nm} (h : NmL x cs) {i : Nat} (hi : i < cs.length) : NmW (zbR cs i) /\ zaj 7 x (.int .i64 (i : Int)) = some (.pval (.str (zbR cs i).s :: ((zbR cs i).v.map (.int .i64) ++ zss cs i))) := by
 have e : zbR cs i = cs[i] := by simp [zbR, hi]
 have := SL.at h.2 (i := i) (by simpa using hi);rw [e];refine ⟨h.1 _ (List.getElem_mem hi), ?_⟩;simpa [Nm.cells, zss] using this
theorem Nm.flat (cs : List Nm) : ∀ c ∈ cs.map Nm.cells, c.all za9 = true := by
 intro c hc;obtain ⟨p, _, rfl⟩ := List.mem_map.1 hc;simp [Nm.cells, za9]
set_option maxRecDepth 100000
set_option maxHeartbeats 8000000
noncomputable def D1 : Env := T23.put 14 (zar G0 14)
theorem D1_ok : EnvOk Tryd.prog D1 := Env.put_ok zsl (zax ziG (zaq Tryd.func14 (by kernel_rfl)))
noncomputable def D2 : Env := D1.put 52 (zar C2 52)
theorem zst : EnvOk Tryd.prog D2 := Env.put_ok D1_ok (zax C2_ok (zaq Tryd.func52 (by kernel_rfl)))
theorem f15 {r : List Int} (h6 : r.length = 6) : WF D2 (.func 15 [] []) [.agg (zaa r)] ⟨[], []⟩ fun y m' => y = .bool (decide (okB 48 r)) := by
 refine zx0 rfl (zaz Tryd.func15 cir15) (by show 1 <= 18; decide) ?_;unfold ir15;simp only [zaw, List.replicate, zNA, zAN]
 repeat' (first |refine zE (by intro; simp (disch := omega) only [go_sem]; rfl) ?_ |refine zy1 ?_ |refine zy2 ?_ |refine zy3 ?_ |(simp only [fl1]) |refine zy5 ?_)
 refine zx9 (fun m st => ∃ T i, st = ⟨T, [some ⟨0, zaa r⟩], []⟩ /\ T.length = 18 /\ gt T 0 = .agg (zaa r) /\ gt T 1 = .pref 0 0 0 /\ gt T 2 = .bool false /\ gt T 3 = .int .i64 (i : Nat) /\ m + i = 6 /\ ∀ j < i, -48 <= r.getD j 0 /\ r.getD j 0 <= 48) ?_ 6 _ ⟨_, 0, rfl, rfl, rfl, rfl, rfl, rfl, by omega, by omega⟩;rintro m _ ⟨T, i, rfl, hT, g0, g1, g2, g3, hml, hok⟩;obtain ⟨f, rfl⟩ := exG hT;clear hT;change f 0 = _ at g0;change f 1 = _ at g1;change f 2 = _ at g2;change f 3 = _ at g3;simp only [tb, Nat.reduceAdd, g0, g1, g2, g3]
 by_cases hi : i < 6
 ·have hat := zaK (r := r) (j := i) (by omega)
  have hno : ¬ (-48 <= r.getD i 0 /\ r.getD i 0 <= 48) -> decide (okB 48 r) = false := fun h => decide_eq_false fun hn => h (hn i hi)
  have hnx : -48 <= r.getD i 0 /\ r.getD i 0 <= 48 -> ∀ j < i + 1, -48 <= r.getD j 0 /\ r.getD j 0 <= 48 := fun h j hj => by
   by_cases e : j = i
   ·rw [e]; exact h
   ·exact hok j (by omega)
  have hix : idx (.int .i64 (i : Int)) 6 = some i := zbb hi;generalize r.getD i 0 = b at *
  repeat' (first |refine zx1 rfl ?_ |refine zN rfl ?_ |refine zE (by intro; simp (disch := omega) only [go_sem, Int.reduceNeg, Int.reduceAdd, hat, hix, lc0, Nat.mul_one]; rfl) ?_ |refine zy1 ?_ |refine zy2 ?_ |refine zy3 ?_ |(simp only [fl1, fl2, fl5, fl8, zbr]) |refine zy0 rfl ?_ |refine zy6 ?_ |refine zy7 ?_ |refine zy5 ?_ |refine zx7 rfl (by intro hp; simp only [hp, decide_true]; rfl) (by intro hp; simp only [hp, decide_false]; rfl) (fun hp => ?_) (fun hp => ?_) <;> try (exfalso; first | omega | contradiction) |refine zy4 rfl (fun hp => ?_) (fun hp => ?_) <;> try (exfalso; first | omega | contradiction))
  all_goals first
   | exact ⟨m - 1, by omega, _, i + 1, rfl, rfl, rfl, rfl, rfl, rfl, by omega, hnx ⟨by omega, by omega⟩⟩
   | (rw [hno (by omega)]; exact ⟨_, rfl, rfl⟩)
 ·have hie : i = 6 := by omega
  have hd : decide (okB 48 r) = true := decide_eq_true fun j hj => hok j (by omega)
  rw [hd]
  repeat' (first |refine zE (by intro; simp (disch := omega) only [go_sem]; rfl) ?_ |refine zy1 ?_ |refine zy2 ?_ |refine zy3 ?_ |(simp only [fl1]) |refine zy8 ?_ |refine zy7 ?_ |refine zy4 rfl (fun hp => ?_) (fun hp => ?_) <;> try (exfalso; first | omega | contradiction))
  exact ⟨_, rfl, rfl⟩
theorem s15 {r : List Int} (h6 : r.length = 6) {m : Mem} : zar D2 15 [.agg (zaa r)] m = some (.bool (decide (okB 48 r)), m) :=
 zaB (za1 (zjj r) rfl) ((f15 h6).mono fun y m' h => by rw [h]; rfl)
noncomputable def D3 : Env := D2.put 15 (zar D2 15)
theorem zsd : EnvOk Tryd.prog D3 := Env.put_ok zst (zax zst (zaq Tryd.func15 (by kernel_rfl)))
set_option maxRecDepth 100000
set_option maxHeartbeats 8000000
def zhp (cs : List Nm) : Nat -> List AV
 | 0 => []
 | i + 1 => zff (.str (zbR cs i).s) (.int .i64 (i : Int)) (zhp cs i)
theorem zhX {kd : KK} {n v : AV} (hn : kd.of n = true) : ∀ {es : List AV}, zc2 kd es = true -> zc2 kd (zff n v es) = true
 | [], _ => by simp [zff, zc2, hn]
 | [a], h => by simp [zc2] at h
 | a :: b :: r, h => by
  simp only [zc2, Bool.and_eq_true] at h;unfold zff
  split
  ·simp [zc2, h.1, h.2]
  ·simp [zc2, h.1, zhX hn h.2]
theorem zgB (cs : List Nm) : ∀ i, zc2 .str (zhp cs i) = true
 | 0 => rfl
 | i + 1 => zhX rfl (zgB cs i)
theorem f51 {E : Env} (hE : E.spec 51 = none) (hF : E.fn 51 = some ir51) {H : Hp} {L : List (Option ALoop)} {z : AV} {cs : List Nm} (hz : NmL z cs) (hn : cs.length <= 1000) : WF E (.func 51 [] []) [z] ⟨H, L⟩ fun y m' => y = .mref L.length /\ ∃ X, m' = ⟨H ++ X, L ++ [some (zb3 (zhp cs cs.length))]⟩ := by
 refine zx0 hE hF (by show 1 <= 20; decide) ?_;unfold ir51;simp only [zaw, List.replicate, zNA, zAN]
 repeat' (first |refine zE (by intro; simp (disch := omega) only [go_sem]; rfl) ?_ |refine zE (by intro; exact zaf (by simp only [go_sem]; exact hz.len)) ?_ |refine zy1 ?_ |refine zy2 ?_ |refine zy3 ?_ |(simp only [fl1]) |refine zy5 ?_)
 refine zx9 (fun m st => ∃ T i X, st = ⟨T, H ++ X, L ++ [some (zb3 (zhp cs i))]⟩ /\ T.length = 20 /\ gt T 3 = .mref L.length /\ gt T 7 = z /\ gt T 8 = .int .i64 (cs.length : Nat) /\ gt T 9 = .int .i64 (i : Nat) /\ m + i = cs.length) ?_ cs.length _ ⟨_, 0, [], by rw [List.append_nil]; rfl, rfl, rfl, rfl, rfl, rfl, by omega⟩;rintro m _ ⟨T, i, X, rfl, hT, g3, g7, g8, g9, hml⟩;obtain ⟨f, rfl⟩ := exG hT;clear hT;change f 3 = _ at g3;change f 7 = _ at g7;change f 8 = _ at g8;change f 9 = _ at g9;simp only [tb, Nat.reduceAdd, g3, g7, g8, g9]
 by_cases hi : i < cs.length
 ·obtain ⟨⟨hw1, hw2⟩, hat⟩ := hz.at hi;have hnx : zhp cs (i + 1) = zff (.str (zbR cs i).s) (.int .i64 (i : Int)) (zhp cs i) := rfl;have hmk := zgB cs i;generalize zbR cs i = c at *
  have hm : (L ++ [some (zb3 (zhp cs i))])[L.length]? = some (some (zb3 (zhp cs i))) := by simp
  have hset : ∀ y : Option ALoop, (L ++ [some (zb3 (zhp cs i))]).set L.length y = L ++ [y] := fun y => by simp
  obtain ⟨n, v⟩ := c;simp only at hw1 hw2 hat hnx
  obtain ⟨v0, v1, v2, v3, v4, v5, rfl⟩ : ∃ v0 v1 v2 v3 v4 v5, v = [v0, v1, v2, v3, v4, v5] := by
   match v, hw2 with
   | [a, b, c, d, e, g], _ => exact ⟨a, b, c, d, e, g, rfl⟩
  simp only [List.map_cons, List.map_nil, zCA, zNA] at hat
  have hcut : ∀ {x0 x1 x2 x3 x4 x5 x6 : AV} {l : List AV}, Zz.cut (x0 :: x1 :: x2 :: x3 :: x4 :: x5 :: x6 :: l) 0 7 = some [x0, x1, x2, x3, x4, x5, x6] := fun {x0 x1 x2 x3 x4 x5 x6 l} => by simp [Zz.cut]
  have hover : ∀ {y0 y1 y2 y3 y4 y5 y6 x0 x1 x2 x3 x4 x5 x6 : AV}, Zz.over [y0, y1, y2, y3, y4, y5, y6] 0 [x0, x1, x2, x3, x4, x5, x6] = some [x0, x1, x2, x3, x4, x5, x6] := fun {_ _ _ _ _ _ _ _ _ _ _ _ _ _} => by simp [Zz.over]
  generalize hA : H ++ X = A at *
  repeat' (first |refine zE (by intro; simp (disch := omega) only [go_sem, hat, hcut, lk0]; rfl) ?_ |refine zx2 (by intro; simp (disch := omega) only [go_sem, Option.bind_eq_bind, Nat.reduceAdd, hover, lk0, st0, zat]; rfl) ?_ |refine zx2 (by intro; refine Eq.trans (zoq rfl rfl rfl hm hmk) ?_; simp only [hset]; rfl) ?_ |refine zy1 ?_ |refine zy2 ?_ |refine zy3 ?_ |(simp only [zbr]) |refine zy6 ?_ |refine zy5 ?_ |refine zy4 rfl (fun hp => ?_) (fun hp => ?_) <;> try (exfalso; first | omega | contradiction))
  exact ⟨m - 1, by omega, _, i + 1, X ++ [_], by rw [<- List.append_assoc, hA, hnx], rfl, rfl, rfl, rfl, rfl, by omega⟩
 ·have hie : i = cs.length := by omega
  subst hie
  repeat' (first |refine zE (by intro; simp (disch := omega) only [go_sem]; rfl) ?_ |refine zy1 ?_ |refine zy2 ?_ |refine zy3 ?_ |(simp only [fl1]) |refine zy8 ?_ |refine zy7 ?_ |refine zy4 rfl (fun hp => ?_) (fun hp => ?_) <;> try (exfalso; first | omega | contradiction))
  exact ⟨_, rfl, rfl, X, rfl⟩
def mkk : List AV -> List AV
 | a :: _ :: r => a :: mkk r
 | _ => []
theorem zk8 {n v : AV} : ∀ {es : List AV}, zc2 .str es = true -> (∃ s, n = .str s) -> (n ∈ mkk es -> (zff n v es).length = es.length /\ mkk (zff n v es) = mkk es) /\ (n ∉ mkk es -> (zff n v es).length = es.length + 2 /\ mkk (zff n v es) = mkk es ++ [n])
 | [], _, _ => ⟨fun h => by simp [mkk] at h, fun _ => ⟨rfl, rfl⟩⟩
 | [a], h, _ => by simp [zc2] at h
 | a :: b :: r, h, ⟨s, hs⟩ => by
  subst hs;simp only [zc2, Bool.and_eq_true] at h
  obtain ⟨t, rfl⟩ : ∃ t, a = .str t := by
   cases a <;> simp [KK.of] at h
   exact ⟨_, rfl⟩
  obtain ⟨ih1, ih2⟩ := zk8 (n := .str s) (v := v) h.2 ⟨s, rfl⟩
  by_cases e : s = t
  ·subst e
   have hm : zff (.str s) v (.str s :: b :: r) = .str s :: v :: r := by simp [zff, zg4]
   rw [hm];exact ⟨fun _ => ⟨rfl, rfl⟩, fun h => by simp [mkk] at h⟩
  ·have hm : zff (.str s) v (.str t :: b :: r) = .str t :: b :: zff (.str s) v r := by simp [zff, zg4, e]
   rw [hm];refine ⟨fun h => ?_, fun h => ?_⟩
   ·have hr : AV.str s ∈ mkk r := by
     simp only [mkk, List.mem_cons, AV.str.injEq] at h
     rcases h with h | h
     ·exact absurd h e
     ·exact h
    obtain ⟨g1, g2⟩ := ih1 hr;exact ⟨by simp [g1], by simp [mkk, g2]⟩
   ·have hr : AV.str s ∉ mkk r := fun hh => h (by simp [mkk, hh])
    obtain ⟨g1, g2⟩ := ih2 hr;exact ⟨by simp [g1], by simp [mkk, g2]⟩
def zrW (cs : List Nm) (i : Nat) : Prop := ∀ j < i, ∀ k < j, (zbR cs k).s ≠ (zbR cs j).s
theorem zly (cs : List Nm) : ∀ i, (zhp cs i).length <= 2 * i /\ (∀ s, .str s ∈ mkk (zhp cs i) ↔ ∃ k < i, (zbR cs k).s = s) /\ ((zhp cs i).length = 2 * i ↔ zrW cs i)
 | 0 => ⟨Nat.le_refl _, fun s => ⟨fun h => by simp [zhp, mkk] at h, fun ⟨k, h, _⟩ => by omega⟩, ⟨fun _ j hj => by omega, fun _ => rfl⟩⟩
 | i + 1 => by
  obtain ⟨h1, h2, h3⟩ := zly cs i;obtain ⟨g1, g2⟩ := zk8 (n := .str (zbR cs i).s) (v := .int .i64 (i : Int)) (zgB cs i) ⟨_, rfl⟩;have e : zhp cs (i + 1) = zff (.str (zbR cs i).s) (.int .i64 (i : Int)) (zhp cs i) := rfl;rw [e]
  by_cases hm : AV.str (zbR cs i).s ∈ mkk (zhp cs i)
  ·obtain ⟨a1, a2⟩ := g1 hm;obtain ⟨k, hk, hks⟩ := (h2 _).1 hm;refine ⟨by omega, fun s => ?_, ⟨fun h => by omega, fun h => absurd hks (h i (by omega) k hk)⟩⟩;rw [a2, h2]
   constructor
   ·rintro ⟨q, hq, hs⟩; exact ⟨q, by omega, hs⟩
   ·rintro ⟨q, hq, hs⟩
    by_cases eq : q = i
    ·subst eq; exact ⟨k, hk, hks.trans hs⟩
    ·exact ⟨q, by omega, hs⟩
  ·obtain ⟨a1, a2⟩ := g2 hm;refine ⟨by omega, fun s => ?_, ⟨fun h j hj k hk => ?_, fun h => ?_⟩⟩
   ·rw [a2, List.mem_append, h2, List.mem_singleton, AV.str.injEq]
    constructor
    ·rintro (⟨q, hq, hs⟩ | hs)
     ·exact ⟨q, by omega, hs⟩
     ·exact ⟨i, by omega, hs.symm⟩
    ·rintro ⟨q, hq, hs⟩
     by_cases eq : q = i
     ·subst eq; exact .inr hs.symm
     ·exact .inl ⟨q, by omega, hs⟩
   ·by_cases ej : j = i
    ·subst ej
     exact fun hs => hm ((h2 _).2 ⟨k, hk, hs⟩)
    ·exact (h3.1 (by omega)) j (by omega) k hk
   ·have := h3.2 fun j hj k hk => h j (by omega) k hk
    omega
end Go.Proofs.YtgchabldcnmccabDoor


namespace Go.Proofs.YtgchabldcnmccabDoor
open Go.Zz
def SlH (H : Hp) (z : AV) (k : Nat) (l : List AV) (len : Nat) : Prop := l.length = len * k /\ (z = .snil /\ len = 0 \/ 0 < len /\ ∃ id g, z = .sref id g 0 k len none /\ Zz.look H id g = some l)
def inB (z : AV) (j : Nat) : Prop := match z with | .sref id _ _ _ _ _ => id = j | _ => False
theorem SlH.keep {H H' : Hp} {z : AV} {k len : Nat} {l : List AV} (h : SlH H z k l len) (hk : ∀ j, inB z j -> H'[j]? = H[j]?) : SlH H' z k l len := by
 obtain ⟨h1, ⟨rfl, h2⟩ | ⟨h2, id, g, rfl, h3⟩⟩ := h
 ·exact ⟨h1, .inl ⟨rfl, h2⟩⟩
 ·exact ⟨h1, .inr ⟨h2, id, g, rfl, by rw [zad (hk id rfl)]; exact h3⟩⟩
theorem SlH.push {H : Hp} {L : List (Option ALoop)} {z : AV} {k len bytes q : Nat} {l c : List AV} {cap : Option Nat} (h : SlH H z k l len) (hk : 0 < k) (hq : Zz.look H q 0 = some c) (hc : c.length = k) (hb : (len + 1) * bytes <= 140737488355328 /\ len + 1 <= 140737488355328) :
  ∃ z' H', zaH k bytes ⟨H, L⟩ z (.sref q 0 0 k 1 cap) = some (z', ⟨H', L⟩) /\ SlH H' z' k (l ++ c) (len + 1) /\ (∀ j, ¬ inB z j -> j < H.length -> H'[j]? = H[j]?) /\ (∀ j, inB z' j -> inB z j \/ j = H.length) /\ zak H H' = true := by
 have hcut : Zz.cut c 0 (1 * k) = some c := by
  unfold Zz.cut;rw [if_pos (by omega)];simp [<- hc]
 have hsc : scells H k (.sref q 0 0 k 1 cap) = some c := by simp only [scells, if_true, hq, Option.bind_some, hcut]
 obtain ⟨h1, ⟨rfl, rfl⟩ | ⟨h2, id, g, rfl, h3⟩⟩ := h
 ·have hl : l = [] := List.eq_nil_of_length_eq_zero (by omega);subst hl;refine ⟨.sref H.length 0 0 k 1 none, H ++ [some ⟨0, c⟩], ?_, ?_, ?_, ?_, zcK _ _⟩
  ·simp only [zaH, hsc, zcH, Option.bind_eq_bind, Option.bind_some, zaM];rw [if_neg (by omega), if_pos (by omega)]
  ·exact ⟨by simp [hc], .inr ⟨by omega, H.length, 0, rfl, by simp [Zz.look]⟩⟩
  ·intro j _ hj; exact List.getElem?_append_left hj
  ·intro j hj; exact .inr hj.symm
 ·have hold : Zz.cut l 0 (len * k) = some l := by
   unfold Zz.cut;rw [if_pos (by omega)];simp [<- h1]
  refine ⟨.sref id (g + 1) 0 k (len + 1) none, zat H id (g + 1) (l ++ c), ?_, ?_, ?_, ?_, ?_⟩
  ·simp only [zaH, hsc, zcH, Option.bind_eq_bind, Option.bind_some, if_true, h3, hold];rw [if_neg (by rw [Nat.add_mul]; omega), if_pos hb]
  ·exact ⟨by simp [hc, h1, Nat.add_mul], .inr ⟨by omega, id, g + 1, rfl, zaJ (zah h3)⟩⟩
  ·intro j hj _; exact List.getElem?_set_ne hj
  ·intro j hj; exact .inl hj
  ·have := zdN (b := ⟨g + 1, l ++ c⟩) (zaC.1 h3) [];simpa [zat] using this
theorem zkK {H : Hp} {z : AV} {k len : Nat} {l : List AV} (h : SlH H z k l len) {j : Nat} (hj : inB z j) : j < H.length := by
 obtain ⟨_, ⟨rfl, _⟩ | ⟨_, id, g, rfl, h3⟩⟩ := h
 ·exact hj.elim
 ·have : id = j := hj;subst this;exact zah h3
theorem SlH.cells {H : Hp} {z : AV} {k len : Nat} {l : List AV} (h : SlH H z k l len) : z.cells = some [z] := by
 obtain ⟨_, ⟨rfl, _⟩ | ⟨_, id, g, rfl, h3⟩⟩ := h <;> rfl
def slV (l : List AV) (len : Nat) : AV := if len = 0 then .snil else .sval false len l
theorem SlH.res {H H' : Hp} {z : AV} {k len : Nat} {l : List AV} (h : SlH H z k l len) (hf : l.all za9 = true) (hk : ∀ j, inB z j -> H'[j]? = H[j]?) : resC H' z = some (slV l len) := by
 obtain ⟨h1, ⟨rfl, rfl⟩ | ⟨h2, id, g, rfl, h3⟩⟩ := h
 ·rfl
 ·have e : Zz.look H' id g = some l := by rw [zad (hk id rfl)]; exact h3
  have e2 : Zz.cut l 0 (len * k) = some l := by
   unfold Zz.cut;rw [if_pos (by omega)];simp [<- h1]
  simp only [resC, e, e2, hf, if_true, slV];rw [if_neg (by omega)];rfl
theorem WO.appendSl {Γ : Env} {r : List IOper} {T : List AV} {H : Hp} {L : List (Option ALoop)} {Q : St -> Prop} {d k bytes q len : Nat} {sx x : Opd} {z : AV} {l c : List AV} {cap : Option Nat} (hs : sx.ev T = z) (hx : x.ev T = .sref q 0 0 k 1 cap)
  (h : SlH H z k l len) (hk : 0 < k) (hq : Zz.look H q 0 = some c) (hc : c.length = k) (hb : (len + 1) * bytes <= 140737488355328 /\ len + 1 <= 140737488355328)
  (K : ∀ z' H', SlH H' z' k (l ++ c) (len + 1) -> (∀ j, ¬ inB z j -> j < H.length -> H'[j]? = H[j]?) -> (∀ j, inB z' j -> inB z j \/ j = H.length) -> WO Γ r ⟨pt T d z', H', L⟩ Q) :
  WO Γ (⟨none, some d, .append k bytes sx x⟩ :: r) ⟨T, H, L⟩ Q := by
 obtain ⟨z', H', e1, e2, e3, e4, e5⟩ := SlH.push (L := L) (bytes := bytes) (cap := cap) h hk hq hc hb;refine WO.opE (fun call => ?_) rfl (K z' H' e2 e3 e4);simp only [zbj, hs, hx, e1]
theorem SlH.resA {H H' : Hp} {z : AV} {k len : Nat} {l : List AV} (h : SlH H z k l len) (hf : l.all za9 = true) (hk : ∀ j, inB z j -> H'[j]? = H[j]?) : Zz.resA H' z = some (slV l len) := by
 have h2 := h.res hf hk
 obtain ⟨_, ⟨rfl, _⟩ | ⟨_, id, g, rfl, _⟩⟩ := h <;> exact h2
end Go.Proofs.YtgchabldcnmccabDoor

