import Derived.Test.YtgchabldcnmccabDoorUND
import Derived.Test.YtgchabldcnmccabDoorUIr

set_option linter.unusedSimpArgs false
set_option linter.unusedVariables false

namespace Go.Proofs.YtgchabldcnmccabDoor
open Go.Zz
set_option maxRecDepth 100000
set_option maxHeartbeats 8000000
theorem ze7 {H : Hp} {v x : AV} {c : Int} (h : Zz.newA H v = some x) : zoD H (.tuple [v, .int .i64 c]) = some (.tuple [x, .int .i64 c]) := by
 simp only [zoD, zsF, h];rfl
theorem GS.newA {sz : Nat} {H : Hp} {v : AV} {q : Nat} {c : List AV} (h : GS sz H v q c) : Zz.newA H v = Zz.resC H v := by
 rcases h with ⟨rfl, _⟩ | ⟨g, rfl, _⟩ | ⟨g, n, rfl, _⟩ <;> rfl
theorem zqY {a b : List Int} : (a = b) ↔ a.length = b.length /\ ∀ i, i < a.length -> a.getD i 0 = b.getD i 0 := ⟨fun h => by subst h; exact ⟨rfl, fun _ _ => rfl⟩, fun h => zbf h.1 h.2⟩
theorem f34 {x y : AV} {a b : List Int} (hx : IntS x a) (hy : IntS y b) (ha : a.length < 1000000) : WF E24 (.func 13 [] []) [x, y] ⟨[], []⟩ fun v m' => v = .bool (decide (a = b)) := by
 have hxl := hx.len;have hyl := hy.len
 by_cases hl : a.length = b.length
 ·have hl1 : (a.length : Int) = (b.length : Int) := by omega
  refine zx0 rfl (zaz Tryd.func13 ztK) (by show 2 <= 26; decide) ?_;unfold ir13;simp only [zaw, List.replicate, zNA, zAN]
  repeat' (first |refine zE (by intro; simp (disch := omega) only [go_sem, hl1]; rfl) ?_ |refine WO.opE (by intro; exact zaf (by simp only [go_sem]; first | rfl | assumption)) (by simp only [pt8, pt1, pt7]; rfl) ?_ |refine zy1 ?_ |refine zy2 ?_ |refine zy3 ?_ |(simp only [fl1]) |refine zy9 rfl ?_ |refine zy6 ?_ |refine zy5 ?_)
  refine zx9 (fun m s => ∃ T i, s = ⟨T, [], []⟩ /\ T.length = 26 /\ gt T 0 = x /\ gt T 1 = y /\ gt T 5 = .int .i64 (i : Nat) /\ m + i = a.length /\ ∀ t, t < i -> a.getD t 0 = b.getD t 0) ?_ a.length _ ⟨_, 0, rfl, rfl, rfl, rfl, rfl, by omega, fun t ht => by omega⟩;rintro m _ ⟨T, i, rfl, hT, g0, g1, g5, hm, hi⟩;obtain ⟨f, rfl⟩ := exG hT;clear hT;change f 0 = _ at g0;change f 1 = _ at g1;change f 5 = _ at g5;simp only [tb, Nat.reduceAdd, g0, g1, g5]
  by_cases hin : i < a.length
  ·have hat := hx.atI (i := (i : Int)) (by omega) (by omega);have hbt := hy.atI (i := (i : Int)) (by omega) (by omega);rw [zdV] at hat hbt
   by_cases he : a.getD i 0 = b.getD i 0
   ·rw [<- he] at hbt
    repeat' (first |refine zE (by intro; simp (disch := omega) only [go_sem, hat, hbt]; rfl) ?_ |refine WO.opE (by intro; exact zaf (by simp only [go_sem]; first | rfl | assumption)) (by simp only [pt8, pt5]; rfl) ?_ |refine zy1 ?_ |refine zy2 ?_ |refine zy3 ?_ |(simp only [fl1, zbr]) |refine zx5 rfl ?_ |refine zy9 rfl ?_ |refine zy6 ?_ |refine zy5 ?_ |refine zy4 rfl (fun hp => ?_) (fun hp => ?_) <;> try (exfalso; first | omega | contradiction))
    exact ⟨m - 1, by omega, _, i + 1, rfl, rfl, rfl, rfl, rfl, by omega, fun t ht => by
     by_cases e : t = i
     ·subst e; exact he
     ·exact hi t (by omega)⟩
   ·have hd : a ≠ b := fun h => he (by rw [h])
    repeat' (first |refine zE (by intro; simp (disch := omega) only [go_sem, hat, hbt]; rfl) ?_ |refine WO.opE (by intro; exact zaf (by simp only [go_sem]; first | rfl | assumption)) (by simp only [pt8, pt5]; rfl) ?_ |refine zy1 ?_ |refine zy2 ?_ |refine zy3 ?_ |(simp only [fl1, fl2, fl5, fl8]) |refine zx5 rfl ?_ |refine zy6 ?_ |refine zy7 ?_ |refine zy5 ?_ |refine zy4 rfl (fun hp => ?_) (fun hp => ?_) <;> try (exfalso; first | omega | contradiction))
    exact ⟨_, rfl, by simp only [zbo, gt4]; rw [decide_eq_false hd]⟩
  ·have hie : i = a.length := by omega
   subst hie
   repeat' (first |refine zE (by intro; simp (disch := omega) only [go_sem]; rfl) ?_ |refine WO.opE (by intro; exact zaf (by simp only [go_sem]; first | rfl | assumption)) (by simp only [pt8, pt5]; rfl) ?_ |refine zy1 ?_ |refine zy2 ?_ |refine zy3 ?_ |(simp only [fl1]) |refine zy8 ?_ |refine zy7 ?_ |refine zy4 rfl (fun hp => ?_) (fun hp => ?_) <;> try (exfalso; first | omega | contradiction))
   exact ⟨_, rfl, by simp only [zbo, gt4]; rw [decide_eq_true (zqY.2 ⟨hl, hi⟩)]⟩
 ·have hd : a ≠ b := fun h => hl (by rw [h])
  refine zx0 rfl (zaz Tryd.func13 ztK) (by show 2 <= 26; decide) ?_;unfold ir13;simp only [zaw, List.replicate, zNA, zAN]
  repeat' (first |refine zE (by intro; simp (disch := omega) only [go_sem]; rfl) ?_ |refine WO.opE (by intro; exact zaf (by simp only [go_sem]; first | rfl | assumption)) (by simp only [pt8, pt1, pt7]; rfl) ?_ |refine zy1 ?_ |refine zy2 ?_ |refine zy3 ?_ |(simp only [fl1, fl2]) |refine zy7 ?_ |refine zy4 rfl (fun hp => ?_) (fun hp => ?_) <;> try (exfalso; first | omega | contradiction))
  exact ⟨_, rfl, by simp only [zbo, gt4]; rw [decide_eq_false hd]⟩
theorem zev : ∀ {r r' : List Int}, r.length = r'.length -> zaT (List.replicate r.length true) (r.map (.int .i64)) (r'.map (.int .i64)) = some (decide (r = r'))
 | [], [], _ => rfl
 | [], _ :: _, h => by simp at h
 | _ :: _, [], h => by simp at h
 | a :: r, b :: r', h => by
  have ih := zev (r := r) (r' := r') (by simpa using h);simp only [List.map_cons, List.length_cons, List.replicate_succ, zaT, ih, zhS, Option.map_some]
  by_cases e1 : a = b
  ·subst e1
   by_cases e2 : r = r'
   ·subst e2; simp
   ·simp [e2]
  ·simp [e1]
theorem x34 {x y x' y' : AV} {a b : List Int} (hx : IntS x a) (hy : IntS y b) (ha : a.length < 1000000) {m : Mem} (h0 : Zz.byVal m.heap x' = some x) (h1 : Zz.byVal m.heap y' = some y) : zaA E24 13 [x', y'] m = some (.bool (decide (a = b)), m) :=
 zaS (zal h0 (zal h1 rfl)) ((f34 hx hy ha).mono fun y m' h => by rw [h]; rfl)
theorem x25 {l l' : AV} {rows : List (List Int)} (hl : RwL l rows) (hmax : rows.length < 9223372036854775807) {m : Mem} (h0 : Zz.byVal m.heap l' = some l) : zaA E1 18 [l'] m = some (.bool (decide (VM rows)), m) :=
 zaS (zal h0 rfl) ((f25 hl hmax).mono fun y m' h => by rw [h]; rfl)
theorem x35 {l l' : AV} {rows : List (List Int)} (hl : RwL l rows) (hmax : rows.length < 9223372036854775807) {m : Mem} (h0 : Zz.byVal m.heap l' = some l) : zaA E8 53 [l'] m = some (.tuple [.int .i64 (if VM rows then (zb1 rows : Int) else 0), .int .i64 (if VM rows then 0 else 1)], m) :=
 zaS (zal h0 rfl) ((f35 hl hmax).mono fun y m' h => by rw [h]; rfl)
theorem zrO {H : Hp} {v : AV} {q : Nat} {rows : List (List Int)} (h : GS 6 H v q (zbi rows)) (h6 : ∀ r ∈ rows, r.length = 6) : ∃ x, RwL x rows /\ Zz.newA H v = some x := by
 obtain ⟨x, e1, e2⟩ := GS.rows h h6;refine ⟨x, e1, ?_⟩;rw [<- e2]
 rcases h with ⟨rfl, _⟩ | ⟨g, rfl, _⟩ | ⟨g, n, rfl, _⟩ <;> rfl
theorem zsI {E : Env} {g : Nat} {l : AV} {R : List (List Int)} {c : Int} (h6 : ∀ r ∈ R, r.length = 6) (h : WF E (.func g [] []) [l] ⟨[], []⟩ fun y m' => ∃ v q, y = .tuple [v, .int .i64 c] /\ GS 6 m'.heap v q (zbi R)) : ∃ x, RwL x R /\ ∀ m l', Zz.byVal m.heap l' = some l -> zaA E g [l'] m = some (.tuple [x, .int .i64 c], m) := by
 obtain ⟨n, y, m', h1, v, q, rfl, h2⟩ := h.ex;obtain ⟨x, e1, e2⟩ := zrO h2 h6;exact ⟨x, e1, fun m l' h0 => zaS (zal h0 rfl) ⟨⟨n, _, m', h1, ze7 e2⟩⟩⟩
theorem nil_x {E : Env} {g : Nat} {l : AV} (h : WF E (.func g [] []) [l] ⟨[], []⟩ fun y m' => y = .tuple [.snil, .int .i64 1]) : ∀ m l', Zz.byVal m.heap l' = some l -> zaA E g [l'] m = some (.tuple [.snil, .int .i64 1], m) :=
 fun m l' h0 => zaS (zal h0 rfl) (h.mono fun y m' h => by rw [h]; rfl)
theorem zhY : RwL .snil [] := ⟨fun c hc => (by cases hc), .inl ⟨rfl, rfl⟩⟩
theorem x27 {l : AV} {rows : List (List Int)} (hl : RwL l rows) (hmax : rows.length < 9223372036854775807) : ∃ x, RwL x (zie rows) /\ ∀ m l', Zz.byVal m.heap l' = some l -> zaA E16 48 [l'] m = some (.tuple [x, .int .i64 (zjP rows)], m) := by
 by_cases hv : VM rows
 ·unfold zie zjP;rw [if_pos hv, if_pos hv];exact zsI zkF (f27 hl hv)
 ·unfold zie zjP;rw [if_neg hv, if_neg hv];refine ⟨.snil, zhY, nil_x ?_⟩
  have c25 := fun m => s25 (m := m) hl hmax
  rw [decide_eq_false hv] at c25;have hlc := hl.cells;unfold AV.cells at hlc;refine zx0 rfl (zaz Tryd.func48 zti) (by show 1 <= 107; decide) ?_;unfold ir48;simp only [zaw, List.replicate, zNA, zAN]
  repeat' (first |refine zE (by intro; simp (disch := omega) only [go_sem]; rfl) ?_ |refine zS rfl rfl (c25 _) ?_ |refine zy1 ?_ |refine zy2 ?_ |refine zy3 ?_ |(simp only [fl1, fl2]) |refine zy0 rfl ?_ |refine zy7 ?_)
  exact ⟨_, rfl, rfl⟩
noncomputable def E30 : Env := E24.put 18 (zaA E1 18)
noncomputable def E31 : Env := E30.put 34 (zaA E2 34)
noncomputable def E32 : Env := E31.put 48 (zaA E16 48)
noncomputable def E33 : Env := E32
noncomputable def E34 : Env := E33
noncomputable def E35 : Env := E34.put 20 (zaA E19 20)
noncomputable def E36 : Env := E35
noncomputable def E37 : Env := E36
noncomputable def E38 : Env := E37.put 13 (zaA E24 13)
noncomputable def E39 : Env := E38.put 53 (zaA E8 53)
noncomputable def E40 : Env := E39.put 16 (zaA E12 16)
def lit (rows : List (List Int)) : AV := .sval true rows.length (zbi rows)
theorem zos {rows : List (List Int)} (h : ∀ r ∈ rows, r.length = 6) : RwL (lit rows) rows := ⟨fun c hc => by
 obtain ⟨r, hr, rfl⟩ := List.mem_map.1 hc;rw [zae]
 exact h r hr, .inr ⟨true, by rw [List.length_map]; rfl⟩⟩
theorem hd1 : zie [[4,0,0,0,0,0],[6,0,0,0,0,0]] = [[2,0,0,0,0,0]] := by kernel_rfl
theorem hd2 : zie [[12,19,28,0,0,0],[19,30,44,0,0,0]] = [[1,0,-4,0,0,0],[0,1,4,0,0,0]] := by kernel_rfl
theorem hv1 : VM [[-4,4,-1,0,0,0],[8,-8,2,0,0,0]] := by decide +kernel
theorem hv2 : ¬ VM [[1000000000,1,0,0,0,0]] := by decide +kernel
noncomputable def E41 : Env := E40
end Go.Proofs.YtgchabldcnmccabDoor

