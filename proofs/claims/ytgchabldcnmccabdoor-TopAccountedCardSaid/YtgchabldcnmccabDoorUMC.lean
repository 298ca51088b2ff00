import Derived.Test.YtgchabldcnmccabDoorUMB
import Derived.Test.YtgchabldcnmccabDoorAbsI

set_option linter.unusedSimpArgs false
set_option linter.unusedVariables false

namespace Go.Proofs.YtgchabldcnmccabDoor
open Go.Zz
set_option maxRecDepth 100000
set_option maxHeartbeats 8000000
theorem zna {x d : Int} : x.tmod d % d = x % d := by
 have h := Int.tmod_add_tdiv_mul x d
 have h2 : x % d = (x.tmod d + x.tdiv d * d) % d := by rw [h]
 rw [h2, Int.add_mul_emod_self_right]
theorem zpu {x d : Int} (hd : 0 < d) : (x.tmod d + d).tmod d = x % d := by
 have h1 := Int.tmod_eq_emod_of_nonneg (a := x.tmod d + d) (b := d) (by
  have := Int.lt_tmod_of_pos x hd
  omega)
 rw [h1, Int.add_emod_right, zna]
theorem f132 {d x : Int} {r : AV} {H : Hp} {L : List (Option ALoop)} (hd : 0 < d) (hd1 : d <= 2000000000) (hx : -4611686018427387904 <= x /\ x <= 4611686018427387904) : WF E9 (.func 59 [] []) [.agg [.int .i64 d, r], .int .i64 x] ⟨H, L⟩ fun y m' => y = .int .i64 (x % d) := by
 have h1 := Int.lt_tmod_of_pos x hd;have h2 := Int.tmod_lt_of_pos x hd;have h3 := zpu (x := x) hd
 have hd0 : ¬ d = 0 := by omega
 have hlk : Zz.look (H ++ [some ⟨0, [.int .i64 d, r]⟩]) H.length 0 = some [.int .i64 d, r] := lk0 rfl;refine zx0 rfl (zaz Tryd.func59 cir59) (by show 2 <= 15; decide) ?_;unfold ir59;simp only [zaw, List.replicate, zNA, zAN]
 repeat' (first |refine zE (by intro; simp (disch := omega) only [go_sem, hlk, hd0, if_false, h3]; rfl) ?_ |refine zy1 ?_ |refine zy2 ?_ |refine zy3 ?_ |(simp only [fl1]) |refine zx5 rfl ?_ |refine zy7 ?_)
 exact ⟨_, rfl, rfl⟩
theorem zrD {d x : Int} {r : AV} (hd : 0 < d) (hd1 : d <= 2000000000) (hx : -4611686018427387904 <= x /\ x <= 4611686018427387904) {m : Mem} : zdG E9 59 [.agg [.int .i64 d, r], .int .i64 x] m = some (.int .i64 (x % d), m) :=
 zl6 rfl fun H L => f132 hd hd1 hx
noncomputable def E10 : Env := E9.put 59 (zdG E9 59)
theorem zsM : EnvOk Tryd.prog E10 := Env.put_ok zrg (zlX zrg (zaq Tryd.func59 (by kernel_rfl)))
noncomputable def E11 : Env := E10
theorem ztL : EnvOk Tryd.prog E11 := zsM
theorem s88 {l l' ov ov' : AV} {rows : List (List Int)} {ord : List Nat} (hl : RwL l rows) (hv : VM rows) (hov : NatS ov ord) (ho : okJ ord) (hol : ord.length <= 6) :
  ∃ iv jv, NatS iv (frame rows ord ord.length).is /\ NatS jv (frame rows ord ord.length).js /\ ∀ m, Zz.byVal m.heap l' = some l -> Zz.byVal m.heap ov' = some ov -> zaA E9 35 [l', ov'] m = some (.agg [iv, jv], m) := by
 obtain ⟨n, y, m', h1, iv, jv, rfl, h2, h3, h4, h5⟩ := (f88 hl hv hov ho hol).ex;obtain ⟨iv', e1, e2⟩ := h2.newC h4;obtain ⟨jv', e3, e4⟩ := h3.newC h5;refine ⟨iv', jv', e2, e4, fun m b1 b2 => zaS (zal b1 (zal b2 rfl)) ⟨⟨n, _, m', h1, ?_⟩⟩⟩;simp only [zoD, newA, zqc, e1, e3]
noncomputable def E12 : Env := E11.put 35 (zaA E9 35)
theorem zpT : EnvOk Tryd.prog E12 := Env.put_ok ztL (za6 zrg (zaq Tryd.func35 (by kernel_rfl)))
theorem f36 {l : AV} {rows : List (List Int)} (hl : RwL l rows) (hmax : rows.length < 9223372036854775807) : WF E12 (.func 16 [] []) [l] ⟨[], []⟩ fun y m' => y = .tuple [.int .i64 (if VM rows then (zb1 rows : Int) else 0), .int .i64 (if VM rows then 0 else 1)] := by
 have c12 := fun m => s26 (m := m) hl hmax
 by_cases hv : VM rows
 ·rw [if_pos hv, if_pos hv];rw [decide_eq_true hv] at c12;obtain ⟨iv, jv, hiv, hjv, c37⟩ := s88 (l' := l) (ov' := .sref 0 0 0 1 6 (some 6)) (ov := .sval true 6 [.int .i64 0, .int .i64 1, .int .i64 2, .int .i64 3, .int .i64 4, .int .i64 5]) hl hv (.inr ⟨true, rfl⟩) zhg (by decide);have hivl := hiv.len;have hr : (frame rows [0, 1, 2, 3, 4, 5] ([0, 1, 2, 3, 4, 5] : List Nat).length).is.length = zb1 rows := rfl;rw [hr] at hivl;have c37' := c37 ⟨[some ⟨0, [.int .i64 0, .int .i64 1, .int .i64 2, .int .i64 3, .int .i64 4, .int .i64 5]⟩], []⟩ (hl.byVal _) rfl;refine zx0 rfl (zaz Tryd.func16 zt3) (by show 1 <= 14; decide) ?_;unfold ir16;simp only [zaw, List.replicate, zNA, zAN]
  repeat' (first |refine zE (by intro; simp (disch := omega) only [go_sem, zaZ, Option.bind_eq_bind, za0, zaF, zcN, zfG, zeu]; rfl) ?_ |refine WO.opE (by intro; exact zaf (by simp only [go_sem]; first | rfl | assumption)) (by simp only [pt8, pt5]; rfl) ?_ |refine zS rfl rfl (c12 _) ?_ |refine zS rfl rfl (c37') ?_ |refine zy1 ?_ |refine zy2 ?_ |refine zy3 ?_ |(simp only [fl1]) |refine zy9 rfl ?_ |refine zy6 ?_ |refine zy7 ?_)
  exact ⟨_, rfl, rfl⟩
 ·rw [if_neg hv, if_neg hv];rw [decide_eq_false hv] at c12;refine zx0 rfl (zaz Tryd.func16 zt3) (by show 1 <= 14; decide) ?_;unfold ir16;simp only [zaw, List.replicate, zNA, zAN]
  repeat' (first |refine zE (by intro; simp (disch := omega) only [go_sem]; rfl) ?_ |refine zS rfl rfl (c12 _) ?_ |refine zy1 ?_ |refine zy2 ?_ |refine zy3 ?_ |(simp only [fl1, fl2]) |refine zy0 rfl ?_ |refine zy7 ?_)
  exact ⟨_, rfl, rfl⟩
theorem s36 {l : AV} {rows : List (List Int)} (hl : RwL l rows) (hmax : rows.length < 9223372036854775807) {m : Mem} : zar E12 16 [l] m = some (.tuple [.int .i64 (if VM rows then (zb1 rows : Int) else 0), .int .i64 (if VM rows then 0 else 1)], m) :=
 zaB (za1 hl.pureA rfl) ((f36 hl hmax).mono fun y m' h => by rw [h]; rfl)
noncomputable def E13 : Env := E12.put 16 (zar E12 16)
theorem zpP : EnvOk Tryd.prog E13 := Env.put_ok zpT (zax zpT (zaq Tryd.func16 (by kernel_rfl)))
set_option maxRecDepth 100000
set_option maxHeartbeats 8000000
theorem zcM {c : List AV} {k : Nat} {x : AV} (hk : k < c.length) : Zz.over c k [x] = some (c.set k x) := by
 unfold Zz.over;rw [if_pos (by simp; omega)];rw [List.set_eq_take_append_cons_drop, if_pos hk];simp
theorem zl2 (l : List Nat) (k j : Nat) : (zas l).set k (.int .i64 (j : Int)) = zas (l.set k j) := by
 unfold zas;rw [List.map_set, List.map_set];rfl
theorem setAt {H : Hp} {v : AV} {q : Nat} {l : List Nat} (h : GS 1 H v q (zas l)) {k : Nat} (hk : k < l.length) (j : Nat) :
  ∃ g, v = .sref q g 0 1 l.length none /\ zaj 1 v (.int .i64 (k : Int)) = some (.pref q g k) /\ Zz.look H q g = some (zas l) /\ Zz.over (zas l) k [.int .i64 (j : Int)] = some (zas (l.set k j)) /\ JS (H.set q (some ⟨g, zas (l.set k j)⟩)) v (l.set k j) := by
 rcases h with ⟨rfl, h⟩ | ⟨g, rfl, h, _⟩ | ⟨g, n, rfl, h1, h2, h3⟩
 ·have := congrArg List.length h;rw [zai, List.length_nil] at this;omega
 ·have := congrArg List.length h;rw [zai, List.length_nil] at this;omega
 ·rw [zai, Nat.mul_one] at h1;subst h1;have hlt := zah h3;exact ⟨g, rfl, by rw [zbl, zbb hk]; simp, h3, by rw [zcM (show k < (zas l).length by rw [zai]; exact hk), zl2], .inr ⟨q, g, none, by rw [List.length_set], zaJ hlt, .inl rfl⟩⟩
theorem NatS.byV {x : AV} {l : List Nat} (h : NatS x l) (H : Hp) : Zz.byVal H x = some x := by
 rcases h with ⟨rfl, _⟩ | ⟨f, rfl⟩
 ·rfl
 ·have e2 : (zas l).all za9 = true := zbs _
  show (if (zas l).all za9 then _ else _) = _
  rw [if_pos e2]
theorem f87 {l iv jv : AV} {rows : List (List Int)} {is js : List Nat} {d : Int} {k j : Nat} (hl : RwL l rows) (hv : VM rows) (hiv : NatS iv is) (hjv : NatS jv js) (hi : okI rows is) (hn : is.Nodup) (hj : okJ js) (hil : is.length <= 6) (hjl : js.length <= 6) (hk : k < js.length) (hj6 : j < 6) :
  WF E13 (.func 45 [] []) [.agg [l, iv, jv, .int .i64 d], .int .i64 (k : Nat), .int .i64 (j : Nat)] ⟨[], []⟩ fun y m' => y = .int .i64 (zab (ent rows) is (js.set k j)) := by
 have hr8 := hv.1;refine zx0 rfl (zaz Tryd.func45 cir45) (by show 3 <= 21; decide) ?_;unfold ir45;simp only [zaw, List.replicate, zNA, zAN]
 repeat' (first |refine zE (by intro; simp (disch := omega) only [go_sem, Zz.look]; rfl) ?_ |refine zy1 ?_ |refine zy2 ?_ |refine zy3 ?_ |(simp only [fl1]))
 refine WO.call rfl rfl ((f131 (E := E13) rfl (zaz Tryd.func56 zpK) (.inl hjv) (by omega)).mono ?_);rintro v m' ⟨q, H1, rfl, hg, he1, hq⟩;simp only [pt8, pt2];obtain ⟨g, rfl, a1, a2, a3, hj2⟩ := setAt hg hk j;have hlq := zah a2;have hz : Zz.look H1 0 0 = some [l, iv, jv, .int .i64 d] := he1.look rfl;have hz2 : Zz.look (H1.set q (some ⟨g, zas (js.set k j)⟩)) 0 0 = some [l, iv, jv, .int .i64 d] := (zad (List.getElem?_set_ne (by simp at hq; omega))).trans hz;obtain ⟨yj, b2, nj⟩ := hj2.byVal;have hsl : (js.set k j).length = js.length := List.length_set;have c53 := s104 (m := ⟨H1.set q (some ⟨g, zas (js.set k j)⟩), []⟩) hl hiv nj hi (by decide) (zqH (fun i hi => hl.six hi) hj k hj6) (zqv hv hn hi (by omega)) hv.2.1 (by omega) (by omega) (by omega) (hl.byVal _) (hiv.byV _) b2
 repeat' (first |refine zE (by intro; simp (disch := omega) only [go_sem, a1, hz2]; rfl) ?_ |refine zx2 (by intro; simp (disch := omega) only [go_sem, a2, a3]; rfl) ?_ |refine zS rfl rfl (c53) ?_ |refine zy1 ?_ |refine zy2 ?_ |refine zy3 ?_ |(simp only [fl1]) |refine zy7 ?_)
 exact ⟨_, rfl, rfl⟩
theorem s87 {l iv jv : AV} {rows : List (List Int)} {is js : List Nat} {d : Int} {k j : Nat} (hl : RwL l rows) (hv : VM rows) (hiv : NatS iv is) (hjv : NatS jv js) (hi : okI rows is) (hn : is.Nodup) (hj : okJ js) (hil : is.length <= 6) (hjl : js.length <= 6) (hk : k < js.length) (hj6 : j < 6) {m : Mem} :
  zar E13 45 [.agg [l, iv, jv, .int .i64 d], .int .i64 (k : Nat), .int .i64 (j : Nat)] m = some (.int .i64 (zab (ent rows) is (js.set k j)), m) := by
 have h1 := hl.pureC;have h2 : Zz.pureC iv = true := IntS.pureC hiv;have h3 : Zz.pureC jv = true := IntS.pureC hjv
 have hp : ([.agg [l, iv, jv, .int .i64 d], .int .i64 (k : Nat), .int .i64 (j : Nat)] : List AV).all Zz.pureA = true := by
  have h4 : Zz.pureC (.int .i64 d) = true := rfl;have h5 : Zz.pureA (.int .i64 (k : Nat)) = true := rfl;have h6 : Zz.pureA (.int .i64 (j : Nat)) = true := rfl
  have h7 : Zz.pureA (.agg [l, iv, jv, .int .i64 d]) = true := by
   simp only [Zz.pureA, List.all_cons, List.all_nil, h1, h2, h3, h4, Bool.and_self]
  simp only [List.all_cons, List.all_nil, h5, h6, h7, Bool.and_self]
 exact zaB hp ((f87 hl hv hiv hjv hi hn hj hil hjl hk hj6).mono fun y m' h => by rw [h]; rfl)
noncomputable def E14 : Env := E13.put 45 (zar E13 45)
theorem zsq : EnvOk Tryd.prog E14 := Env.put_ok zpP (zax zpP (zaq Tryd.func45 (by kernel_rfl)))
noncomputable def E15 : Env := E14
theorem ztY : EnvOk Tryd.prog E15 := zsq
set_option maxRecDepth 100000
set_option maxHeartbeats 8000000
theorem zae (r : List Int) : (zaa r).length = r.length := by simp [zaa]
theorem zhB (r : List Int) (k : Nat) (x : Int) : (zaa r).set k (.int .i64 x) = zaa (r.set k x) := by
 unfold zaa;rw [List.map_set]
def RowM (H : Hp) (x : AV) (b : Nat) (r : List Int) : Prop := ∃ g off cap c, x = .sref b g off 1 r.length cap /\ Zz.look H b g = some c /\ off + r.length <= c.length /\ (c.drop off).take r.length = zaa r /\ (cap = none \/ cap = some r.length)
theorem RowM.len {H : Hp} {x : AV} {b : Nat} {r : List Int} (h : RowM H x b r) : zcH x = some r.length := by
 obtain ⟨g, off, cap, c, rfl, _⟩ := h;rfl
theorem RowM.cell {H : Hp} {x : AV} {b : Nat} {r : List Int} (h : RowM H x b r) : x.cells = some [x] := by
 obtain ⟨g, off, cap, c, rfl, _⟩ := h;rfl
theorem RowM.lt {H : Hp} {x : AV} {b : Nat} {r : List Int} (h : RowM H x b r) : b < H.length := by
 obtain ⟨g, off, cap, c, _, h1, _⟩ := h;exact zah h1
theorem RowM.same {H H' : Hp} {x : AV} {b : Nat} {r : List Int} (h : RowM H x b r) (he : H'[b]? = H[b]?) : RowM H' x b r := by
 obtain ⟨g, off, cap, c, rfl, h1, h2⟩ := h;exact ⟨g, off, cap, c, rfl, (zad he).trans h1, h2⟩
theorem RowM.at {H : Hp} {x : AV} {b : Nat} {r : List Int} (h : RowM H x b r) {i : Nat} (hi : i < r.length) :
  ∃ g off c, zaj 1 x (.int .i64 (i : Int)) = some (.pref b g off) /\ Zz.look H b g = some c /\ c[off]? = some (.int .i64 (r.getD i 0)) /\ ∀ y : Int, Zz.over c off [.int .i64 y] = some (c.set off (.int .i64 y)) /\ RowM (H.set b (some ⟨g, c.set off (.int .i64 y)⟩)) x b (r.set i y) := by
 obtain ⟨g, off, cap, c, rfl, h1, h2, h3, h4⟩ := h;have hlt := zah h1
 have hc : ∀ j, j < r.length -> c[off + j]? = some (.int .i64 (r.getD j 0)) := fun j hj => by
  have := congrArg (fun l => l[j]?) h3;simp only [List.getElem?_take, if_pos hj, List.getElem?_drop, zaa, List.getElem?_map] at this;rw [this];simp [hj]
 refine ⟨g, off + i, c, by rw [zbl, zbb hi]; simp, h1, hc i hi, fun y => ⟨zcM (by omega), ?_⟩⟩;refine ⟨g, off, cap, c.set (off + i) (.int .i64 y), by rw [List.length_set], zaJ hlt, by simp; omega, ?_, by rw [List.length_set]; exact h4⟩;rw [List.length_set];apply List.ext_getElem?;intro j
 by_cases hj : j < r.length
 ·simp only [List.getElem?_take, if_pos hj, List.getElem?_drop, zaa, List.getElem?_map, List.getElem?_set]
  by_cases e : i = j
  ·subst e;rw [if_pos rfl, if_pos (by omega), if_pos rfl, if_pos hj];rfl
  ·rw [if_neg (by omega), if_neg e, hc j hj];simp [hj]
 ·rw [List.getElem?_eq_none (by simp; omega), List.getElem?_eq_none (by simp [zaa]; omega)]
structure LatM (H : Hp) (rv : AV) (q : Nat) (xs : List AV) (bs : List Nat) (R : List (List Int)) : Prop where
 gs : GS 1 H rv q xs
 xl : xs.length = R.length
 bl : bs.length = R.length
 nd : (q :: bs).Nodup
 row : ∀ i, i < R.length -> RowM H (xs.getD i und) (bs.getD i 0) (R.getD i [])
theorem ziW (n : Nat) : za0 [.int .i64 0] n = zaa (List.replicate n 0) := by
 induction n with
 | zero => rfl
 | succ n ih => rw [za0, ih]; rfl
theorem zkC {call : AV -> List AV -> Mem -> Option (AV × Mem)} {T : List AV} {G : Hp} {L : List (Option ALoop)} {n : Nat} {l c : Opd} (hn : n <= 8) (h1 : l.ev T = .int .i64 (n : Int)) (h2 : c.ev T = .int .i64 (n : Int)) :
  zaW call T ⟨G, L⟩ (.makeSlice 1 8 [.int .i64 0] l c) = some (.sref G.length 0 0 1 n (some n), ⟨G ++ [some ⟨0, zaa (List.replicate n 0)⟩], L⟩) := by
 rw [zbE, h1, h2]
 show (if _ then _ else _) = _
 rw [if_pos ⟨by omega, by omega, by omega, by omega⟩, <- ziW];rfl
theorem LatM.blt {H : Hp} {rv : AV} {q : Nat} {xs : List AV} {bs : List Nat} {R : List (List Int)} (h : LatM H rv q xs bs R) {b : Nat} (hb : b ∈ bs) : b < H.length := by
 obtain ⟨i, hi, rfl⟩ := List.mem_iff_getElem.1 hb;have := (h.row i (by rw [<- h.bl]; exact hi)).lt
 rwa [List.getD_eq_getElem?_getD, List.getElem?_eq_getElem hi, Option.getD_some] at this
theorem LatM.push {G G1 : Hp} {L : List (Option ALoop)} {rv x : AV} {q b : Nat} {xs : List AV} {bs : List Nat} {R : List (List Int)} {r : List Int} (h : LatM G rv q xs bs R) (he : Ext G G1) (hb : G.length <= b) (hx : RowM G1 x b r) (hR : R.length < 1000000) :
  ∃ rv' q' H', zaH 1 24 ⟨G1 ++ [some ⟨0, [x]⟩], L⟩ rv (.sref G1.length 0 0 1 1 (some 1)) = some (rv', ⟨H', L⟩) /\ LatM H' rv' q' (xs ++ [x]) (bs ++ [b]) (R ++ [r]) /\ (q' = q /\ q < G.length \/ q' = G1.length + 1) /\ G1.length + 1 <= H'.length /\ ∀ j, j < G1.length -> (j ≠ q \/ G.length <= j) -> H'[j]? = G1[j]? := by
 have hgl := he.1;have hbl := hx.lt
 obtain ⟨q0, g0, hq0⟩ : ∃ q0, GS 1 G1 rv q0 xs /\ (q0 = q /\ q < G.length \/ q0 = G1.length + 1) := by
  rcases h.gs with ⟨rfl, rfl⟩ | ⟨g, rfl, rfl, h1⟩ | ⟨g, n, rfl, h1, h2, h3⟩
  ·exact ⟨G1.length + 1, .inl ⟨rfl, rfl⟩, .inr rfl⟩
  ·exact ⟨q, .inr (.inl ⟨g, rfl, rfl, he.look h1⟩), .inl ⟨rfl, zah h1⟩⟩
  ·exact ⟨q, .inr (.inr ⟨g, n, rfl, h1, h2, he.look h3⟩), .inl ⟨rfl, zah h3⟩⟩
 have hxl := h.xl;obtain ⟨rv', q', H', a1, a2, a3, a4, a5⟩ := (g0.more [some ⟨0, [x]⟩]).append (L := L) (bytes := 24) (n := 1) (cap := some 1) (id := G1.length) (lk0 rfl) rfl Nat.one_pos Nat.one_pos ⟨by rw [Nat.div_one]; omega, by rw [Nat.div_one]; omega⟩;rw [List.length_append, List.length_singleton] at a3 a4
 have hq' : q' = q /\ q < G.length \/ q' = G1.length + 1 := by
  rcases a3 with rfl | rfl
  ·exact hq0
  ·exact .inr rfl
 have hsame : ∀ j, j < G1.length -> (j ≠ q \/ G.length <= j) -> H'[j]? = G1[j]? := fun j hj hne => by
  rw [a5 j (by simp; omega) (by rcases hq0 with ⟨rfl, h1⟩ | rfl <;> omega), List.getElem?_append_left hj]
 have hqbs := List.nodup_cons.1 h.nd;refine ⟨rv', q', H', a1, ⟨a2, by simp [hxl], by simp [h.bl], ?_, fun i hi => ?_⟩, hq', a4, hsame⟩
 ·rw [List.nodup_cons];refine ⟨fun hm => ?_, ?_⟩
  ·rcases List.mem_append.1 hm with hm | hm
   ·have := h.blt hm
    rcases hq' with ⟨rfl, _⟩ | rfl
    ·exact hqbs.1 hm
    ·omega
   ·simp only [List.mem_singleton] at hm;omega
  ·rw [List.nodup_append];refine ⟨hqbs.2, by simp, fun a ha c hc => ?_⟩;simp only [List.mem_singleton] at hc;have := h.blt ha;omega
 ·have hbl' := h.bl
  by_cases hi' : i < R.length
  ·have hrow := h.row i hi'
   have hmem : bs.getD i 0 ∈ bs := by
    rw [List.getD_eq_getElem?_getD, List.getElem?_eq_getElem (by omega), Option.getD_some];exact List.getElem_mem _
   have hlt := hrow.lt
   have hne : bs.getD i 0 ≠ q := fun e => hqbs.1 (e ▸ hmem)
   have e1 : (xs ++ [x]).getD i und = xs.getD i und := by simp [List.getD_eq_getElem?_getD, List.getElem?_append_left (show i < xs.length by omega)]
   have e2 : (bs ++ [b]).getD i 0 = bs.getD i 0 := by simp [List.getD_eq_getElem?_getD, List.getElem?_append_left (show i < bs.length by omega)]
   have e3 : (R ++ [r]).getD i [] = R.getD i [] := by simp [List.getD_eq_getElem?_getD, List.getElem?_append_left hi']
   rw [e1, e2, e3];exact hrow.same ((hsame _ (by omega) (.inl hne)).trans (he.2 _ hlt))
  ·have hie : i = R.length := by simp at hi; omega
   have e1 : (xs ++ [x]).getD i und = x := by simp [List.getD_eq_getElem?_getD, hie, hxl]
   have e2 : (bs ++ [b]).getD i 0 = b := by simp [List.getD_eq_getElem?_getD, hie, hbl']
   have e3 : (R ++ [r]).getD i [] = r := by simp [List.getD_eq_getElem?_getD, hie]
   rw [e1, e2, e3];exact hx.same (hsame b hbl (.inr hb))
theorem RowM.zero (G X : Hp) (n : Nat) : RowM (G ++ some ⟨0, zaa (List.replicate n 0)⟩ :: X) (.sref G.length 0 0 1 n (some n)) G.length (List.replicate n 0) :=
 ⟨0, 0, some n, _, by rw [List.length_replicate], lk0 rfl, by rw [zae]; omega, by rw [List.drop_zero, List.take_of_length_le (by rw [zae]; exact Nat.le_refl _)], .inr (by rw [List.length_replicate])⟩
def zcj (n k : Nat) (d : Int) : List (List Int) := (List.range k).map fun i => (List.replicate n 0).set i d
theorem zlT (n k : Nat) (d : Int) : zcj n (k + 1) d = zcj n k d ++ [(List.replicate n 0).set k d] := by
 unfold zcj;rw [List.range_succ, List.map_append];rfl
theorem LatM.keep {G G' : Hp} {rv : AV} {q : Nat} {xs : List AV} {bs : List Nat} {R : List (List Int)} (h : LatM G rv q xs bs R) (hq : G'[q]? = G[q]?) (hb : ∀ b ∈ bs, G'[b]? = G[b]?) : LatM G' rv q xs bs R := by
 refine ⟨?_, h.xl, h.bl, h.nd, fun i hi => (h.row i hi).same (hb _ ?_)⟩
 ·rcases h.gs with h | ⟨g, h1, h2, h3⟩ | ⟨g, n, h1, h2, h3, h4⟩
  ·exact .inl h
  ·exact .inr (.inl ⟨g, h1, h2, (zad hq).trans h3⟩)
  ·exact .inr (.inr ⟨g, n, h1, h2, h3, (zad hq).trans h4⟩)
 ·rw [List.getD_eq_getElem?_getD, List.getElem?_eq_getElem (by rw [h.bl]; exact hi), Option.getD_some];exact List.getElem_mem _
theorem LatM.nil (G : Hp) (q : Nat) : LatM G .snil q [] [] [] := ⟨.inl ⟨rfl, rfl⟩, rfl, rfl, by simp, fun i hi => by simp at hi⟩
theorem LatM.fit {G : Hp} {rv : AV} {q a : Nat} {xs : List AV} {bs : List Nat} {R : List (List Int)} (h : LatM G rv q xs bs R) (ha : a <= q) (hG : a < G.length) : ∃ q', LatM G rv q' xs bs R /\ a <= q' /\ q' < G.length := by
 by_cases hq : q < G.length
 ·exact ⟨q, h, ha, hq⟩
 ·have hn : rv = .snil /\ xs = [] := by
   rcases h.gs with h | ⟨g, _, _, h1⟩ | ⟨g, n, _, _, _, h1⟩
   ·exact h
   ·exact absurd (zah h1) hq
   ·exact absurd (zah h1) hq
  obtain ⟨rfl, rfl⟩ := hn;have h1 := h.xl;have h2 := h.bl;have hR : R = [] := List.length_eq_zero_iff.1 (by simpa using h1.symm);subst hR;have hb : bs = [] := List.length_eq_zero_iff.1 (by simpa using h2);subst hb;exact ⟨a, LatM.nil _ _, Nat.le_refl _, hG⟩
theorem f84 {E : Env} (hE : E.spec 44 = none) (hF : E.fn 44 = some ir44) {n : Nat} {d : Int} {H : Hp} {L : List (Option ALoop)} (hn : n <= 8) :
  WF E (.func 44 [] []) [.int .i64 (n : Nat), .int .i64 d] ⟨H, L⟩ fun v m' => ∃ rv q xs bs H', v = .agg [.int .i64 d, rv] /\ m' = ⟨H', L⟩ /\ LatM H' rv q xs bs (zcj n n d) /\ Ext H H' /\ (∀ b ∈ bs, H.length <= b) /\ H.length <= q /\ q < H'.length := by
 refine zx0 hE hF (by show 2 <= 28; decide) ?_;unfold ir44;simp only [zaw, List.replicate, zNA, zAN]
 repeat' (first |refine zE (by intro; simp (disch := omega) only [go_sem, zaZ, Option.bind_eq_bind, List.append_assoc, List.length_append, zaF]; rfl) ?_ |refine zx2 (by intro; simp (disch := omega) only [go_sem, Option.bind_eq_bind, zlp, zbG, Nat.reduceAdd, lk1]; rfl) ?_ |refine zy1 ?_ |refine zy2 ?_ |refine zy3 ?_ |(simp only [fl1]) |refine zy5 ?_)
 refine zx9 (fun m s => ∃ T G k rv q xs bs, ∃ N : Nat, s = ⟨T, G, L⟩ /\ T.length = 28 /\ gt T 0 = .int .i64 (n : Nat) /\ gt T 1 = .int .i64 d /\ gt T 4 = .pref N 0 0 /\ gt T 5 = .pref (N + 1) 0 0 /\ gt T 10 = .int .i64 (n : Nat) /\ gt T 11 = .int .i64 (k : Nat) /\ m + k = n /\ N = H.length /\ Zz.look G N 0 = some [.int .i64 0, .snil] /\ Zz.look G (N + 1) 0 = some [.int .i64 d, rv] /\ LatM G rv q xs bs (zcj n k d) /\ Ext H G /\ (∀ b ∈ bs, N + 2 <= b) /\ N + 2 <= q) ?_ n _ ⟨_, _, 0, .snil, H.length + 2, [], [], H.length, rfl, rfl, rfl, rfl, rfl, rfl, rfl, rfl, by omega, rfl, lk0 rfl, lk1 rfl, LatM.nil _ _, Ext.app _ _, fun b hb => by simp at hb, Nat.le_refl _⟩;rintro m _ ⟨T, G, k, rv, q, xs, bs, N, rfl, hT, g0, g1, g4, g5, g10, g11, hm, hN, k0, k1, hlat, hext, hbs, hq⟩;obtain ⟨f, rfl⟩ := exG hT;clear hT;change f 0 = _ at g0;change f 1 = _ at g1;change f 4 = _ at g4;change f 5 = _ at g5;change f 10 = _ at g10;change f 11 = _ at g11;simp only [tb, Nat.reduceAdd, g0, g1, g4, g5, g10, g11];have hl0 := zah k0;have hl1 := zah k1
 by_cases hk : k < n
 ·have hov : Zz.over (zaa (List.replicate n 0)) k [.int .i64 d] = some (zaa ((List.replicate n 0).set k d)) := by
   rw [zcM (by rw [zae]; simpa using hk), zhB]
  have hz := (RowM.zero G [] n)
  have hlz : Zz.look (G ++ [some ⟨0, zaa (List.replicate n 0)⟩]) G.length 0 = some (zaa (List.replicate n 0)) := lk0 rfl
  have hrow : RowM (G ++ [some ⟨0, zaa ((List.replicate n 0).set k d)⟩]) (.sref G.length 0 0 1 n (some n)) G.length ((List.replicate n 0).set k d) :=
   ⟨0, 0, some n, _, by simp, lk0 rfl, by rw [zae]; omega, by rw [List.drop_zero, List.take_of_length_le (by rw [zae]; exact Nat.le_refl _)], .inr (by simp)⟩
  obtain ⟨rv', q', H', a1, hlat', hq', hlen', hsame⟩ := hlat.push (L := L) (Ext.app _ _) (Nat.le_refl _) hrow (by simp [zcj]; omega);simp only [List.append_assoc, zCA, zNA, List.length_append, List.length_singleton] at a1
  have hix : zaj 1 (.sref G.length 0 0 1 n (some n)) (.int .i64 (k : Int)) = some (.pref G.length 0 k) := by rw [zbl, zbb hk]; simp
  rw [List.length_append, List.length_singleton] at hlen' hsame hq';have k1' : Zz.look H' (N + 1) 0 = some [.int .i64 d, rv] := (zad ((hsame _ (by omega) (.inl (by omega))).trans (List.getElem?_append_left (by omega)))).trans k1
  have hrvc : rv'.cells = some [rv'] := by
   rcases hlat'.gs with ⟨rfl, _⟩ | ⟨g, rfl, _⟩ | ⟨g, n, rfl, _⟩ <;> rfl
  unfold AV.cells at hrvc
  repeat' (first |refine zE (by intro; simp (disch := omega) only [go_sem, zaZ, Option.bind_eq_bind, List.append_assoc, za0, List.length_append, zaF, k1, hix, zap]; rfl) ?_ |refine zx2 (by intro; simp (disch := omega) only [go_sem, Option.bind_eq_bind, zbB, zcN, k1', hlz, hov, hrvc]; rfl) ?_ |refine zE (by intro; exact zkC hn rfl rfl) ?_ |refine zE (by intro; rw [zbj]; exact a1) ?_ |refine zy1 ?_ |refine zy2 ?_ |refine zy3 ?_ |(simp only [zbr]) |refine zy6 ?_ |refine zy5 ?_ |refine zy4 rfl (fun hp => ?_) (fun hp => ?_) <;> try (exfalso; first | omega | contradiction))
  have hqb : q' ≠ N + 1 := by rcases hq' with ⟨rfl, _⟩ | rfl <;> omega
  have hbs' : ∀ b ∈ bs ++ [G.length], N + 2 <= b := fun b hb => by
   rcases List.mem_append.1 hb with hb | hb
   ·exact hbs b hb
   ·simp only [List.mem_singleton] at hb;omega
  refine ⟨m - 1, by omega, _, _, k + 1, rv', q', _, _, N, rfl, rfl, rfl, rfl, rfl, rfl, rfl, rfl, by omega, hN, ?_, zaJ (by omega), by rw [zlT]; exact hlat'.keep (List.getElem?_set_ne (by omega)) fun b hb => List.getElem?_set_ne (by have := hbs' b hb; omega), ⟨by have := hext.1; simp; omega, fun j hj => ?_⟩, hbs', by rcases hq' with ⟨rfl, _⟩ | rfl <;> omega⟩
  ·refine (zad ?_).trans k0;rw [List.getElem?_set_ne (by omega), hsame N (by omega) (.inl (by omega)), List.getElem?_append_left hl0]
  ·rw [List.getElem?_set_ne (by omega), hsame j (by omega) (.inl (by omega)), List.getElem?_append_left (by omega), hext.2 j hj]
 ·have hke : k = n := by omega
  subst hke
  repeat' (first |refine zE (by intro; simp (disch := omega) only [go_sem, k1]; rfl) ?_ |refine zx2 (by intro; simp (disch := omega) only [go_sem, zbG, Nat.reduceAdd, k0]; rfl) ?_ |refine zy1 ?_ |refine zy2 ?_ |refine zy3 ?_ |(simp only [fl1]) |refine zy8 ?_ |refine zy7 ?_ |refine zy4 rfl (fun hp => ?_) (fun hp => ?_) <;> try (exfalso; first | omega | contradiction))
  have hk0s : ∀ c : List AV, Zz.look (G.set N (some ⟨0, c⟩)) N 0 = some c := fun c => zaJ hl0
  have cut2z : ∀ a b : AV, Zz.cut [a, b] 0 2 = some [a, b] := fun a b => by simp [Zz.cut]
  obtain ⟨q, hlat, hq, hqG⟩ := hlat.fit (a := N + 1) (by omega) (by omega);refine ⟨_, by simp only [zbZ, gt4, za4, hk0s, cut2z, if_true, Option.bind_some, Option.map_some]; rfl, rv, q, xs, bs, _, rfl, rfl, hlat.keep (List.getElem?_set_ne (by omega)) fun b hb => List.getElem?_set_ne (by have := hbs b hb; omega), ⟨by have := hext.1; simp; omega, fun j hj => ?_⟩, fun b hb => by have := hbs b hb; omega, by omega, by rw [List.length_set]; exact hqG⟩;rw [List.getElem?_set_ne (by omega), hext.2 j hj]
set_option maxRecDepth 100000
set_option maxHeartbeats 8000000
theorem LatM.at {G : Hp} {rv : AV} {q : Nat} {xs : List AV} {bs : List Nat} {R : List (List Int)} (h : LatM G rv q xs bs R) {i : Nat} (hi : i < R.length) :
  ∃ g, zaj 1 rv (.int .i64 (i : Int)) = some (.pref q g i) /\ Zz.look G q g = some xs /\ xs[i]? = some (xs.getD i und) /\ RowM G (xs.getD i und) (bs.getD i 0) (R.getD i []) := by
 have hxl := h.xl
 have e : xs[i]? = some (xs.getD i und) := by
  rw [List.getD_eq_getElem?_getD, List.getElem?_eq_getElem (by omega), Option.getD_some]
 rcases h.gs with ⟨_, h2⟩ | ⟨g, _, h2, _⟩ | ⟨g, n, rfl, h1, h2, h3⟩
 ·subst h2; simp at hxl; omega
 ·subst h2; simp at hxl; omega
 ·rw [Nat.mul_one] at h1;exact ⟨g, by rw [zbl, zbb (by omega)]; simp, h3, e, h.row i hi⟩
theorem LatM.len {G : Hp} {rv : AV} {q : Nat} {xs : List AV} {bs : List Nat} {R : List (List Int)} (h : LatM G rv q xs bs R) : zcH rv = some R.length := by
 have := h.gs.len Nat.one_pos
 rwa [Nat.div_one, h.xl] at this
theorem LatM.put {G : Hp} {rv : AV} {q : Nat} {xs : List AV} {bs : List Nat} {R : List (List Int)} (h : LatM G rv q xs bs R) {i : Nat} (hi : i < R.length) {B : Option Blk} {r : List Int} (hr : RowM (G.set (bs.getD i 0) B) (xs.getD i und) (bs.getD i 0) r) :
  LatM (G.set (bs.getD i 0) B) rv q xs bs (R.set i r) := by
 have hbl := h.bl
 have hgi : ∀ k, k < bs.length -> bs.getD k 0 = bs[k]! := fun k hk => by simp [hk]
 have hmem : ∀ k, k < bs.length -> bs.getD k 0 ∈ bs := fun k hk => by
  rw [List.getD_eq_getElem?_getD, List.getElem?_eq_getElem hk, Option.getD_some];exact List.getElem_mem _
 have hnd := List.nodup_cons.1 h.nd
 have hne : ∀ k, k < bs.length -> k ≠ i -> bs.getD k 0 ≠ bs.getD i 0 := fun k hk hki e => by
  rw [List.getD_eq_getElem?_getD, List.getElem?_eq_getElem hk, Option.getD_some, List.getD_eq_getElem?_getD, List.getElem?_eq_getElem (show i < bs.length by omega), Option.getD_some] at e;exact hki ((List.getElem_inj hnd.2).1 e)
 have hq : bs.getD i 0 ≠ q := fun e => hnd.1 (e ▸ hmem i (by omega))
 have hk := h.keep (G' := G.set (bs.getD i 0) B);refine ⟨?_, by rw [List.length_set]; exact h.xl, by rw [List.length_set]; exact h.bl, h.nd, fun k hk => ?_⟩
 ·have hqq : (G.set (bs.getD i 0) B)[q]? = G[q]? := List.getElem?_set_ne hq
  rcases h.gs with h | ⟨g, h1, h2, h3⟩ | ⟨g, n, h1, h2, h3, h4⟩
  ·exact .inl h
  ·exact .inr (.inl ⟨g, h1, h2, (zad hqq).trans h3⟩)
  ·exact .inr (.inr ⟨g, n, h1, h2, h3, (zad hqq).trans h4⟩)
 ·rw [List.length_set] at hk
  by_cases e : k = i
  ·subst e
   have e1 : (R.set k r).getD k [] = r := by simp [List.getD_eq_getElem?_getD, hi]
   rw [e1];exact hr
  ·have e1 : (R.set i r).getD k [] = R.getD k [] := by simp [List.getD_eq_getElem?_getD, Ne.symm e]
   rw [e1];exact (h.row k hk).same (List.getElem?_set_ne (Ne.symm (hne k (by omega) e)))
def setE (R : List (List Int)) (i j : Nat) (x : Int) : List (List Int) := R.set i ((R.getD i []).set j x)
def redJ (R : List (List Int)) (i k : Nat) (q d : Int) : Nat -> List (List Int)
 | 0 => R
 | t + 1 => setE (redJ R i k q d t) i (k + 1 + t) ((ent (redJ R i k q d t) i (k + 1 + t) - q * ent (redJ R i k q d t) k (k + 1 + t)) % d)
def redK (n : Nat) (R : List (List Int)) (i : Nat) (d : Int) : Nat -> List (List Int)
 | 0 => R
 | t + 1 => redJ (setE (redK n R i d t) i (i + 1 + t) (ent (redK n R i d t) i (i + 1 + t) % ent (redK n R i d t) (i + 1 + t) (i + 1 + t))) i (i + 1 + t) (ent (redK n R i d t) i (i + 1 + t) / ent (redK n R i d t) (i + 1 + t) (i + 1 + t)) d (n - (i + 1 + t) - 1)
def redI (n : Nat) (R : List (List Int)) (d : Int) : Nat -> List (List Int)
 | 0 => R
 | t + 1 => redK n (redI n R d t) (n - 1 - t) d t
structure LB (R : List (List Int)) (n : Nat) (d : Int) : Prop where
 len : R.length = n
 row : ∀ i, i < n -> (R.getD i []).length = n
 el : ∀ i j, i < n -> j < n -> 0 <= ent R i j /\ ent R i j <= d
 diag : ∀ i, i < n -> 0 < ent R i i
theorem ze1 {R : List (List Int)} {n i j i' j' : Nat} {x : Int} (hl : R.length = n) (hr : ∀ i, i < n -> (R.getD i []).length = n) (hi : i < n) (hj : j < n) : ent (setE R i j x) i' j' = if i' = i /\ j' = j then x else ent R i' j' := by
 unfold ent rw_ setE;have h1 := hr i hi
 by_cases e : i' = i
 ·subst e
  have e1 : (R.set i' ((R.getD i' []).set j x)).getD i' [] = (R.getD i' []).set j x := by simp [List.getD_eq_getElem?_getD, List.getElem?_set, show i' < R.length by omega]
  rw [e1]
  by_cases e2 : j' = j
  ·subst e2;rw [if_pos ⟨rfl, rfl⟩, List.getD_eq_getElem?_getD, List.getElem?_set, if_pos rfl, if_pos (by omega)];rfl
  ·rw [if_neg (by rintro ⟨_, h⟩; exact e2 h), List.getD_eq_getElem?_getD, List.getElem?_set, if_neg (Ne.symm e2), <- List.getD_eq_getElem?_getD]
 ·rw [if_neg (by rintro ⟨h, _⟩; exact e h)]
  congr 1
  rw [List.getD_eq_getElem?_getD, List.getElem?_set, if_neg (Ne.symm e), <- List.getD_eq_getElem?_getD]
theorem LB.setE {R : List (List Int)} {n i j : Nat} {d x : Int} (h : LB R n d) (hi : i < n) (hj : j < n) (hx : 0 <= x /\ x <= d) (hd : i = j -> 0 < x) : LB (setE R i j x) n d := by
 have e := fun i' j' => ze1 (x := x) (i' := i') (j' := j') h.len h.row hi hj
 refine ⟨by unfold YtgchabldcnmccabDoor.setE; rw [List.length_set]; exact h.len, fun i' hi' => ?_, fun i' j' hi' hj' => ?_, fun i' hi' => ?_⟩
 ·unfold YtgchabldcnmccabDoor.setE;rw [List.getD_eq_getElem?_getD, List.getElem?_set]
  by_cases e1 : i = i'
  ·subst e1;rw [if_pos rfl, if_pos (by have := h.len; omega), Option.getD_some, List.length_set];exact h.row i hi
  ·rw [if_neg e1, <- List.getD_eq_getElem?_getD];exact h.row i' hi'
 ·rw [e]
  split
  ·exact hx
  ·exact h.el i' j' hi' hj'
 ·rw [e]
  split
  ·rename_i h1;exact hd (h1.1.symm.trans h1.2)
  ·exact h.diag i' hi'
theorem LB.redJ {n : Nat} {d q : Int} {i k : Nat} (hd : 0 < d) (hik : i < k) : ∀ {t : Nat} {R : List (List Int)}, LB R n d -> i < n -> k + 1 + t <= n -> LB (redJ R i k q d t) n d
 | 0, R, h, _, _ => h
 | t + 1, R, h, hi, hk => by
  have ih := LB.redJ (q := q) hd hik (t := t) h hi (by omega);have h1 := Int.emod_nonneg (ent (YtgchabldcnmccabDoor.redJ R i k q d t) i (k + 1 + t) - q * ent (YtgchabldcnmccabDoor.redJ R i k q d t) k (k + 1 + t)) (show d ≠ 0 by omega);have h2 := Int.emod_lt_of_pos (ent (YtgchabldcnmccabDoor.redJ R i k q d t) i (k + 1 + t) - q * ent (YtgchabldcnmccabDoor.redJ R i k q d t) k (k + 1 + t)) hd
  exact ih.setE hi (by omega) ⟨h1, by omega⟩ fun e => by omega
theorem LB.redK {n : Nat} {d : Int} {i : Nat} (hd : 0 < d) : ∀ {t : Nat} {R : List (List Int)}, LB R n d -> i + 1 + t <= n -> LB (redK n R i d t) n d
 | 0, R, h, _ => h
 | t + 1, R, h, hk => by
  have ih := LB.redK (i := i) hd (t := t) h (by omega);have hp := ih.diag (i + 1 + t) (by omega);have he := ih.el (i + 1 + t) (i + 1 + t) (by omega) (by omega);have h1 := Int.emod_nonneg (ent (YtgchabldcnmccabDoor.redK n R i d t) i (i + 1 + t)) (show ent (YtgchabldcnmccabDoor.redK n R i d t) (i + 1 + t) (i + 1 + t) ≠ 0 by omega);have h2 := Int.emod_lt_of_pos (ent (YtgchabldcnmccabDoor.redK n R i d t) i (i + 1 + t)) hp;exact LB.redJ hd (by omega) (ih.setE (by omega) (by omega) ⟨h1, by omega⟩ fun e => by omega) (by omega) (by omega)
theorem LB.redI {n : Nat} {d : Int} (hd : 0 < d) : ∀ {t : Nat} {R : List (List Int)}, LB R n d -> t <= n -> LB (redI n R d t) n d
 | 0, R, h, _ => h
 | t + 1, R, h, hk => LB.redK hd (LB.redI hd (t := t) h (by omega)) (by omega)
theorem LB.mult {n : Nat} {d : Int} (hd : 0 < d) : LB (zcj n n d) n d := by
 have hrow : ∀ i, i < n -> (zcj n n d).getD i [] = (List.replicate n 0).set i d := fun i hi => by
  simp [zcj, List.getD_eq_getElem?_getD, hi]
 have he : ∀ i j, i < n -> j < n -> ent (zcj n n d) i j = if i = j then d else 0 := fun i j hi hj => by
  unfold ent rw_;rw [hrow i hi, List.getD_eq_getElem?_getD, List.getElem?_set]
  by_cases e : i = j
  ·rw [if_pos e, if_pos e, if_pos (by simpa using hi)]; rfl
  ·rw [if_neg e, if_neg e]; simp [hj]
 refine ⟨by simp [zcj], fun i hi => by rw [hrow i hi]; simp, fun i j hi hj => ?_, fun i hi => ?_⟩
 ·rw [he i j hi hj]
  split <;> omega
 ·rw [he i i hi hi, if_pos rfl];exact hd
end Go.Proofs.YtgchabldcnmccabDoor

