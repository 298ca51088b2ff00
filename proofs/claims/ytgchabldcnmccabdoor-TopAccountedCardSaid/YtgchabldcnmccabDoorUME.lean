import Derived.Test.YtgchabldcnmccabDoorUMD
import Derived.Test.YtgchabldcnmccabDoorUMA
import Derived.Test.YtgchabldcnmccabDoorAbsI

set_option linter.unusedSimpArgs false
set_option linter.unusedVariables false

namespace Go.Proofs.YtgchabldcnmccabDoor
open Go.Zz
def zhu (rows : List (List Int)) (js : List Nat) (i : Nat) : List Int := js.map (ent rows i)
def zdg (rows : List (List Int)) (js : List Nat) (d : Int) : Nat -> List (List Int)
 | 0 => zcj js.length js.length d
 | i + 1 => (addI js.length (zdg rows js d i) (zhu rows js i) d js.length).1
def zlh (rows : List (List Int)) (s : Fr) (x : List Int) (j k : Nat) : Int := zag (fun k => x.getD k 0 * zab (ent rows) s.is (s.js.set k j)) k
def zrK (rows : List (List Int)) (s : Fr) (x : List Int) (j : Nat) : Int := (zlh rows s x j s.js.length).tdiv s.d
def zfg (rows : List (List Int)) (s : Fr) (x : List Int) : List Int := (List.range 6).map (zrK rows s x)
def zfJ (rows : List (List Int)) (s : Fr) : List (List Int) := redI s.js.length (zdg rows s.js (zbm s.d) rows.length) (zbm s.d) s.js.length
def zbx (rows : List (List Int)) : Fr := frame rows [0, 1, 2, 3, 4, 5] 6
def zaI (rows : List (List Int)) : List (List Int) := (zfJ rows (zbx rows)).map (zfg rows (zbx rows))
def zie (rows : List (List Int)) : List (List Int) := if VM rows then zaI rows else []
def zjP (rows : List (List Int)) : Int := if VM rows then 0 else 1
structure FrB (rows : List (List Int)) (s : Fr) : Prop where
 d : s.d = zab (ent rows) s.is s.js
 ne : s.d ≠ 0
 bd : -1000000000 <= s.d /\ s.d <= 1000000000
 i : okI rows s.is
 j : okJ s.js
 nd : s.is.Nodup
 len : s.is.length = s.js.length
 six : s.js.length <= 6
theorem FrOk.toB {rows : List (List Int)} {ord : List Nat} {k : Nat} {s : Fr} (h : FrOk rows ord k s) (hv : VM rows) (h6 : ∀ i, i < rows.length -> (rw_ rows i).length = 6) (ho : okJ ord) (hol : ord.length <= 6) : FrB rows s := by
 have hs := h.sub.trans (List.take_sublist _ _);have hj := ho.sub hs;have hb := (zch (rows := rows) (c := 1) (by decide) h.i (hj.toW h6)).1;rw [<- h.d] at hb;have := zc7 hv h.nodup h.i;exact ⟨h.d, h.ne, ⟨by omega, by omega⟩, h.i, hj, h.nodup, h.len, Nat.le_trans hs.length_le hol⟩
theorem FrB.abs {rows : List (List Int)} {s : Fr} (h : FrB rows s) : 0 < zbm s.d /\ zbm s.d <= 1000000000 := by
 have := h.ne;have := h.bd;unfold zbm
 split <;> omega
theorem zn3 {rows : List (List Int)} {js : List Nat} {i : Nat} (he : okE (rw_ rows i)) (hj : okJ js) : VC (zhu rows js i) js.length := by
 refine ⟨by simp [zhu], fun j hjl => ?_⟩
 have e : (zhu rows js i).getD j 0 = ent rows i (js.getD j 0) := by simp [zhu, List.getD_eq_getElem?_getD, hjl]
 rw [e]
 have : js.getD j 0 < 6 := by
  rw [List.getD_eq_getElem?_getD, List.getElem?_eq_getElem hjl];exact hj.2 _ (List.getElem_mem hjl)
 exact he _ this
theorem zhy {rows : List (List Int)} {js : List Nat} {d : Int} (hd : 0 < d) (hd9 : d <= 1000000000) (he : ∀ i, i < rows.length -> okE (rw_ rows i)) (hj : okJ js) : ∀ {i : Nat}, i <= rows.length -> LB (zdg rows js d i) js.length d
 | 0, _ => LB.mult hd
 | i + 1, hi => (LB.addI hd hd9 (zhy hd hd9 he hj (i := i) (by omega)) (zn3 (he i (by omega)) hj) (Nat.le_refl _)).1
theorem zmJ {rows : List (List Int)} {s : Fr} {x : List Int} {j : Nat} (hx : ∀ k, k < s.js.length -> 0 <= x.getD k 0 /\ x.getD k 0 <= 1000000000) (hr : ∀ k, k < s.js.length -> -1000000000 <= zab (ent rows) s.is (s.js.set k j) /\ zab (ent rows) s.is (s.js.set k j) <= 1000000000) :
  ∀ k, k <= s.js.length -> -(k * 1000000000000000000 : Int) <= zlh rows s x j k /\ zlh rows s x j k <= k * 1000000000000000000
 | 0, _ => by simp [zlh, zag]
 | k + 1, hk => by
  obtain ⟨h1, h2⟩ := zmJ hx hr k (by omega);have h3 := zjr (hr k (by omega)) (hx k (by omega));rw [Int.mul_comm] at h3;have e : zlh rows s x j (k + 1) = zlh rows s x j k + x.getD k 0 * zab (ent rows) s.is (s.js.set k j) := rfl;rw [e];omega
theorem zgE {a b M : Int} (hb : b ≠ 0) (h : -M <= a /\ a <= M) : -M <= a.tdiv b /\ a.tdiv b <= M := by
 have h1 : (a.tdiv b).natAbs <= a.natAbs := by
  rw [Int.natAbs_tdiv];exact Nat.div_le_self _ _
 omega
def zbi (rows : List (List Int)) : List AV := (rows.map zaa).flatten
theorem zdQ {rows : List (List Int)} (h6 : ∀ r ∈ rows, r.length = 6) : (zbi rows).length = rows.length * 6 := by
 induction rows with
 | nil => rfl
 | cons r rows ih =>
  have h1 := h6 r (by simp)
  have h2 := ih fun r hr => h6 r (by simp [hr])
  unfold zbi at h2 ⊢;rw [List.map_cons, List.flatten_cons, List.length_append, h2, zae, h1, List.length_cons];omega
theorem zob (a : List (List Int)) (r : List Int) : zbi (a ++ [r]) = zbi a ++ zaa r := by simp [zbi]
theorem zfk (rows : List (List Int)) : (zbi rows).all za9 = true := by
 induction rows with
 | nil => rfl
 | cons r rows ih =>
  have h1 : (zaa r).all za9 = true := zbs _;unfold zbi at ih ⊢;rw [List.map_cons, List.flatten_cons, List.all_append, h1, ih];rfl
theorem zaK {r : List Int} {j : Nat} (h : j < r.length) : (zaa r)[j]? = some (.int .i64 (r.getD j 0)) := by
 simp [zaa, h]
theorem zbp {r : List Int} {j : Nat} (h : j < r.length) (x : Int) : Zz.over (zaa r) j [.int .i64 x] = some (zaa (r.set j x)) := by
 rw [zcM (by rw [zae]; exact h), zhB]
theorem zav {r : List Int} (h : r.length = 6) : Zz.cut (zaa r) 0 6 = some (zaa r) := zlt h
theorem zaN {r : List Int} (h : r.length = 6) {x0 x1 x2 x3 x4 x5 : AV} : Zz.over [x0, x1, x2, x3, x4, x5] 0 (zaa r) = some (zaa r) := zlj h
theorem zn8 {G : Hp} {L : List (Option ALoop)} {v : AV} {q : Nat} {rows : List (List Int)} {r : List Int} (h : GS 6 G v q (zbi rows)) (h6 : ∀ r ∈ rows, r.length = 6) (hr : r.length = 6) (hl : rows.length < 1000000) (X : Hp) {id : Nat} (hid : Zz.look (G ++ X) id 0 = some (zaa r)) :
  ∃ v' q' H', zaH 6 48 ⟨G ++ X, L⟩ v (.sref id 0 0 6 1 (some 1)) = some (v', ⟨H', L⟩) /\ GS 6 H' v' q' (zbi (rows ++ [r])) /\ (q' = q \/ q' = G.length + X.length) /\ G.length + X.length <= H'.length /\ ∀ j, j < G.length + X.length -> j ≠ q -> H'[j]? = (G ++ X)[j]? := by
 have hfl := zdQ h6;obtain ⟨v', q', H', a1, a2, a3, a4, a5⟩ := (h.more X).append (L := L) (bytes := 48) (n := 1) (cap := some 1) hid (by rw [zae, hr]) Nat.one_pos (by decide) ⟨by rw [hfl]; omega, by rw [hfl]; omega⟩;rw [List.length_append] at a3 a4 a5;exact ⟨v', q', H', a1, by rw [zob]; exact a2, a3, a4, a5⟩
theorem GS.rows {H : Hp} {v : AV} {q : Nat} {rows : List (List Int)} (h : GS 6 H v q (zbi rows)) (h6 : ∀ r ∈ rows, r.length = 6) : ∃ x, RwL x rows /\ Zz.resC H v = some x := by
 have hl := zdQ h6
 have hc : ∀ c ∈ rows.map zaa, c.length = 6 := fun c hc => by
  obtain ⟨r, hr, rfl⟩ := List.mem_map.1 hc;rw [zae];exact h6 r hr
 rcases h with ⟨rfl, h1⟩ | ⟨g, rfl, h1, h2⟩ | ⟨g, n, rfl, h1, h2, h3⟩
 ·rw [h1] at hl;have : rows = [] := List.length_eq_zero_iff.1 (by simp at hl; omega);subst this;exact ⟨.snil, ⟨hc, .inl ⟨rfl, rfl⟩⟩, rfl⟩
 ·rw [h1] at hl;have : rows = [] := List.length_eq_zero_iff.1 (by simp at hl; omega);subst this;exact ⟨.sval true 0 [], ⟨hc, .inr ⟨true, rfl⟩⟩, by rw [ziQ h2 rfl rfl]; rfl⟩
 ·have hn : n = rows.length := by omega
  subst hn;exact ⟨_, ⟨hc, .inr ⟨_, by rw [List.length_map]; rfl⟩⟩, ziQ h3 h1 (zfk rows)⟩
set_option maxRecDepth 100000
set_option maxHeartbeats 8000000
theorem zbf {a b : List Int} (hl : a.length = b.length) (h : ∀ t, t < a.length -> a.getD t 0 = b.getD t 0) : a = b := by
 apply List.ext_getElem hl;intro i h1 h2;have := h i h1
 rwa [List.getD_eq_getElem?_getD, List.getElem?_eq_getElem h1, List.getD_eq_getElem?_getD, List.getElem?_eq_getElem h2] at this
theorem RowM.of {G X : Hp} {w : List Int} {n id : Nat} (hid : Zz.look (G ++ X) id 0 = some (zaa w)) (hw : w.length = n) : RowM (G ++ X) (.sref id 0 0 1 n (some n)) id w :=
 ⟨0, 0, some n, _, by rw [hw], hid, by rw [zae]; omega, by rw [List.drop_zero, List.take_of_length_le (by rw [zae]; exact Nat.le_refl _)], .inr (by rw [hw])⟩
theorem f27 {l : AV} {rows : List (List Int)} (hl : RwL l rows) (hv : VM rows) : WF E16 (.func 48 [] []) [l] ⟨[], []⟩ fun y m' => ∃ v q, y = .tuple [v, .int .i64 0] /\ GS 6 m'.heap v q (zbi (zaI rows)) := by
 have hr8 := hv.1;have hlen := hl.len
 have c11 := fun m => s25 (m := m) hl (by omega)
 rw [decide_eq_true hv] at c11;obtain ⟨ov, hov, c32⟩ := s83;obtain ⟨hok, iv, jv, hiv, hjv, c31⟩ := s82 hl hv hov zhg (by decide);have hF : frame rows [0, 1, 2, 3, 4, 5] ([0, 1, 2, 3, 4, 5] : List Nat).length = zbx rows := rfl;rw [hF] at hok hiv hjv c31;have hB := hok.toB hv (fun i hi => hl.six hi) zhg (by decide);clear hok hF;have hherm : zaI rows = (zfJ rows (zbx rows)).map (zfg rows (zbx rows)) := rfl;generalize zbx rows = S at *;obtain ⟨hd0, hd9⟩ := hB.abs;have hn6 := hB.six;have hjl := hjv.len;have hil6 := hB.len
 have c30 := fun m => s81 (m := m) (x := S.d) (by have := hB.bd; omega)
 have hlc := hl.cells;have hic := hiv.cells;have hjc := hjv.cells;unfold AV.cells at hlc hic hjc;refine zx0 rfl (zaz Tryd.func48 zti) (by show 1 <= 107; decide) ?_;unfold ir48;simp only [zaw, List.replicate, zNA, zAN]
 repeat' (first |refine zE (by intro; simp (disch := omega) only [go_sem]; rfl) ?_ |refine zx2 (by intro; simp (disch := omega) only [go_sem, Option.bind_eq_bind, Nat.reduceAdd]; rfl) ?_ |refine zS rfl rfl (c11 _) ?_ |refine zS rfl rfl (c32 _) ?_ |refine zS rfl rfl (c31 _) ?_ |refine zF rfl (by intro; exact zaf (by simp only [go_sem]; exact hjl)) rfl ?_ |refine zP rfl rfl (fun V => c30 _) ?_ |refine zy1 ?_ |refine zy2 ?_ |refine zy3 ?_ |(simp only [fl1]) |refine zx4 ?_ |refine zF rfl (by intro; simp (disch := omega) only [go_sem, Nat.reduceAdd]; rfl) rfl ?_ |refine WT.big rfl rfl (by intro; simp (disch := omega) only [go_sem, Nat.reduceAdd]; rfl) (by simp (disch := omega) only [go_sem, zbh]; rfl) (by first | exact .inl rfl | exact .inr (zan _) | exact .inr trivial | (right; apply zau; simp only [zaR, zNA, zCA, List.getElem?_cons_succ, List.getElem?_cons_zero, Tch.free, and_true, true_and]; first | done | omega)) (by simp only [pt8, pt1, pt4, pt5]; rfl) ?_ |refine zy9 rfl ?_ |refine zy6 ?_)
 refine WT.callR (fun y R => ∃ rv q xs bs, y = .agg [.int .i64 (zbm S.d), rv] /\ (∀ V : Hp, V.length = 2 -> LatM (V ++ R) rv q xs bs (zcj S.js.length S.js.length (zbm S.d)) /\ q < V.length + R.length) /\ (∀ b ∈ bs, 2 <= b) /\ 2 <= q) [] rfl rfl (fun j hj => by cases hj) ?_ ?_
 ·intro V hV _;refine (f84 (E := E16) rfl (zaz Tryd.func44 zqN) (n := S.js.length) (d := zbm S.d) (by omega)).mono ?_;rintro y m' ⟨rv, q, xs, bs, H', rfl, rfl, hlat, hext, hbs, hq, hqH⟩;obtain ⟨R, rfl⟩ := hext.split;have hV2 : V.length = 2 := hV;refine ⟨rfl, R, rfl, rv, q, xs, bs, rfl, fun V' hV' => ⟨hlat.keep ?_ fun b hb => ?_, ?_⟩, fun b hb => by have := hbs b hb; omega, by omega⟩
  ·rw [List.getElem?_append_right (by omega), List.getElem?_append_right (by omega), hV2, hV']
  ·have := hbs b hb;rw [List.getElem?_append_right (by omega), List.getElem?_append_right (by omega), hV2, hV']
  ·rw [List.length_append] at hqH;omega
 rintro _ R ⟨rv, q, xs, bs, rfl, hlat0, hbs, hq2⟩;simp only [pt8, pt6, zCA, zNA];have hlat := hlat0 [some ⟨0, [l, iv, jv, .int .i64 S.d]⟩, some ⟨0, [.int .i64 (zbm S.d), rv]⟩] rfl;simp only [zCA, zNA] at hlat;obtain ⟨hlat, hqG⟩ := hlat
 have hrc : rv.cells = some [rv] := by
  rcases hlat.gs with ⟨rfl, _⟩ | ⟨g, rfl, _⟩ | ⟨g, n, rfl, _⟩ <;> rfl
 unfold AV.cells at hrc
 repeat' (first |refine zE (by intro; simp (disch := omega) only [go_sem]; rfl) ?_ |refine WO.opE (by intro; exact zaf (by simp only [go_sem]; first | rfl | assumption)) (by simp only [pt8, pt0]; rfl) ?_ |refine zy1 ?_ |refine zy2 ?_ |refine zy3 ?_ |(simp only [fl1]) |refine zx6 ?_ |refine zx3 rfl rfl (by intro; simp (disch := omega) only [go_sem, Zz.look, Zz.over, List.set_cons_zero, List.set_cons_succ, Option.bind_eq_bind, Nat.reduceAdd, Nat.reduceLeDiff]; rfl) (by simp (disch := omega) only [go_sem, zbh]; rfl) (by first | exact .inl rfl | exact .inr (zan _) | exact .inr trivial | (right; apply zau; simp only [zaR, zNA, zCA, List.getElem?_cons_succ, List.getElem?_cons_zero, Tch.free, and_true, true_and]; first | done | omega)) ?_ |refine zy5 ?_)
 clear hlat0;generalize hG0 : (some ⟨0, [l, iv, jv, .int .i64 S.d]⟩ :: some ⟨0, [.int .i64 (zbm S.d), rv]⟩ :: R : Hp) = G0 at *
 have k00 : Zz.look G0 0 0 = some [l, iv, jv, .int .i64 S.d] := by rw [<- hG0]; rfl
 have k01 : Zz.look G0 1 0 = some [.int .i64 (zbm S.d), rv] := by rw [<- hG0]; rfl
 have hqG0 : q < G0.length := by rw [<- hG0]; simp at hqG ⊢; omega
 refine zx9 (fun m s => ∃ T G i, s = ⟨T, G, []⟩ /\ T.length = 107 /\ gt T 4 = .pref 0 0 0 /\ gt T 5 = .pref 1 0 0 /\ gt T 31 = l /\ gt T 32 = .int .i64 (rows.length : Nat) /\ gt T 33 = .int .i64 (i : Nat) /\ m + i = rows.length /\ Zz.look G 0 0 = some [l, iv, jv, .int .i64 S.d] /\ Zz.look G 1 0 = some [.int .i64 (zbm S.d), rv] /\ q < G.length /\ LatM G rv q xs bs (zdg rows S.js (zbm S.d) i)) ?_ rows.length _ ⟨_, G0, 0, rfl, rfl, rfl, rfl, rfl, rfl, rfl, by omega, k00, k01, hqG0, hlat⟩;clear hlat k00 k01 hqG0 hqG hG0;rintro m _ ⟨T, G, i, rfl, hT, g4, g5, g31, g32, g33, hm, k0, k1, hqG, hlat⟩;obtain ⟨f, rfl⟩ := exG hT;clear hT;change f 4 = _ at g4;change f 5 = _ at g5;change f 31 = _ at g31;change f 32 = _ at g32;change f 33 = _ at g33;simp only [tb, Nat.reduceAdd, g4, g5, g31, g32, g33];have hlb := zhy hd0 hd9 hv.2.1 hB.j (show i <= rows.length by omega);have l0 := zah k0;have l1 := zah k1
 by_cases hin : i < rows.length
 ·have h6 := hl.six hin;have hat := hl.at hin;have hcut := zcu (t := zet rows i) h6
  have hov := fun x0 x1 x2 x3 x4 x5 => zaN h6 (x0 := x0) (x1 := x1) (x2 := x2) (x3 := x3) (x4 := x4) (x5 := x5)
  have hcr : (rw_ rows i).map (AV.int .i64) = zaa (rw_ rows i) := rfl;rw [hcr] at hat hcut
  have hml : (zaa (rw_ rows i)).length = 6 := by rw [zae, h6]
  have hcut0 := zav h6
  repeat' (first |refine zE (by intro; simp (disch := omega) only [go_sem, List.append_assoc, List.length_append, hat, hcut, k0, zap]; rfl) ?_ |refine zx2 (by intro; simp (disch := omega) only [go_sem, Option.bind_eq_bind, zbB, hov, hml, lk0]; rfl) ?_ |refine WO.opE (by intro; exact zaf (by simp only [go_sem]; first | rfl | assumption)) (by simp only [pt8, pt3, pt7]; rfl) ?_ |refine zE (by intro; exact zkC (by omega) rfl rfl) ?_ |refine zy1 ?_ |refine zy2 ?_ |refine zy3 ?_ |(simp only [fl1]) |refine zy6 ?_ |refine zy5 ?_ |refine zy4 rfl (fun hp => ?_) (fun hp => ?_) <;> try (exfalso; first | omega | contradiction))
  refine zx9 (fun m2 s => ∃ T w k, s = ⟨T, G ++ [some ⟨0, zaa (rw_ rows i)⟩, some ⟨0, zaa w⟩], []⟩ /\ T.length = 107 /\ gt T 4 = .pref 0 0 0 /\ gt T 5 = .pref 1 0 0 /\ gt T 7 = .pref G.length 0 0 /\ gt T 8 = .sref (G.length + 1) 0 0 1 S.js.length (some S.js.length) /\ gt T 31 = l /\ gt T 32 = .int .i64 (rows.length : Nat) /\ gt T 33 = .int .i64 (i : Nat) /\ gt T 42 = jv /\ gt T 43 = .int .i64 (S.js.length : Nat) /\ gt T 44 = .int .i64 (k : Nat) /\ m2 + k = S.js.length /\ w.length = S.js.length /\ ∀ t, t < k -> w.getD t 0 = ent rows i (S.js.getD t 0)) ?_ S.js.length _ ⟨_, List.replicate S.js.length 0, 0, by first | rfl | simp, rfl, rfl, rfl, rfl, by first | rfl | simp, rfl, rfl, rfl, rfl, rfl, rfl, by omega, by simp, fun t ht => by omega⟩;clear g4 g5 g31 g32 g33 f;rintro m2 _ ⟨T, w, k, rfl, hT, g4, g5, g7, g8, g31, g32, g33, g42, g43, g44, hm2, hwl, hw⟩;obtain ⟨f, rfl⟩ := exG hT;clear hT;change f 4 = _ at g4;change f 5 = _ at g5;change f 7 = _ at g7;change f 8 = _ at g8;change f 31 = _ at g31;change f 32 = _ at g32;change f 33 = _ at g33;change f 42 = _ at g42;change f 43 = _ at g43;change f 44 = _ at g44;simp only [tb, Nat.reduceAdd, g4, g5, g7, g8, g31, g32, g33, g42, g43, g44]
  by_cases hk : k < S.js.length
  ·obtain ⟨t2, hat2⟩ := hjv.at hk
   have hj6 : S.js.getD k 0 < 6 := by
    rw [List.getD_eq_getElem?_getD, List.getElem?_eq_getElem hk];exact hB.j.2 _ (List.getElem_mem hk)
   have hix : zaj 1 (.sref (G.length + 1) 0 0 1 S.js.length (some S.js.length)) (.int .i64 (k : Int)) = some (.pref (G.length + 1) 0 k) := by rw [zbl, zbb hk]; simp
   have hia := zaK (r := rw_ rows i) (j := S.js.getD k 0) (by omega);have hovw := zbp (r := w) (j := k) (by omega) ((rw_ rows i).getD (S.js.getD k 0) 0)
   repeat' (first |refine zE (by intro; simp (disch := omega) only [go_sem, hat2, hix, hia, lk0, Nat.mul_one]; rfl) ?_ |refine zx2 (by intro; simp (disch := omega) only [go_sem, Option.bind_eq_bind, zlp, hovw, lk1]; rfl) ?_ |refine zy1 ?_ |refine zy2 ?_ |refine zy3 ?_ |(simp only [zbr]) |refine zy6 ?_ |refine zy5 ?_ |refine zy4 rfl (fun hp => ?_) (fun hp => ?_) <;> try (exfalso; first | omega | contradiction))
   exact ⟨m2 - 1, by omega, _, w.set k ((rw_ rows i).getD (S.js.getD k 0) 0), k + 1, by first | rfl | simp, rfl, rfl, rfl, rfl, rfl, rfl, rfl, rfl, rfl, rfl, rfl, by omega, by simpa using hwl, fun t ht => by
    by_cases e : t = k
    ·subst e; rw [zaD (by omega)]; rfl
    ·rw [zay (by omega)]; exact hw t (by omega)⟩
  ·have hke : k = S.js.length := by omega
   subst hke
   have hwe : w = zhu rows S.js i := zbf (by simp [zhu, hwl]) fun t ht => by
    rw [hw t (by omega)];simp [zhu, List.getD_eq_getElem?_getD, show t < S.js.length by omega]
   have hG1 : Zz.look (G ++ [some ⟨0, zaa (rw_ rows i)⟩, some ⟨0, zaa w⟩]) 1 0 = some [.int .i64 (zbm S.d), rv] := (zap l1).trans k1;have hG0 : Zz.look (G ++ [some ⟨0, zaa (rw_ rows i)⟩, some ⟨0, zaa w⟩]) 0 0 = some [l, iv, jv, .int .i64 S.d] := (zap l0).trans k0;have hrow : RowM (G ++ [some ⟨0, zaa (rw_ rows i)⟩, some ⟨0, zaa w⟩]) (.sref (G.length + 1) 0 0 1 S.js.length (some S.js.length)) (G.length + 1) w := RowM.of (lk1 rfl) hwl
   have hlat1 : LatM (G ++ [some ⟨0, zaa (rw_ rows i)⟩, some ⟨0, zaa w⟩]) rv q xs bs (zdg rows S.js (zbm S.d) i) := hlat.keep (List.getElem?_append_left hqG) fun b hb => List.getElem?_append_left (hlat.blt hb)
   have hbv : G.length + 1 ∉ q :: bs := fun hm => by
    rcases List.mem_cons.1 hm with h | h
    ·omega
    ·have := hlat.blt h; omega
   have hVC : VC w S.js.length := by rw [hwe]; exact zn3 (hv.2.1 i hin) hB.j
   have hs : zdg rows S.js (zbm S.d) (i + 1) = (addI S.js.length (zdg rows S.js (zbm S.d) i) w (zbm S.d) S.js.length).1 := by rw [hwe]; rfl
   generalize hG2 : G ++ [some ⟨0, zaa (rw_ rows i)⟩, some ⟨0, zaa w⟩] = G2 at *
   have hG2l : G2.length = G.length + 2 := by rw [<- hG2]; simp
   repeat' (first |refine zE (by intro; simp (disch := omega) only [go_sem, hG1]; rfl) ?_ |refine zy1 ?_ |refine zy2 ?_ |refine zy3 ?_ |(simp only [fl1, fl4]) |refine zy8 ?_ |refine zy4 rfl (fun hp => ?_) (fun hp => ?_) <;> try (exfalso; first | omega | contradiction))
   refine WO.call rfl rfl ((f85 (E := E16) rfl (zaz Tryd.func60 zsL) rfl (by omega) hd0 hd9 hlat1 hlb (by omega) hrow hVC hbv).mono ?_);rintro y m' ⟨H', rfl, hlat2, _, hlen2, hkeep⟩;simp only [pt8, pt2];have k0' : Zz.look H' 0 0 = some [l, iv, jv, .int .i64 S.d] := (zad (hkeep 0 (by omega) (fun h => by have := hbs 0 h; omega) (by omega))).trans hG0;have k1' : Zz.look H' 1 0 = some [.int .i64 (zbm S.d), rv] := (zad (hkeep 1 (by omega) (fun h => by have := hbs 1 h; omega) (by omega))).trans hG1
   repeat' (first |refine zE (by intro; simp (disch := omega) only [go_sem]; rfl) ?_ |refine zy2 ?_ |refine zy3 ?_ |(simp only [zbr]))
   exact ⟨m - 1, by omega, _, H', i + 1, rfl, rfl, rfl, rfl, rfl, rfl, rfl, by omega, k0', k1', by omega, by rw [hs]; exact hlat2⟩
 ·have hie : i = rows.length := by omega
  subst hie
  repeat' (first |refine zE (by intro; simp (disch := omega) only [go_sem, k1]; rfl) ?_ |refine zy1 ?_ |refine zy2 ?_ |refine zy3 ?_ |(simp only [fl1]) |refine zy8 ?_ |refine zy4 rfl (fun hp => ?_) (fun hp => ?_) <;> try (exfalso; first | omega | contradiction))
  refine WO.call rfl rfl ((f86 (E := E16) rfl (zaz Tryd.func61 zsb) rfl (by omega) hd0 hd9 hlat hlb hqG).mono ?_);rintro y m' ⟨H', rfl, hlat2, hlen2, hkeep⟩;simp only [pt8, pt5];have k0' : Zz.look H' 0 0 = some [l, iv, jv, .int .i64 S.d] := (zad (hkeep 0 l0 (fun h => by have := hbs 0 h; omega))).trans k0;have k1' : Zz.look H' 1 0 = some [.int .i64 (zbm S.d), rv] := (zad (hkeep 1 l1 (fun h => by have := hbs 1 h; omega))).trans k1;have hX : zfJ rows S = redI S.js.length (zdg rows S.js (zbm S.d) rows.length) (zbm S.d) S.js.length := rfl;rw [<- hX] at hlat2
  have hXB : LB (zfJ rows S) S.js.length (zbm S.d) := by rw [hX]; exact LB.redI hd0 hlb (Nat.le_refl _)
  have hrl := hlat2.len;rw [hXB.len] at hrl;generalize zfJ rows S = X at *
  repeat' (first |refine zE (by intro; simp (disch := omega) only [go_sem, k1']; rfl) ?_ |refine WO.opE (by intro; exact zaf (by simp only [go_sem]; first | rfl | assumption)) (by simp only [pt8, pt0]; rfl) ?_ |refine zy1 ?_ |refine zy2 ?_ |refine zy3 ?_ |(simp only [fl1]) |refine zy5 ?_)
  clear hlat k0 k1 hkeep hX;have hXl := hXB.len;have hflat0 : zbi ((X.take 0).map (zfg rows S)) = [] := rfl;refine zx9 (fun m s => ∃ T G ov qo i, s = ⟨T, G, []⟩ /\ T.length = 107 /\ gt T 4 = .pref 0 0 0 /\ gt T 11 = ov /\ gt T 63 = rv /\ gt T 64 = .int .i64 (S.js.length : Nat) /\ gt T 65 = .int .i64 (i : Nat) /\ m + i = S.js.length /\ Zz.look G 0 0 = some [l, iv, jv, .int .i64 S.d] /\ H'.length <= G.length /\ LatM G rv q xs bs X /\ GS 6 G ov qo (zbi ((X.take i).map (zfg rows S))) /\ H'.length <= qo) ?_ S.js.length _ ⟨_, H', .snil, H'.length, 0, rfl, rfl, rfl, rfl, rfl, rfl, rfl, by omega, k0', Nat.le_refl _, hlat2, .inl ⟨rfl, hflat0⟩, Nat.le_refl _⟩
  have hqH : q < H'.length := by omega
  have hbH : ∀ b ∈ bs, b < H'.length := fun b hb => hlat2.blt hb
  have h0H := zah k0';clear hlat2 k0' k1' g4 g5 g31 g32 g33 f;rintro m _ ⟨T, G, ov, qo, i, rfl, hT, g4, g11, g63, g64, g65, hm, k0, hGl, hlat, hgs, hqo⟩;obtain ⟨f, rfl⟩ := exG hT;clear hT;change f 4 = _ at g4;change f 11 = _ at g11;change f 63 = _ at g63;change f 64 = _ at g64;change f 65 = _ at g65;simp only [tb, Nat.reduceAdd, g4, g11, g63, g64, g65]
  by_cases hin : i < S.js.length
  ·obtain ⟨gi, ai1, ai2, ai3, hRi⟩ := hlat.at (i := i) (by omega);have hx := hRi.len;have hxc := hRi.cell;unfold AV.cells at hxc;have hil := hXB.row i hin;rw [hil] at hx;have hlx := zah ai2;generalize hxe : xs.getD i und = x at *;have hz6 : ([.int .i64 0, .int .i64 0, .int .i64 0, .int .i64 0, .int .i64 0, .int .i64 0] : List AV) = zaa (List.replicate 6 0) := rfl
   have k0G : ∀ c : List AV, Zz.look (G ++ [some ⟨0, c⟩]) 0 0 = some [l, iv, jv, .int .i64 S.d] := fun c => (zap (by omega)).trans k0
   repeat' (first |refine zE (by intro; simp (disch := omega) only [go_sem, ai1, ai2, ai3, hz6]; rfl) ?_ |refine zy1 ?_ |refine zy2 ?_ |refine zy3 ?_ |(simp only [fl1]) |refine zy6 ?_ |refine zy5 ?_ |refine zy4 rfl (fun hp => ?_) (fun hp => ?_) <;> try (exfalso; first | omega | contradiction))
   refine zx9 (fun m2 s => ∃ T w j, s = ⟨T, G ++ [some ⟨0, zaa w⟩], []⟩ /\ T.length = 107 /\ gt T 4 = .pref 0 0 0 /\ gt T 11 = ov /\ gt T 13 = x /\ gt T 14 = .pref G.length 0 0 /\ gt T 63 = rv /\ gt T 64 = .int .i64 (S.js.length : Nat) /\ gt T 65 = .int .i64 (i : Nat) /\ gt T 69 = .int .i64 (j : Nat) /\ m2 + j = 6 /\ w.length = 6 /\ (∀ t, t < j -> w.getD t 0 = zrK rows S (X.getD i []) t) /\ ∀ t, j <= t -> t < 6 -> w.getD t 0 = 0) ?_ 6 _ ⟨_, List.replicate 6 0, 0, rfl, rfl, rfl, rfl, rfl, rfl, rfl, rfl, rfl, rfl, by omega, rfl, fun t ht => by omega, fun t _ ht => by rcases (by omega : t = 0 \/ t = 1 \/ t = 2 \/ t = 3 \/ t = 4 \/ t = 5) with rfl | rfl | rfl | rfl | rfl | rfl <;> rfl⟩;clear g4 g11 g63 g64 g65 f ai1 ai3;rintro m2 _ ⟨T, w, j, rfl, hT, g4, g11, g13, g14, g63, g64, g65, g69, hm2, hwl, hw1, hw2⟩;obtain ⟨f, rfl⟩ := exG hT;clear hT;change f 4 = _ at g4;change f 11 = _ at g11;change f 13 = _ at g13;change f 14 = _ at g14;change f 63 = _ at g63;change f 64 = _ at g64;change f 65 = _ at g65;change f 69 = _ at g69;simp only [tb, Nat.reduceAdd, g4, g11, g13, g14, g63, g64, g65, g69]
   have hxB : ∀ k, k < S.js.length -> 0 <= (X.getD i []).getD k 0 /\ (X.getD i []).getD k 0 <= 1000000000 := fun k hk => by
    have := hXB.el i k hin hk;have e : ent X i k = (X.getD i []).getD k 0 := rfl;rw [e] at this;omega
   by_cases hj6 : j < 6
   ·have hrB : ∀ k, k < S.js.length -> -1000000000 <= zab (ent rows) S.is (S.js.set k j) /\ zab (ent rows) S.is (S.js.set k j) <= 1000000000 := fun k hk => by
     have h1 := zjR (rows := rows) (fun i hi => hl.six hi) hB.i hB.j hB.len hk hj6;have h2 := zc7 hv hB.nd hB.i;omega
    have hsb := zmJ (j := j) hxB hrB
    repeat' (first |refine zE (by intro; simp (disch := omega) only [go_sem]; rfl) ?_ |refine WO.opE (by intro; exact zaf (by simp only [go_sem]; first | rfl | assumption)) (by simp only [pt8, pt1]; rfl) ?_ |refine zy1 ?_ |refine zy2 ?_ |refine zy3 ?_ |(simp only [fl1]) |refine zy6 ?_ |refine zy5 ?_ |refine zy4 rfl (fun hp => ?_) (fun hp => ?_) <;> try (exfalso; first | omega | contradiction))
    refine zx9 (fun m3 s => ∃ T w k, s = ⟨T, G ++ [some ⟨0, zaa w⟩], []⟩ /\ T.length = 107 /\ gt T 4 = .pref 0 0 0 /\ gt T 11 = ov /\ gt T 13 = x /\ gt T 14 = .pref G.length 0 0 /\ gt T 15 = .int .i64 (j : Nat) /\ gt T 63 = rv /\ gt T 64 = .int .i64 (S.js.length : Nat) /\ gt T 65 = .int .i64 (i : Nat) /\ gt T 69 = .int .i64 (j : Nat) /\ gt T 72 = x /\ gt T 73 = .int .i64 (S.js.length : Nat) /\ gt T 74 = .int .i64 (k : Nat) /\ m3 + k = S.js.length /\ w.length = 6 /\ (∀ t, t < j -> w.getD t 0 = zrK rows S (X.getD i []) t) /\ w.getD j 0 = zlh rows S (X.getD i []) j k /\ ∀ t, j + 1 <= t -> t < 6 -> w.getD t 0 = 0) ?_ S.js.length _ ⟨_, w, 0, rfl, rfl, rfl, rfl, rfl, rfl, rfl, rfl, rfl, rfl, rfl, rfl, rfl, rfl, by omega, hwl, hw1, hw2 j (Nat.le_refl _) hj6, fun t h1 h2 => hw2 t (by omega) h2⟩;clear g4 g11 g13 g14 g63 g64 g65 g69 f hwl hw1 hw2;rintro m3 _ ⟨T, w, k, rfl, hT, g4, g11, g13, g14, g15, g63, g64, g65, g69, g72, g73, g74, hm3, hwl, hw1, hwj, hw2⟩;obtain ⟨f, rfl⟩ := exG hT;clear hT;change f 4 = _ at g4;change f 11 = _ at g11;change f 13 = _ at g13;change f 14 = _ at g14;change f 15 = _ at g15;change f 63 = _ at g63;change f 64 = _ at g64;change f 65 = _ at g65;change f 69 = _ at g69;change f 72 = _ at g72;change f 73 = _ at g73;change f 74 = _ at g74;simp only [tb, Nat.reduceAdd, g4, g11, g13, g14, g15, g63, g64, g65, g69, g72, g73, g74];have hia := zaK (r := w) (j := j) (by omega);rw [hwj] at hia
    have hovw := fun y => zbp (r := w) (j := j) (by omega) y
    by_cases hk : k < S.js.length
    ·obtain ⟨g1', o1, c1, b1, b2, b3, _⟩ := hRi.at (i := k) (by omega);have hlb2 := zah b2;have hxk := hxB k hk;have hrk := hrB k hk;have hmul := zjr hrk hxk;rw [Int.mul_comm] at hmul;have hsk := hsb k (by omega);have hsk1 := hsb (k + 1) (by omega);have hse : zlh rows S (X.getD i []) j (k + 1) = zlh rows S (X.getD i []) j k + (X.getD i []).getD k 0 * zab (ent rows) S.is (S.js.set k j) := rfl
     have c36 := fun m => s87 (m := m) (d := S.d) (k := k) (j := j) hl hv hiv hjv hB.i hB.nd hB.j (by omega) hn6 hk hj6
     by_cases hx0 : (X.getD i []).getD k 0 = 0
     ·rw [hx0] at b3;rw [hx0, Int.zero_mul, Int.add_zero] at hse
      repeat' (first |refine zE (by intro; simp (disch := omega) only [go_sem, b1, b2, b3, zap]; rfl) ?_ |refine zy1 ?_ |refine zy2 ?_ |refine zy3 ?_ |(simp only [fl1, zbr]) |refine zy9 rfl ?_ |refine zy6 ?_ |refine zy5 ?_ |refine zy4 rfl (fun hp => ?_) (fun hp => ?_) <;> try (exfalso; first | omega | contradiction))
      exact ⟨m3 - 1, by omega, _, w, k + 1, rfl, rfl, rfl, rfl, rfl, rfl, rfl, rfl, rfl, rfl, rfl, rfl, rfl, rfl, by omega, hwl, hw1, by rw [hse]; exact hwj, hw2⟩
     ·have hx01 := hx0
      repeat' (first |refine zE (by intro; simp (disch := omega) only [go_sem, b1, b2, b3, zap]; rfl) ?_ |refine zP rfl rfl (fun V => c36 _) ?_ |refine zy1 ?_ |refine zy2 ?_ |refine zy3 ?_ |(simp only [fl1, fl4, zbr]) |refine zx4 ?_ |refine zx6 ?_ |refine zF rfl (by intro; simp (disch := omega) only [go_sem, k0G, hia, lk0, zl8, Nat.mul_one]; rfl) rfl ?_ |refine WT.big rfl rfl (by intro; simp (disch := omega) only [go_sem, k0G, hia, lk0, zl8]; rfl) (by simp (disch := omega) only [go_sem, zbh]; rfl) (by first | exact .inl rfl | exact .inr (zan _) | exact .inr trivial | (right; apply zau; simp only [zaR, zNA, zCA, List.getElem?_cons_succ, List.getElem?_cons_zero, Tch.free, and_true, true_and]; first | done | omega)) (by simp only [pt8, pt3, pt5]; rfl) ?_ |refine zx3 rfl rfl (by intro; simp (disch := omega) only [go_sem, Option.bind_eq_bind, zbB, hovw, lk0]; rfl) (by simp (disch := omega) only [go_sem, zbh]; rfl) (by first | exact .inl rfl | exact .inr (zan _) | exact .inr trivial | (right; apply zau; simp only [zaR, zNA, zCA, List.getElem?_cons_succ, List.getElem?_cons_zero, Tch.free, and_true, true_and]; first | done | omega)) ?_ |refine zy6 ?_ |refine zy5 ?_ |refine zy4 rfl (fun hp => ?_) (fun hp => ?_) <;> try (exfalso; first | omega | contradiction))
      exact ⟨m3 - 1, by omega, _, w.set j (zlh rows S (X.getD i []) j k + (X.getD i []).getD k 0 * zab (ent rows) S.is (S.js.set k j)), k + 1, rfl, rfl, rfl, rfl, rfl, rfl, rfl, rfl, rfl, rfl, rfl, rfl, rfl, rfl, by omega, by simpa using hwl, fun t ht => by rw [zay (by omega)]; exact hw1 t ht, by rw [zaD (by omega), hse], fun t h1 h2 => by rw [zay (by omega)]; exact hw2 t h1 h2⟩
    ·have hke : k = S.js.length := by omega
     subst hke;have hd0' : ¬ S.d = 0 := hB.ne;have hsk := hsb S.js.length (Nat.le_refl _);have hout : (zlh rows S (X.getD i []) j S.js.length).tdiv S.d = zrK rows S (X.getD i []) j := rfl;have htb := zgE (a := zlh rows S (X.getD i []) j S.js.length) (M := 9000000000000000000) hd0' (by omega);rw [hout] at htb
     repeat' (first |refine zE (by intro; simp (disch := omega) only [go_sem, k0G, hia, lk0, hd0', if_false, hout, Nat.mul_one]; rfl) ?_ |refine zx2 (by intro; simp (disch := omega) only [go_sem, Option.bind_eq_bind, zbB, hovw, lk0]; rfl) ?_ |refine zy1 ?_ |refine zy2 ?_ |refine zy3 ?_ |(simp only [fl1, fl3, fl6, fl9, zbr]) |refine zx5 rfl ?_ |refine zy8 ?_ |refine zy4 rfl (fun hp => ?_) (fun hp => ?_) <;> try (exfalso; first | omega | contradiction))
     exact ⟨m2 - 1, by omega, _, w.set j (zrK rows S (X.getD i []) j), j + 1, rfl, rfl, rfl, rfl, rfl, rfl, rfl, rfl, rfl, rfl, by omega, by simpa using hwl, fun t ht => by
      by_cases e : t = j
      ·subst e; rw [zaD (by omega)]
      ·rw [zay (by omega)]; exact hw1 t (by omega), fun t h1 h2 => by rw [zay (by omega)]; exact hw2 t h1 h2⟩
   ·have hje : j = 6 := by omega
    subst hje
    have hwe : w = zfg rows S (X.getD i []) := zbf (by simp [zfg, hwl]) fun t ht => by
     rw [hw1 t (by omega)];simp [zfg, List.getD_eq_getElem?_getD, show t < 6 by omega]
    have h6s : ∀ r ∈ (X.take i).map (zfg rows S), r.length = 6 := fun r hr => by
     obtain ⟨x, _, rfl⟩ := List.mem_map.1 hr;simp [zfg]
    have hnext : (X.take i).map (zfg rows S) ++ [w] = (X.take (i + 1)).map (zfg rows S) := by
     rw [hwe, List.take_add_one, List.map_append, List.getElem?_eq_getElem (by omega), List.getD_eq_getElem?_getD, List.getElem?_eq_getElem (by omega)];rfl
    have hmlw : (zaa w).length = 6 := by rw [zae, hwl]
    have hcutw := zav hwl
    have hovw := fun x0 x1 x2 x3 x4 x5 => zaN hwl (x0 := x0) (x1 := x1) (x2 := x2) (x3 := x3) (x4 := x4) (x5 := x5)
    obtain ⟨ov', q', H2, a1, a2, a3, a4, a5⟩ := zn8 (L := []) hgs h6s hwl (by simp; omega) [some ⟨0, zaa w⟩, some ⟨0, zaa w⟩] (lk1 rfl);rw [hnext] at a2
    have hk5 : ∀ j, j < G.length -> j ≠ qo -> H2[j]? = G[j]? := fun j h1 h2 => by rw [a5 j (by omega) h2, List.getElem?_append_left h1]
    simp only [List.length_cons, List.length_nil, Nat.zero_add, Nat.reduceAdd] at a3 a4
    repeat' (first |refine zE (by intro; simp (disch := omega) only [go_sem, zaZ, Option.bind_eq_bind, List.append_assoc, za0, List.length_append, hcutw, hovw, hmlw, lk0]; rfl) ?_ |refine zE (by intro; rw [zbj]; exact a1) ?_ |refine zy1 ?_ |refine zy2 ?_ |refine zy3 ?_ |(simp only [zbr]) |refine zy9 rfl ?_ |refine zy8 ?_)
    exact ⟨m - 1, by omega, _, H2, ov', q', i + 1, rfl, rfl, rfl, rfl, rfl, rfl, rfl, by omega, (zad (hk5 0 (by omega) (by omega))).trans k0, by omega, hlat.keep (hk5 q (by omega) (by omega)) fun b hb => hk5 b (by have := hbH b hb; omega) (by have := hbH b hb; omega), a2, by omega⟩
  ·have hie : i = S.js.length := by omega
   subst hie;rw [List.take_of_length_le (by omega), <- hherm] at hgs
   repeat' (first |refine zE (by intro; simp (disch := omega) only [go_sem]; rfl) ?_ |refine zy1 ?_ |refine zy2 ?_ |refine zy3 ?_ |(simp only [fl1]) |refine zy8 ?_ |refine zy7 ?_ |refine zy4 rfl (fun hp => ?_) (fun hp => ?_) <;> try (exfalso; first | omega | contradiction))
   exact ⟨_, rfl, ov, qo, rfl, hgs⟩
set_option maxRecDepth 100000
set_option maxHeartbeats 8000000
theorem GS.resA {sz : Nat} {H : Hp} {v : AV} {q : Nat} {c : List AV} (h : GS sz H v q c) : Zz.resA H v = Zz.resC H v := by
 rcases h with ⟨rfl, _⟩ | ⟨g, rfl, _⟩ | ⟨g, n, rfl, _⟩ <;> rfl
theorem zkF {rows X : List (List Int)} {S : Fr} : ∀ r ∈ X.map (zfg rows S), r.length = 6 := fun r hr => by
 obtain ⟨x, _, rfl⟩ := List.mem_map.1 hr;simp [zfg]
noncomputable def E17 : Env := E16.put 48 (zar E16 48)
theorem zt0 : EnvOk Tryd.prog E17 := Env.put_ok znP (zax znP (zaq Tryd.func48 (by kernel_rfl)))
def vecM (rows : List (List Int)) (js : List Nat) (d : Int) (i : Nat) : List Int := js.map fun j => ent rows i j % d
def znS (rows : List (List Int)) (js : List Nat) (d : Int) : Nat -> List (List Int)
 | 0 => zcj js.length js.length d
 | i + 1 => (insI js.length (znS rows js d i) (vecM rows js d i) d js.length).1
def zto (rows : List (List Int)) (s : Fr) : List (List Int) := redI s.js.length (znS rows s.js (zbm s.d) rows.length) (zbm s.d) s.js.length
def zsa (rows : List (List Int)) : List (List Int) := (zto rows (zbx rows)).map (zfg rows (zbx rows))
def hermRR (rows : List (List Int)) : List (List Int) := if VM rows then zsa rows else []
theorem zlP (a : List Int) (x : Int) : zaa (a ++ [x]) = zaa a ++ [.int .i64 x] := by simp [zaa]
theorem zrZ {G : Hp} {L : List (Option ALoop)} {v : AV} {q : Nat} {w : List Int} (h : GS 1 G v q (zaa w)) (hl : w.length < 1000000) (x : Int) (X : Hp) {id : Nat} (hid : Zz.look (G ++ X) id 0 = some [.int .i64 x]) :
  ∃ v' q' H', zaH 1 8 ⟨G ++ X, L⟩ v (.sref id 0 0 1 1 (some 1)) = some (v', ⟨H', L⟩) /\ GS 1 H' v' q' (zaa (w ++ [x])) /\ (q' = q \/ q' = G.length + X.length) /\ G.length + X.length <= H'.length /\ ∀ j, j < G.length + X.length -> j ≠ q -> H'[j]? = (G ++ X)[j]? := by
 obtain ⟨v', q', H', a1, a2, a3, a4, a5⟩ := (h.more X).append (L := L) (bytes := 8) (n := 1) (cap := some 1) hid rfl Nat.one_pos (by decide) ⟨by rw [zae]; omega, by rw [zae]; omega⟩;rw [List.length_append] at a3 a4 a5;exact ⟨v', q', H', a1, by rw [zlP]; exact a2, a3, a4, a5⟩
theorem RowM.of_gs {H : Hp} {v : AV} {q : Nat} {w : List Int} (h : GS 1 H v q (zaa w)) (hw : 0 < w.length) : RowM H v q w := by
 have hl := zae w
 rcases h with ⟨rfl, h⟩ | ⟨g, rfl, h, _⟩ | ⟨g, n, rfl, h1, h2, h3⟩
 ·rw [h] at hl; simp at hl; omega
 ·rw [h] at hl; simp at hl; omega
 ·have hn : n = w.length := by omega
  subst hn;exact ⟨g, 0, none, _, rfl, h3, by omega, by rw [List.drop_zero, List.take_of_length_le (by omega)], .inl rfl⟩
noncomputable def E18 : Env := E17
theorem zsN : EnvOk Tryd.prog E18 := zt0
end Go.Proofs.YtgchabldcnmccabDoor

