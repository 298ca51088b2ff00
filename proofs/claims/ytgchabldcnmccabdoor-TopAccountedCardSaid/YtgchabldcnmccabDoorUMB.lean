import Derived.Test.YtgchabldcnmccabDoorUMA

set_option linter.unusedSimpArgs false
set_option linter.unusedVariables false

namespace Go.Proofs.YtgchabldcnmccabDoor
open Go.Zz
set_option maxRecDepth 100000
set_option maxHeartbeats 4000000
theorem NatS.tail {x : AV} {i : Nat} {is : List Nat} (h : NatS x (i :: is)) : ∃ y, (∀ H, zaU H 1 x (some (.int .i64 1)) none none = some y) /\ NatS y is := by
 rcases h with ⟨_, h⟩ | ⟨f, rfl⟩
 ·simp at h
 ·refine ⟨.sval (match (if f = true then some (is.length + 1) else none : Option Nat) with | some c => c == is.length + 1 | none => false) is.length ((is.map Int.ofNat).map (.int .i64)), fun H => ?_, .inr ⟨_, by rw [List.length_map]⟩⟩
  have hl : ((i :: is).map Int.ofNat).length = is.length + 1 := by simp
  rw [hl];simp only [zaU, List.length_map, List.length_cons, Nat.mul_one, if_true, zed, zfi, bnd];rw [if_pos ⟨by omega, by omega⟩];simp;exact ⟨by cases f <;> rfl, List.take_of_length_le (by simp)⟩
theorem f89 {l : AV} {rows : List (List Int)} (hl : RwL l rows) (he : ∀ i, i < rows.length -> okE (rw_ rows i)) (hrl : rows.length < 9223372036854775807) {c : Int} (hc : 0 <= c) {L : List (Option ALoop)} :
  ∀ (is : List Nat) (iv jv : AV) (js : List Nat) (H : Hp), NatS iv is -> JS H jv js -> okI rows is -> okW rows c js -> okP rows c is -> is.length < 1000000 -> js.length < 1000000 ->
   WF G0 (.func 55 [] []) [l, iv, jv] ⟨H, L⟩ fun v m' => v = .int .i64 (zab (ent rows) is js) /\ ∃ R, m' = ⟨H ++ R, L⟩
 | [], iv, jv, js, H, hiv, hjs, hi, hj, hp9, hil, hjl => by
  have hivl := hiv.len;refine zx0 rfl (zaz Tryd.func55 ztZ) (by show 3 <= 58; decide) ?_;unfold ir55;simp only [zaw, List.replicate, zNA, zAN]
  repeat' (first |refine zE (by intro; simp (disch := omega) only [go_sem]; rfl) ?_ |refine WO.opE (by intro; exact zaf (by simp only [go_sem]; first | rfl | assumption)) (by simp only [pt8, pt5]; rfl) ?_ |refine zy1 ?_ |refine zy2 ?_ |refine zy3 ?_ |(simp only [fl1, fl2]) |refine zy0 rfl ?_ |refine zy7 ?_)
  exact ⟨_, rfl, rfl, [], by rw [List.append_nil]; rfl⟩
 | ii :: is', iv, jv, js, H, hiv, hjs, hi, hj, hp9, hil, hjl => by
  have hivl := hiv.len;have hjvl := hjs.len;have hii := hi ii (by simp);obtain ⟨t1, hat1⟩ := hiv.at (k := 0) (by simp);have hat1' : zaj 1 iv (.int .i64 0) = some (.pval (.int .i64 ((ii : Nat) : Int) :: t1)) := hat1;obtain ⟨iv', hsl, hiv'⟩ := hiv.tail;have h6 := hl.six hii;have hrow := hl.at hii;have hP := hp9 _ (List.suffix_refl _)
  have hoI : okI rows is' := fun x hx => hi x (by simp [hx])
  have hop : okP rows c is' := fun s hs => hp9 s (hs.trans (List.suffix_cons _ _))
  have hbnd := (zch hc hi hj).2 ii is' rfl
  have has : ∀ n, zeF rows ii js n <= c * zdE (rw_ rows ii) := fun n => hj.at hii n
  have hpe : zcg rows c (ii :: is') = c * zdE (rw_ rows ii) * zcg rows c is' := rfl;have hPn := zdq rows hc is';refine zx0 rfl (zaz Tryd.func55 ztZ) (by show 3 <= 58; decide) ?_;unfold ir55;simp only [zaw, List.replicate, zNA, zAN]
  repeat' (first |refine zE (by intro; simp (disch := omega) only [go_sem]; rfl) ?_ |refine WO.opE (by intro; exact zaf (by simp only [go_sem]; first | rfl | assumption)) (by simp only [pt8, pt5]; rfl) ?_ |refine zy1 ?_ |refine zy2 ?_ |refine zy3 ?_ |(simp only [fl1]) |refine zy9 rfl ?_ |refine zy6 ?_ |refine zy5 ?_)
  refine zx9 (fun m st => ∃ T R k S0 s0, st = ⟨T, H ++ R, L⟩ /\ T.length = 58 /\ gt T 0 = l /\ gt T 1 = iv /\ gt T 2 = jv /\ gt T 7 = .int .i64 S0 /\ gt T 8 = .int .i64 s0 /\ gt T 9 = .int .i64 (k : Nat) /\ m + k = js.length /\ S0 = zdy (fun p => ent rows ii (js.getD p 0) * zab (ent rows) is' (js.eraseIdx p)) k /\ s0 = sg k) ?_ js.length _ ⟨_, [], 0, 0, 1, by rw [List.append_nil], rfl, rfl, rfl, rfl, rfl, rfl, rfl, by omega, rfl, rfl⟩;rintro m _ ⟨T, R, k, S0, s0, rfl, hT, g0, g1, g2, g7, g8, g9, hm, hS0, hs0⟩;obtain ⟨f, rfl⟩ := exG hT;clear hT;change f 0 = _ at g0;change f 1 = _ at g1;change f 2 = _ at g2;change f 7 = _ at g7;change f 8 = _ at g8;change f 9 = _ at g9;simp only [tb, Nat.reduceAdd, g0, g1, g2, g7, g8, g9];have hjR := hjs.ext (Ext.app H R)
  by_cases hk : k < js.length
  ·have hkj := hj.nd hk;obtain ⟨y, hy1, hy2, _⟩ := hjR.at hk;have hdr := zny (r := rw_ rows ii) (t := zet rows ii) (j := js.getD k 0) (by omega);have hx1 := he ii hii (js.getD k 0) hkj;have hb1 := hbnd k (by omega);have hb2 := hbnd (k + 1) (by omega);have ha1 := zeP (rows := rows) (i := ii) hk;have ha0 := zkr (rows := rows) (i := ii) (us := js) k;have hs1 := has (k + 1);have hent : ent rows ii (js.getD k 0) = (rw_ rows ii).getD (js.getD k 0) 0 := rfl;rw [hent] at ha1;have hr1 := Int.mul_le_mul_of_nonneg_right hs1 hPn;have hr0 := Int.mul_le_mul_of_nonneg_right (has k) hPn;have hax := Int.mul_le_mul_of_nonneg_right (show zbm ((rw_ rows ii).getD (js.getD k 0) 0) <= c * zdE (rw_ rows ii) by have := zhh ((rw_ rows ii).getD (js.getD k 0) 0); omega) hPn;rw [<- hpe] at hr1 hr0 hax;have hjE := hj.sub (List.eraseIdx_sublist js k);have hM := (zch hc (is := is') (us := js.eraseIdx k) hoI hjE).1;obtain ⟨hc1, hc2⟩ := zhe (x := (rw_ rows ii).getD (js.getD k 0) 0) hM
   have hnx : zdy (fun p => ent rows ii (js.getD p 0) * zab (ent rows) is' (js.eraseIdx p)) (k + 1) = zdy (fun p => ent rows ii (js.getD p 0) * zab (ent rows) is' (js.eraseIdx p)) k + sg k * ((rw_ rows ii).getD (js.getD k 0) 0 * zab (ent rows) is' (js.eraseIdx k)) := by
    simp only [zdy, hent]
   have hsg := zde k;have hso := zjT k;rw [<- hS0, <- hs0] at hnx;rw [<- hS0] at hb1;rw [<- hs0] at hsg hso;have hB : Ext (H ++ R) ((H ++ R) ++ [(some ⟨0, []⟩ : Option Blk)]) := Ext.app _ _;obtain ⟨x1, e1, e1l, e1c⟩ := (hjR.ext hB).take (k := k) (by omega);obtain ⟨x2, e2, e2l, e2c⟩ := hjR.drop (k := k + 1) (by omega)
   have hcast : (((k + 1 : Nat) : Int)) = (k : Int) + 1 := by omega
   rw [hcast] at e2;have heq : js.take k ++ js.drop (k + 1) = js.eraseIdx k := (List.eraseIdx_eq_take_drop_succ js k).symm;have g0 : GS 1 ((H ++ R) ++ [(some ⟨0, []⟩ : Option Blk)]) (.sref (H ++ R).length 0 0 1 0 (some 0)) (H ++ R).length [] := .inr (.inl ⟨0, rfl, rfl, lk0 rfl⟩);obtain ⟨v1, q1, H1, a1, a2, a3, a4, a5⟩ := g0.appendX (L := L) (bytes := 8) (n := k) e1c e1l (by rw [zai, List.length_take]; omega) Nat.one_pos ⟨by simp; omega, by simp; omega⟩;rw [List.nil_append] at a2
   have hE1 : Ext (H ++ R) H1 := ⟨by simp at a4 ⊢; omega, fun j hj' => by rw [a5 j (by simp at hj' ⊢; omega) (by omega), hB.2 j hj']⟩
   obtain ⟨v2, q2, H2, c1, c2, c3, c4, c5⟩ := a2.appendX (L := L) (bytes := 8) (n := js.length - (k + 1)) (zlU hE1 e2c) e2l (by rw [zai, List.length_drop]; omega) Nat.one_pos ⟨by rw [zai, List.length_take, Nat.div_one]; omega, by rw [zai, List.length_take, Nat.div_one]; omega⟩;rw [<- zc4, heq] at c2
   have hq1 : (H ++ R).length <= q1 := by rcases a3 with rfl | rfl; exact Nat.le_refl _; exact (by simp)
   have hE2 : Ext (H ++ R) H2 := ⟨Nat.le_trans hE1.1 c4, fun j hj' => by rw [c5 j (by have := hE1.1; omega) (by omega), hE1.2 j hj']⟩
   have hjs2 := JS.of_gs c2;obtain ⟨R2, hR2⟩ := hE2.split;subst hR2;rw [List.length_append] at a1;have ih := f89 hl he hrl hc (L := L) is' iv' v2 (js.eraseIdx k) _ hiv' hjs2 hoI hjE hop (by simp at hil; omega) (by rw [List.length_eraseIdx]; split <;> omega);generalize hS1 : zdy (fun p => ent rows ii (js.getD p 0) * zab (ent rows) is' (js.eraseIdx p)) (k + 1) = S1 at *;generalize zab (ent rows) is' (js.eraseIdx k) = M at *;generalize hxx : (rw_ rows ii).getD (js.getD k 0) 0 = x at *;generalize hs1g : sg (k + 1) = s1 at *;have hxM : s0 * x * M = s0 * (x * M) := Int.mul_assoc _ _ _
   have hsx : -1000000000 <= s0 * x /\ s0 * x <= 1000000000 := by rcases hso with h | h <;> rw [h] <;> omega
   have hdiff : s0 * x * M = S1 - S0 := by omega
   have hneg : -s0 = s1 := by omega
   have hfin : -9000000000000000000 <= s0 * x * M /\ s0 * x * M <= 9000000000000000000 := by rw [hxM]; rcases hso with h | h <;> rw [h] <;> omega
   have hfin2 : -9000000000000000000 <= S0 + s0 * x * M /\ S0 + s0 * x * M <= 9000000000000000000 := by omega
   by_cases hx0 : x = 0
   ·have hx01 := hx0
    have hSS : S1 = S0 := by rw [hx0, Int.mul_zero, Int.zero_mul] at hdiff; omega
    repeat' (first |refine zE (by intro; simp (disch := omega) only [go_sem, hat1', hy1, hrow, hdr, Nat.mul_one, Int.zero_sub]; rfl) ?_ |refine WO.opE (by intro; exact zaf (by simp only [go_sem]; first | rfl | assumption)) (by simp only [pt8, pt1]; rfl) ?_ |refine zE (by intro; show (zbQ _ _ _ y).map _ = _; rw [hy2]; rfl) ?_ |refine zy1 ?_ |refine zy2 ?_ |refine zy3 ?_ |(simp only [fl1, zbr]) |refine zx5 rfl ?_ |refine zy6 ?_ |refine zy5 ?_ |refine zy4 rfl (fun hp => ?_) (fun hp => ?_) <;> try (exfalso; first | omega | contradiction))
    exact ⟨m - 1, by omega, _, R, k + 1, S0, -s0, rfl, rfl, rfl, rfl, rfl, rfl, rfl, rfl, by omega, by rw [hS1]; exact hSS.symm, by rw [hs1g]; exact hneg⟩
   ·have hx01 := hx0
    repeat' (first |refine zE (by intro; simp (disch := omega) only [go_sem, hat1', hy1, hrow, hdr, Option.map_some, Nat.mul_one]; rfl) ?_ |refine WO.opE (by intro; exact zaf (by simp only [go_sem]; first | rfl | assumption)) (by simp only [pt8, pt1]; rfl) ?_ |refine zE (by intro; show (zbQ _ _ _ y).map _ = _; rw [hy2]; rfl) ?_ |refine zy1 ?_ |refine zy2 ?_ |refine zy3 ?_ |(simp only [fl1]) |refine zx5 rfl ?_ |refine zx4 ?_ |refine zF rfl (by intro; simp (disch := omega) only [go_sem, za0, List.length_append, e1, Option.map_none, Option.map_some]; rfl) rfl ?_ |refine WT.big rfl rfl (by intro; simp (disch := omega) only [go_sem, za0, List.length_append, e1, Option.map_none, Option.map_some]; rfl) (by simp (disch := omega) only [go_sem, List.length_append, zbh]; rfl) (by first | exact .inl rfl | exact .inr (zan _) | exact .inr trivial | (right; apply zau; simp only [zaR, zNA, zCA, List.getElem?_cons_succ, List.getElem?_cons_zero, Tch.free, and_true, true_and]; first | done | omega)) (by simp only [pt8, pt2]; rfl) ?_ |refine zy6 ?_ |refine zy5 ?_ |refine zy4 rfl (fun hp => ?_) (fun hp => ?_) <;> try (exfalso; first | omega | contradiction))
    have hap : ∀ tch : List Tch, tch[0]? = some (.blk (H.length + R.length)) -> zbW tch [0] (zl3 jv) := fun tch ht => by
     rcases hjs with (⟨rfl, _⟩ | ⟨f, rfl⟩) | ⟨q, g, cap, rfl, h1, _⟩
     ·trivial
     ·trivial
     ·refine zau ?_;have := zah h1;simp only [zaR, ht, Tch.free, and_true];omega
    have hap7 : ∀ (tch : List Tch) (t : Tch), tch[7]? = some .none -> zbW tch [7] t := fun tch t ht => by
     cases t <;> simp [zbW, ht, Tch.free]
    refine WT.big (t := zl3 jv) rfl rfl (by intro; rw [ze0]; show (zaU _ 1 jv none (some (.int .i64 (k : Int))) none).map _ = _; rw [e1]; rfl) rfl (.inr (hap _ rfl)) (by simp only [pt8, pt5]; rfl) ?_
    repeat' (first |refine zF rfl (by intro; simp (disch := omega) only [go_sem, e2, Option.map_none, Option.map_some]; rfl) rfl ?_ |refine WT.big rfl rfl (by intro; simp (disch := omega) only [go_sem, e2, Option.map_none, Option.map_some]; rfl) (by simp (disch := omega) only [go_sem, zbh]; rfl) (by first | exact .inl rfl | exact .inr (zan _) | exact .inr trivial | (right; apply zau; simp only [zaR, zNA, zCA, List.getElem?_cons_succ, List.getElem?_cons_zero, Tch.free, and_true, true_and]; first | done | omega)) (by simp only [pt8, pt2]; rfl) ?_)
    refine WT.append (sv := .sref (H.length + R.length) 0 0 1 0 (some 0)) (xv := x1) rfl rfl a1 (hap7 _ _ rfl) (hap7 _ _ rfl) (by simp only [pt8, pt6]; rfl) ?_;refine WT.append (sv := v1) (xv := x2) rfl rfl c1 (zan _) (zan _) (by simp only [pt8, pt3]; rfl) ?_
    repeat' (first |refine zE (by intro; simp (disch := omega) only [go_sem, hsl, Option.map_none, Option.map_some]; rfl) ?_ |refine zy2 ?_ |(simp only [fl1]) |refine zx6 ?_ |refine zF rfl (by intro; simp (disch := omega) only [go_sem]; rfl) rfl ?_)
    refine WO.call rfl rfl (ih.mono ?_);rintro v m' ⟨rfl, R', rfl⟩;simp only [pt8, pt4]
    repeat' (first |refine zE (by intro; simp (disch := omega) only [go_sem, List.append_assoc, Int.zero_sub]; rfl) ?_ |refine zy2 ?_ |refine zy3 ?_ |(simp only [zbr]))
    exact ⟨m - 1, by omega, _, R ++ (R2 ++ R'), k + 1, S0 + s0 * x * M, -s0, rfl, rfl, rfl, rfl, rfl, rfl, rfl, rfl, by omega, by rw [hS1]; omega, by rw [hs1g]; exact hneg⟩
  ·have hke : k = js.length := by omega
   subst hke
   repeat' (first |refine zE (by intro; simp (disch := omega) only [go_sem]; rfl) ?_ |refine WO.opE (by intro; exact zaf (by simp only [go_sem]; first | rfl | assumption)) (by simp only [pt8, pt1]; rfl) ?_ |refine zy1 ?_ |refine zy2 ?_ |refine zy3 ?_ |(simp only [fl1]) |refine zy8 ?_ |refine zy7 ?_ |refine zy4 rfl (fun hp => ?_) (fun hp => ?_) <;> try (exfalso; first | omega | contradiction))
   refine ⟨_, rfl, ?_, R, rfl⟩;simp only [zbo, gt6];rw [hS0];rfl
theorem JS.byVal {H : Hp} {x : AV} {l : List Nat} (h : JS H x l) : ∃ y, Zz.byVal H x = some y /\ NatS y l := by
 rcases h with h | ⟨q, g, cap, rfl, h1, h2⟩
 ·exact ⟨x, IntS.byVal h H, h⟩
 ·have e1 : Zz.cut (zas l) 0 (l.length * 1) = some (zas l) := by
   unfold Zz.cut;rw [if_pos (by rw [zai]; omega), List.drop_zero, List.take_of_length_le (by rw [zai]; omega)]
  have e2 : (zas l).all za9 = true := zbs _;refine ⟨.sval (cap == some l.length) l.length (zas l), ?_, .inr ⟨_, by rw [List.length_map]; rfl⟩⟩
  show Zz.byC H (.sref q g 0 1 l.length cap) = _
  simp only [Zz.byC, h1, e1, e2, if_true]
theorem s89 {l l' iv jv iv' jv' : AV} {rows : List (List Int)} {is js : List Nat} (hl : RwL l rows) (hiv : NatS iv is) (hjv : NatS jv js) (hi : okI rows is) {c : Int} (hc : 0 <= c) (hj : okW rows c js) (hp9 : okP rows c is) (he : ∀ i, i < rows.length -> okE (rw_ rows i)) (hil : is.length < 1000000) (hjl : js.length < 1000000) (hrl : rows.length < 9223372036854775807) {m : Mem} (h0 : Zz.byVal m.heap l' = some l) (h1 : Zz.byVal m.heap iv' = some iv) (h2 : Zz.byVal m.heap jv' = some jv) :
  zaA G0 55 [l', iv', jv'] m = some (.int .i64 (zab (ent rows) is js), m) :=
 zaS (zal h0 (zal h1 (zal h2 rfl))) ((f89 hl he hrl hc is iv jv js [] hiv (.inl hjv) hi hj hp9 hil hjl).mono fun y m' h => by rw [h.1]; rfl)
noncomputable def E5 : Env := E4.put 55 (zaA G0 55)
theorem zty : EnvOk Tryd.prog E5 := Env.put_ok E4_ok (za6 ziG (zaq Tryd.func55 (by kernel_rfl)))
theorem RwL.cells {x : AV} {rows : List (List Int)} (h : RwL x rows) : x.cells = some [x] := SL.cells h
theorem RwL.resC {x : AV} {rows : List (List Int)} (h : RwL x rows) (H : Hp) : Zz.resC H x = some x := by
 have this := h.byVal H;obtain ⟨_, ⟨rfl, _⟩ | ⟨f, rfl⟩⟩ := h
 ·rfl
 ·skip
  simp only [Zz.byVal, Zz.byC] at this;simp only [Zz.resC];exact this
theorem f131 {E : Env} (hE : E.spec 56 = none) (hF : E.fn 56 = some zr2) {x : AV} {l : List Nat} {H : Hp} {L : List (Option ALoop)} (hx : JS H x l) (hl : l.length < 1000000) : WF E (.func 56 [] []) [x] ⟨H, L⟩ fun v m' => ∃ q H', m' = ⟨H', L⟩ /\ GS 1 H' v q (zas l) /\ Ext H H' /\ H.length <= q := by
 have hxl := hx.len;have hB : Ext H (H ++ [(some ⟨0, []⟩ : Option Blk)]) := Ext.app _ _;have g0 : GS 1 (H ++ [(some ⟨0, []⟩ : Option Blk)]) (.sref H.length 0 0 1 0 (some 0)) H.length [] := .inr (.inl ⟨0, rfl, rfl, lk0 rfl⟩)
 have hsc : ∃ c, scells (H ++ [(some ⟨0, []⟩ : Option Blk)]) 1 x = some c /\ c = zas l := by
  rcases hx.ext hB with (⟨rfl, h⟩ | ⟨f, rfl⟩) | ⟨q, g, cap, rfl, h1, _⟩
  ·have e : l = [] := by simpa using h
   subst e;exact ⟨[], rfl, rfl⟩
  ·refine ⟨_, ?_, rfl⟩;simp only [scells, List.length_map, Nat.mul_one, if_true];rfl
  ·refine ⟨_, ?_, rfl⟩;simp only [scells, if_true, h1, Option.bind_some, Zz.cut];rw [if_pos (by rw [zai]; omega), List.drop_zero, List.take_of_length_le (by rw [zai]; omega)]
 obtain ⟨_, hsc, rfl⟩ := hsc;obtain ⟨v1, q1, H1, a1, a2, a3, a4, a5⟩ := g0.appendX (L := L) (bytes := 8) (n := l.length) hsc hxl (by rw [zai]; omega) Nat.one_pos ⟨by simp; omega, by simp; omega⟩;rw [List.nil_append] at a2
 have hE1 : Ext H H1 := ⟨by simp at a4 ⊢; omega, fun j hj' => by rw [a5 j (by simp; omega) (by omega), hB.2 j hj']⟩
 have hq1 : H.length <= q1 := by rcases a3 with rfl | rfl; exact Nat.le_refl _; exact (by simp)
 by_cases hn : x = .snil
 ·subst hn
  have e : l = [] := by
   rcases hx with (⟨_, h⟩ | ⟨f, h⟩) | ⟨q, g, cap, h, _⟩
   ·simpa using h
   ·cases h
   ·cases h
  subst e;refine zx0 hE hF (by show 1 <= 8; decide) ?_;unfold zr2;simp only [zaw, List.replicate, zNA, zAN]
  repeat' (first |refine zE (by intro; simp (disch := omega) only [go_sem, zdx]; rfl) ?_ |refine zy1 ?_ |refine zy2 ?_ |refine zy3 ?_ |(simp only [fl1, fl2]) |refine zy0 rfl ?_ |refine zy7 ?_)
  exact ⟨_, rfl, H.length, H, rfl, .inl ⟨rfl, rfl⟩, Ext.refl _, Nat.le_refl _⟩
 ·have hne : zdx 0 x .snil = some false := by
   rcases hx with (⟨rfl, h⟩ | ⟨f, rfl⟩) | ⟨q, g, cap, rfl, _⟩
   ·exact absurd rfl hn
   ·rfl
   ·rfl
  refine zx0 hE hF (by show 1 <= 8; decide) ?_;unfold zr2;simp only [zaw, List.replicate, zNA, zAN]
  repeat' (first |refine zE (by intro; simp (disch := omega) only [go_sem, za0, hne]; rfl) ?_ |refine zE (by intro; rw [zbj]; exact a1) ?_ |refine zy1 ?_ |refine zy2 ?_ |refine zy3 ?_ |(simp only [fl1]) |refine zy9 rfl ?_ |refine zy6 ?_ |refine zy7 ?_)
  exact ⟨_, rfl, q1, H1, rfl, a2, hE1, hq1⟩
set_option maxRecDepth 100000
set_option maxHeartbeats 8000000
def zdC (rows : List (List Int)) (is js : List Nat) (i : Nat) : Int := zab (ent rows) (is ++ [i]) js
def zcI (rows : List (List Int)) (is js : List Nat) : Option Nat := (List.range rows.length).find? fun i => decide (zdC rows is js i ≠ 0)
structure Fr where
 is : List Nat
 js : List Nat
 d : Int
def zhJ (rows : List (List Int)) (s : Fr) (j : Nat) : Fr := match zcI rows s.is (s.js ++ [j]) with
 | some i => ⟨s.is ++ [i], s.js ++ [j], zdC rows s.is (s.js ++ [j]) i⟩
 | none => s
def frame (rows : List (List Int)) (ord : List Nat) (k : Nat) : Fr := (ord.take k).foldl (zhJ rows) ⟨[], [], 1⟩
theorem zfm {rows : List (List Int)} {ord : List Nat} {k : Nat} (h : k < ord.length) : frame rows ord (k + 1) = zhJ rows (frame rows ord k) (ord.getD k 0) := by
 unfold frame;rw [List.take_add_one, List.getD_eq_getElem?_getD, List.getElem?_eq_getElem h]
 show List.foldl _ _ (ord.take k ++ [ord[k]]) = _
 rw [List.foldl_append];rfl
theorem zeR {rows : List (List Int)} {is js : List Nat} {i : Nat} (hi : i < rows.length) (hn : ∀ k, k < i -> zdC rows is js k = 0) (h : zdC rows is js i ≠ 0) : zcI rows is js = some i := by
 unfold zcI;rw [List.find?_range_eq_some];exact ⟨by simpa using h, by simpa using hi, fun j hj => by simpa using hn j hj⟩
theorem ze5 {rows : List (List Int)} {is js : List Nat} (hn : ∀ k, k < rows.length -> zdC rows is js k = 0) : zcI rows is js = none := by
 unfold zcI;rw [List.find?_eq_none];intro x hx;simpa using hn x (by simpa using hx)
structure FrOk (rows : List (List Int)) (ord : List Nat) (k : Nat) (s : Fr) : Prop where
 d : s.d = zab (ent rows) s.is s.js
 ne : s.d ≠ 0
 i : okI rows s.is
 len : s.is.length = s.js.length
 sub : s.js.Sublist (ord.take k)
theorem zcY {ord : List Nat} {k : Nat} (h : k < ord.length) : ord.take (k + 1) = ord.take k ++ [ord.getD k 0] := by
 rw [List.take_add_one, List.getD_eq_getElem?_getD, List.getElem?_eq_getElem h];rfl
theorem FrOk.none {rows : List (List Int)} {ord : List Nat} {k : Nat} {s : Fr} (h : FrOk rows ord k s) (hk : k < ord.length) : FrOk rows ord (k + 1) s :=
 ⟨h.d, h.ne, h.i, h.len, h.sub.trans (by rw [zcY hk]; exact List.sublist_append_left _ _)⟩
theorem FrOk.some {rows : List (List Int)} {ord : List Nat} {k i : Nat} {s : Fr} (h : FrOk rows ord k s) (hk : k < ord.length) (hi : i < rows.length) (hd : zdC rows s.is (s.js ++ [ord.getD k 0]) i ≠ 0) :
  FrOk rows ord (k + 1) ⟨s.is ++ [i], s.js ++ [ord.getD k 0], zdC rows s.is (s.js ++ [ord.getD k 0]) i⟩ := by
 refine ⟨rfl, hd, fun x hx => ?_, by simp [h.len], ?_⟩
 ·rw [List.mem_append, List.mem_singleton] at hx
  rcases hx with hx | rfl
  ·exact h.i x hx
  ·exact hi
 ·show (s.js ++ [ord.getD k 0]).Sublist _
  rw [zcY hk];exact h.sub.append (List.Sublist.refl _)
theorem FrOk.cols {rows : List (List Int)} {ord : List Nat} {k : Nat} {s : Fr} (h : FrOk rows ord k s) (ho : okJ ord) (hk : k < ord.length) : okJ (s.js ++ [ord.getD k 0]) := by
 refine ho.sub ?_
 have h1 : (s.js ++ [ord.getD k 0]).Sublist (ord.take (k + 1)) := by
  rw [zcY hk];exact h.sub.append (List.Sublist.refl _)
 exact h1.trans (List.take_sublist _ _)
theorem FrOk.nodup {rows : List (List Int)} {ord : List Nat} {k : Nat} {s : Fr} (h : FrOk rows ord k s) : s.is.Nodup := zeq (e := ent rows) (us := s.js) (by rw [<- h.d]; exact h.ne)
theorem FrOk.zero (rows : List (List Int)) (ord : List Nat) : FrOk rows ord 0 ⟨[], [], 1⟩ := ⟨rfl, by decide, fun x hx => (by cases hx), rfl, by simp⟩
theorem zen {rows : List (List Int)} {s : Fr} {j i : Nat} (h : zcI rows s.is (s.js ++ [j]) = some i) : zhJ rows s j = ⟨s.is ++ [i], s.js ++ [j], zdC rows s.is (s.js ++ [j]) i⟩ := by
 unfold zhJ;rw [h]
theorem zeI {rows : List (List Int)} {s : Fr} {j : Nat} (h : zcI rows s.is (s.js ++ [j]) = none) : zhJ rows s j = s := by
 unfold zhJ;rw [h]
def far (N : Nat) : AV -> Prop
 | .sref q _ _ _ _ _ => N <= q
 | .sval _ _ _ => False
 | _ => True
theorem JS.set {H : Hp} {x : AV} {l : List Nat} (h : JS H x l) {b : Nat} (hf : far (b + 1) x) (c : Option Blk) : JS (H.set b c) x l := by
 rcases h with h | ⟨q, g, cap, rfl, h1, h2⟩
 ·exact .inl h
 ·have : b + 1 <= q := hf;exact .inr ⟨q, g, cap, rfl, (zad (List.getElem?_set_ne (by omega))).trans h1, h2⟩
theorem JS.cell {H : Hp} {x : AV} {l : List Nat} (h : JS H x l) : x.cells = some [x] := by
 rcases h with h | ⟨q, g, cap, rfl, _⟩
 ·exact h.cells
 ·rfl
theorem push {H H1 : Hp} {L : List (Option ALoop)} {v : AV} {q : Nat} {l : List Nat} (h : GS 1 H1 v q (zas l)) (he : Ext H H1) (hq : H.length <= q) (x : Nat) (hl : l.length < 1000000) :
  ∃ v' H2, zaH 1 8 ⟨H1 ++ [some ⟨0, [.int .i64 (x : Int)]⟩], L⟩ v (.sref H1.length 0 0 1 1 (some 1)) = some (v', ⟨H2, L⟩) /\ JS H2 v' (l ++ [x]) /\ Ext H H2 /\ far H.length v' := by
 obtain ⟨v', q', H2, a1, a2, a3, a4, a5⟩ := (h.more [some ⟨0, [.int .i64 (x : Int)]⟩]).append (L := L) (bytes := 8) (n := 1) (cap := some 1) (id := H1.length) (lk0 rfl) rfl Nat.one_pos Nat.one_pos ⟨by rw [zai, Nat.div_one]; omega, by rw [zai, Nat.div_one]; omega⟩
 have e : zas l ++ [.int .i64 (x : Int)] = zas (l ++ [x]) := by rw [zc4]; rfl
 rw [e] at a2;have hl1 := he.1;refine ⟨v', H2, a1, JS.of_gs a2, ⟨by simp at a4; omega, fun j hj => ?_⟩, ?_⟩
 ·rw [a5 j (by simp; omega) (by omega), List.getElem?_append_left (by omega), he.2 j hj]
 ·have hq' : H.length <= q' := by
   rcases a3 with rfl | rfl
   ·exact hq
   ·simp; omega
  rcases a2 with ⟨rfl, _⟩ | ⟨g, rfl, _⟩ | ⟨g, n, rfl, _⟩
  ·trivial
  ·exact hq'
  ·exact hq'
theorem far.mono {a b : Nat} {x : AV} (h : far b x) (hab : a <= b) : far a x := by
 cases x <;> first | exact Nat.le_trans hab h | trivial | exact h
set_option maxRecDepth 100000
set_option maxHeartbeats 8000000
theorem zl8 {a b c d : AV} : Zz.cut [a, b, c, d] 0 4 = some [a, b, c, d] := by simp [Zz.cut]
theorem f82 {l ov : AV} {rows : List (List Int)} {ord : List Nat} (hl : RwL l rows) (hv : VM rows) (hov : NatS ov ord) (ho : okJ ord) (hol : ord.length <= 6) :
  WF E5 (.func 38 [] []) [l, ov] ⟨[], []⟩ fun y m' => ∃ iv jv, y = .agg [l, iv, jv, .int .i64 (frame rows ord ord.length).d] /\ JS m'.heap iv (frame rows ord ord.length).is /\ JS m'.heap jv (frame rows ord ord.length).js /\ FrOk rows ord ord.length (frame rows ord ord.length) := by
 have hlen := hl.len;have hlc := hl.cells;unfold AV.cells at hlc;have hovl := hov.len;have hr8 := hv.1;refine zx0 rfl (zaz Tryd.func38 cir38) (by show 2 <= 52; decide) ?_;unfold ir38;simp only [zaw, List.replicate, zNA, zAN]
 repeat' (first |refine zE (by intro; simp (disch := omega) only [go_sem, zaF, zeu, hlc, zaZ, Option.bind_eq_bind]; rfl) ?_ |refine zx2 (by intro; simp (disch := omega) only [go_sem, Zz.look, zh2, Nat.reduceAdd, Option.bind_eq_bind]; rfl) ?_ |refine WO.opE (by intro; exact zaf (by simp only [go_sem]; first | rfl | assumption)) (by simp only [pt8, pt7]; rfl) ?_ |refine zy1 ?_ |refine zy2 ?_ |refine zy3 ?_ |(simp only [fl1]) |refine zy5 ?_)
 refine zx9 (fun m s => ∃ T H iv jv k, ∃ S : Fr, s = ⟨T, H, []⟩ /\ T.length = 52 /\ gt T 0 = l /\ gt T 4 = .pref 0 0 0 /\ gt T 5 = .pref 1 0 0 /\ gt T 14 = ov /\ gt T 15 = .int .i64 (ord.length : Nat) /\ gt T 16 = .int .i64 (k : Nat) /\ m + k = ord.length /\ Zz.look H 0 0 = some [.snil, .snil, .snil, .int .i64 0] /\ Zz.look H 1 0 = some [l, iv, jv, .int .i64 S.d] /\ JS H iv S.is /\ JS H jv S.js /\ far 2 iv /\ far 2 jv /\ S = frame rows ord k /\ FrOk rows ord k S) ?_ ord.length _ ⟨_, _, .snil, .snil, 0, ⟨[], [], 1⟩, rfl, rfl, rfl, rfl, rfl, rfl, rfl, rfl, by omega, rfl, rfl, .inl IntS.nil, .inl IntS.nil, trivial, trivial, rfl, FrOk.zero _ _⟩;rintro m _ ⟨T, H, iv, jv, k, S, rfl, hT, g0, g4, g5, g14, g15, g16, hm, k0, k1, hi, hj, fi, fj, hS, hok⟩;obtain ⟨f, rfl⟩ := exG hT;clear hT;change f 0 = _ at g0;change f 4 = _ at g4;change f 5 = _ at g5;change f 14 = _ at g14;change f 15 = _ at g15;change f 16 = _ at g16;simp only [tb, Nat.reduceAdd, g0, g4, g5, g14, g15, g16]
 by_cases hk : k < ord.length
 ·obtain ⟨t1, hat⟩ := hov.at hk
  have hsl : S.is.length <= 6 /\ S.js.length <= 6 := by
   have h1 := hok.sub.length_le;rw [List.length_take] at h1;have := hok.len;omega
  have hfs := zfm (rows := rows) hk;rw [<- hS] at hfs
  repeat' (first |refine zE (by intro; simp (disch := omega) only [go_sem, hat, k1]; rfl) ?_ |refine zy1 ?_ |refine zy2 ?_ |refine zy3 ?_ |(simp only [fl1]) |refine zy6 ?_ |refine zy5 ?_ |refine zy4 rfl (fun hp => ?_) (fun hp => ?_) <;> try (exfalso; first | omega | contradiction))
  refine WO.call rfl rfl ((f131 (E := E5) rfl (zaz Tryd.func56 zpK) hj (by omega)).mono ?_);rintro v m' ⟨q, H1, rfl, hg, he1, hq⟩;simp only [pt8, pt6];obtain ⟨v8, H2, a1, hj2, he2, f8⟩ := push (L := []) hg he1 hq (ord.getD k 0) (by omega)
  repeat' (first |refine zE (by intro; simp (disch := omega) only [go_sem, za0, zaF]; rfl) ?_ |refine WO.opE (by intro; exact zaf (by simp only [go_sem]; first | rfl | assumption)) (by simp only [pt8, pt3]; rfl) ?_ |refine zE (by intro; rw [zbj]; exact a1) ?_ |refine zy1 ?_ |refine zy2 ?_ |refine zy3 ?_ |(simp only [fl1]) |refine zy5 ?_)
  refine zx9 (fun m1 s => ∃ T R i, s = ⟨T, H2 ++ R, []⟩ /\ T.length = 52 /\ gt T 0 = l /\ gt T 4 = .pref 0 0 0 /\ gt T 5 = .pref 1 0 0 /\ gt T 8 = v8 /\ gt T 14 = ov /\ gt T 15 = .int .i64 (ord.length : Nat) /\ gt T 16 = .int .i64 (k : Nat) /\ gt T 27 = .int .i64 (rows.length : Nat) /\ gt T 28 = .int .i64 (i : Nat) /\ m1 + i = rows.length /\ ∀ i', i' < i -> zdC rows S.is (S.js ++ [ord.getD k 0]) i' = 0) ?_ rows.length _ ⟨_, [], 0, by rw [List.append_nil], rfl, rfl, rfl, rfl, rfl, rfl, rfl, rfl, rfl, rfl, by omega, fun i' hi' => by omega⟩;clear g0 g4 g5 g14 g15 g16 f;rintro m1 _ ⟨T, R, i, rfl, hT, g0, g4, g5, g8, g14, g15, g16, g27, g28, hm1, hprev⟩;obtain ⟨f, rfl⟩ := exG hT;clear hT;change f 0 = _ at g0;change f 4 = _ at g4;change f 5 = _ at g5;change f 8 = _ at g8;change f 14 = _ at g14;change f 15 = _ at g15;change f 16 = _ at g16;change f 27 = _ at g27;change f 28 = _ at g28;simp only [tb, Nat.reduceAdd, g0, g4, g5, g8, g14, g15, g16, g27, g28];have hE := he2.trans (Ext.app H2 R);have k1' := hE.look k1;have k0' := hE.look k0;have hl2 := zah k1
  by_cases hin : i < rows.length
  ·have hcols := hok.cols ho hk
   repeat' (first |refine zE (by intro; simp (disch := omega) only [go_sem, k1']; rfl) ?_ |refine zy1 ?_ |refine zy2 ?_ |refine zy3 ?_ |(simp only [fl1]) |refine zy6 ?_ |refine zy5 ?_ |refine zy4 rfl (fun hp => ?_) (fun hp => ?_) <;> try (exfalso; first | omega | contradiction))
   refine WO.call rfl rfl ((f131 (E := E5) rfl (zaz Tryd.func56 zpK) (hi.ext hE) (by omega)).mono ?_);rintro v m' ⟨q3, H3, rfl, hg3, he3, hq3⟩;simp only [pt8, pt1];obtain ⟨v10, H4, a4, hi4, he4, f10⟩ := push (L := []) hg3 he3 hq3 i (by omega);have hj4 := (hj2.ext (Ext.app H2 R)).ext he4;obtain ⟨y10, y10b, y10n⟩ := hi4.byVal;obtain ⟨y8, y8b, y8n⟩ := hj4.byVal
   have c53 := s104 (m := ⟨H4, []⟩) hl y10n y8n (fun x hx => by
    rw [List.mem_append, List.mem_singleton] at hx
    rcases hx with hx | rfl
    ·exact hok.i x hx
    ·exact hin) (by decide) (hcols.toW fun i hi => hl.six hi) (zn1 hv hok.nodup hok.i hin) hv.2.1 (by simp; omega) (by simp; omega) (by omega) (hl.byVal H4) y10b y8b
   have htry : zab (ent rows) (S.is ++ [i]) (S.js ++ [ord.getD k 0]) = zdC rows S.is (S.js ++ [ord.getD k 0]) i := rfl;rw [htry] at c53;obtain ⟨R', hR'⟩ := ((Ext.app H2 R).trans he4).split;have hc10 := hi4.cell;have hc8 := hj4.cell;unfold AV.cells at hc10 hc8;have k1f := he4.look k1';have k0f := he4.look k0'
   have hk1s : ∀ c : List AV, Zz.look (H4.set 1 (some ⟨0, c⟩)) 1 0 = some c := fun c => zaJ (zah k1f)
   by_cases hd : zdC rows S.is (S.js ++ [ord.getD k 0]) i = 0
   ·rw [hd] at c53
    repeat' (first |refine zE (by intro; simp (disch := omega) only [go_sem, za0, zaF]; rfl) ?_ |refine zS rfl rfl (c53) ?_ |refine zE (by intro; rw [zbj]; exact a4) ?_ |refine zy1 ?_ |refine zy2 ?_ |refine zy3 ?_ |(simp only [fl1, zbr]) |refine zy9 rfl ?_ |refine zy6 ?_)
    exact ⟨m1 - 1, by omega, _, R', i + 1, by rw [<- hR'], rfl, rfl, rfl, rfl, rfl, rfl, rfl, rfl, rfl, rfl, by omega, fun i' hi' => by
     by_cases e : i' = i
     ·subst e; exact hd
     ·exact hprev i' (by omega)⟩
   ·have hFr := hok.some hk hin hd;have hfst := zen (zeR hin hprev hd)
    have hlen2 : 2 <= H.length := by omega
    have f10' := f10.mono (show 2 <= (H2 ++ R).length by have := hE.1; omega);have f8' := f8.mono hlen2;rw [hfst] at hfs;generalize zdC rows S.is (S.js ++ [ord.getD k 0]) i = d at *
    repeat' (first |refine zE (by intro; simp (disch := omega) only [go_sem, za0, zaF]; rfl) ?_ |refine zx2 (by intro; simp (disch := omega) only [go_sem, zcN, zfG, zeu, k1f, hk1s, hc10, hc8, List.set_set]; rfl) ?_ |refine zS rfl rfl (c53) ?_ |refine zE (by intro; rw [zbj]; exact a4) ?_ |refine zy1 ?_ |refine zy2 ?_ |refine zy3 ?_ |(simp only [fl1, zbr]) |refine zy8 ?_ |refine zy4 rfl (fun hp => ?_) (fun hp => ?_) <;> try (exfalso; first | omega | contradiction))
    exact ⟨m - 1, by omega, _, _, v10, v8, k + 1, ⟨S.is ++ [i], S.js ++ [ord.getD k 0], d⟩, rfl, rfl, rfl, rfl, rfl, rfl, rfl, rfl, by omega, (zad (List.getElem?_set_ne (by omega))).trans k0f, hk1s _, hi4.set f10' _, hj4.set f8' _, f10', f8', hfs.symm, hFr⟩
  ·have hie : i = rows.length := by omega
   subst hie;rw [zeI (ze5 hprev)] at hfs
   repeat' (first |refine zE (by intro; simp (disch := omega) only [go_sem]; rfl) ?_ |refine zy1 ?_ |refine zy2 ?_ |refine zy3 ?_ |(simp only [zbr]) |refine zy8 ?_ |refine zy4 rfl (fun hp => ?_) (fun hp => ?_) <;> try (exfalso; first | omega | contradiction))
   exact ⟨m - 1, by omega, _, _, iv, jv, k + 1, S, rfl, rfl, rfl, rfl, rfl, rfl, rfl, rfl, by omega, k0', k1', hi.ext hE, hj.ext hE, fi, fj, hfs.symm, hok.none hk⟩
 ·have hke : k = ord.length := by omega
  subst hke;have hl2 := zah k1
  have hk0s : ∀ c : List AV, Zz.look (H.set 0 (some ⟨0, c⟩)) 0 0 = some c := fun c => zaJ (by omega)
  repeat' (first |refine zE (by intro; simp (disch := omega) only [go_sem, k1, zl8]; rfl) ?_ |refine zx2 (by intro; simp (disch := omega) only [go_sem, zh2, Nat.reduceAdd, k0]; rfl) ?_ |refine zy1 ?_ |refine zy2 ?_ |refine zy3 ?_ |(simp only [fl1]) |refine zy8 ?_ |refine zy7 ?_ |refine zy4 rfl (fun hp => ?_) (fun hp => ?_) <;> try (exfalso; first | omega | contradiction))
  rw [<- hS];refine ⟨_, by simp only [zbZ, gt4, za4, hk0s, zl8, if_true, Option.bind_some, Option.map_some]; rfl, iv, jv, rfl, hi.set (b := 0) (fi.mono (by omega)) _, hj.set (b := 0) (fj.mono (by omega)) _, hok⟩
set_option maxRecDepth 100000
set_option maxHeartbeats 8000000
theorem JS.resC {H : Hp} {x : AV} {l : List Nat} (h : JS H x l) : ∃ y, Zz.resC H x = some y /\ NatS y l := by
 rcases h with (⟨rfl, h⟩ | ⟨f, rfl⟩) | ⟨q, g, cap, rfl, h1, h2⟩
 ·exact ⟨.snil, rfl, .inl ⟨rfl, h⟩⟩
 ·refine ⟨_, ?_, .inr ⟨f, rfl⟩⟩;simp only [Zz.resC, zbs, if_true]
 ·have e1 : Zz.cut (zas l) 0 (l.length * 1) = some (zas l) := by
   unfold Zz.cut;rw [if_pos (by rw [zai]; omega), List.drop_zero, List.take_of_length_le (by rw [zai]; omega)]
  have e2 : (zas l).all za9 = true := zbs _;refine ⟨.sval (cap == some l.length) l.length (zas l), ?_, .inr ⟨_, by rw [List.length_map]; rfl⟩⟩;simp only [Zz.resC, h1, e1, e2, if_true]
theorem JS.newC {H : Hp} {x : AV} {l : List Nat} (h : JS H x l) {N : Nat} (hf : far N x) : ∃ y, Zz.newC H x = some y /\ NatS y l := by
 rcases h with (⟨rfl, h⟩ | ⟨f, rfl⟩) | ⟨q, g, cap, rfl, h1, h2⟩
 ·exact ⟨.snil, rfl, .inl ⟨rfl, h⟩⟩
 ·exact hf.elim
 ·have e1 : Zz.cut (zas l) 0 (l.length * 1) = some (zas l) := by
   unfold Zz.cut;rw [if_pos (by rw [zai]; omega), List.drop_zero, List.take_of_length_le (by rw [zai]; omega)]
  have e2 : (zas l).all za9 = true := zbs _;refine ⟨.sval (cap == some l.length) l.length (zas l), ?_, .inr ⟨_, by rw [List.length_map]; rfl⟩⟩;simp only [Zz.newC, h1, e1, e2, if_true]
theorem NatS.pureA {x : AV} {l : List Nat} (h : NatS x l) : Zz.pureA x = true := IntS.pureA h
theorem s82 {l ov : AV} {rows : List (List Int)} {ord : List Nat} (hl : RwL l rows) (hv : VM rows) (hov : NatS ov ord) (ho : okJ ord) (hol : ord.length <= 6) :
  FrOk rows ord ord.length (frame rows ord ord.length) /\ ∃ iv jv, NatS iv (frame rows ord ord.length).is /\ NatS jv (frame rows ord ord.length).js /\ ∀ m, zar E5 38 [l, ov] m = some (.agg [l, iv, jv, .int .i64 (frame rows ord ord.length).d], m) := by
 obtain ⟨n, y, m', h1, iv, jv, rfl, h2, h3, h4⟩ := (f82 hl hv hov ho hol).ex;obtain ⟨iv', e1, e2⟩ := h2.resC;obtain ⟨jv', e3, e4⟩ := h3.resC;refine ⟨h4, iv', jv', e2, e4, fun m => zaB (za1 hl.pureA (za1 hov.pureA rfl)) ⟨⟨n, _, m', h1, ?_⟩⟩⟩
 have hi : ∀ (H : Hp) (k : IntKind) (n : Int), Zz.resC H (.int k n) = some (.int k n) := fun _ _ _ => rfl
 simp only [resV, resA, zqg, hl.resC, e1, e3, hi]
noncomputable def E6 : Env := E5.put 38 (zar E5 38)
theorem zpH : EnvOk Tryd.prog E6 := Env.put_ok zty (zax zty (zaq Tryd.func38 (by kernel_rfl)))
theorem f83 : WF E6 (.func 41 [] []) [] ⟨[], []⟩ fun y m' => ∃ x, resV m'.heap y = some x /\ NatS x [0, 1, 2, 3, 4, 5] := by
 refine zx0 rfl (zaz Tryd.func41 zsC) (by show 0 <= 2; decide) ?_;unfold ir41;simp only [zaw, List.replicate, zAN]
 repeat' (first |refine zE (by intro; simp (disch := omega) only [go_sem, za0, zaF, zcN, zfG, zeu, zaZ, Option.bind_eq_bind]; rfl) ?_ |refine zy1 ?_ |refine zy2 ?_ |refine zy3 ?_ |(simp only [fl1]) |refine zy7 ?_)
 exact ⟨_, rfl, .sval true 6 [.int .i64 0, .int .i64 1, .int .i64 2, .int .i64 3, .int .i64 4, .int .i64 5], rfl, .inr ⟨true, rfl⟩⟩
theorem s83 : ∃ x, NatS x [0, 1, 2, 3, 4, 5] /\ ∀ m, zar E6 41 [] m = some (x, m) := by
 obtain ⟨n, y, m', h1, x, h2, h3⟩ := f83.ex;exact ⟨x, h3, fun m => zaB rfl ⟨⟨n, y, m', h1, h2⟩⟩⟩
theorem f95 : WF E6 (.func 39 [] []) [] ⟨[], []⟩ fun y m' => ∃ x, resV m'.heap y = some x /\ NatS x [5, 4, 3, 2, 1, 0] := by
 refine zx0 rfl (zaz Tryd.func39 cir39) (by show 0 <= 2; decide) ?_;unfold ir39;simp only [zaw, List.replicate, zAN]
 repeat' (first |refine zE (by intro; simp (disch := omega) only [go_sem, za0, zaF, zcN, zfG, zeu, zaZ, Option.bind_eq_bind]; rfl) ?_ |refine zy1 ?_ |refine zy2 ?_ |refine zy3 ?_ |(simp only [fl1]) |refine zy7 ?_)
 exact ⟨_, rfl, .sval true 6 [.int .i64 5, .int .i64 4, .int .i64 3, .int .i64 2, .int .i64 1, .int .i64 0], rfl, .inr ⟨true, rfl⟩⟩
theorem s95 : ∃ x, NatS x [5, 4, 3, 2, 1, 0] /\ ∀ m, zar E6 39 [] m = some (x, m) := by
 obtain ⟨n, y, m', h1, x, h2, h3⟩ := f95.ex;exact ⟨x, h3, fun m => zaB rfl ⟨⟨n, y, m', h1, h2⟩⟩⟩
noncomputable def E7 : Env := E6.put 41 (zar E6 41)
theorem E7_ok : EnvOk Tryd.prog E7 := Env.put_ok zpH (zax zpH (zaq Tryd.func41 (by kernel_rfl)))
noncomputable def E8 : Env := E7.put 39 (zar E6 39)
theorem zqF : EnvOk Tryd.prog E8 := Env.put_ok E7_ok (zax zpH (zaq Tryd.func39 (by kernel_rfl)))
theorem zhg : okJ [0, 1, 2, 3, 4, 5] := ⟨by decide, by decide⟩
theorem zj5 : okJ [5, 4, 3, 2, 1, 0] := ⟨by decide, by decide⟩
def zb1 (rows : List (List Int)) : Nat := (frame rows [0, 1, 2, 3, 4, 5] 6).is.length
theorem f35 {l : AV} {rows : List (List Int)} (hl : RwL l rows) (hmax : rows.length < 9223372036854775807) : WF E8 (.func 53 [] []) [l] ⟨[], []⟩ fun y m' => y = .tuple [.int .i64 (if VM rows then (zb1 rows : Int) else 0), .int .i64 (if VM rows then 0 else 1)] := by
 have c11 := fun m => s25 (m := m) hl hmax
 by_cases hv : VM rows
 ·rw [if_pos hv, if_pos hv];rw [decide_eq_true hv] at c11;obtain ⟨ov, hov, c32⟩ := s83;obtain ⟨_, iv, jv, hiv, hjv, c31⟩ := s82 hl hv hov zhg (by decide);have hivl := hiv.len;have hr : (frame rows [0, 1, 2, 3, 4, 5] ([0, 1, 2, 3, 4, 5] : List Nat).length).is.length = zb1 rows := rfl;rw [hr] at hivl;refine zx0 rfl (zaz Tryd.func53 zsy) (by show 1 <= 12; decide) ?_;unfold ir53;simp only [zaw, List.replicate, zNA, zAN]
  repeat' (first |refine zE (by intro; simp (disch := omega) only [go_sem, Nat.reduceAdd]; rfl) ?_ |refine WO.opE (by intro; exact zaf (by simp only [go_sem]; first | rfl | assumption)) (by simp only [pt8, pt3]; rfl) ?_ |refine zS rfl rfl (c11 _) ?_ |refine zS rfl rfl (c32 _) ?_ |refine zS rfl rfl (c31 _) ?_ |refine zy1 ?_ |refine zy2 ?_ |refine zy3 ?_ |(simp only [fl1]) |refine zy9 rfl ?_ |refine zy6 ?_ |refine zy7 ?_)
  exact ⟨_, rfl, rfl⟩
 ·rw [if_neg hv, if_neg hv];rw [decide_eq_false hv] at c11;refine zx0 rfl (zaz Tryd.func53 zsy) (by show 1 <= 12; decide) ?_;unfold ir53;simp only [zaw, List.replicate, zNA, zAN]
  repeat' (first |refine zE (by intro; simp (disch := omega) only [go_sem]; rfl) ?_ |refine zS rfl rfl (c11 _) ?_ |refine zy1 ?_ |refine zy2 ?_ |refine zy3 ?_ |(simp only [fl1, fl2]) |refine zy0 rfl ?_ |refine zy7 ?_)
  exact ⟨_, rfl, rfl⟩
noncomputable def E9 : Env := E8.put 53 (zar E8 53)
theorem zrg : EnvOk Tryd.prog E9 := Env.put_ok zqF (zax zqF (zaq Tryd.func53 (by kernel_rfl)))
theorem zts {H : Hp} {L : List (Option ALoop)} {x : AV} {l : List Nat} (hx : JS H x l) (hl : l.length < 1000000) :
  ∃ v1 q1 H1, zaH 1 8 ⟨H ++ [some ⟨0, []⟩], L⟩ (.sref H.length 0 0 1 0 (some 0)) x = some (v1, ⟨H1, L⟩) /\ GS 1 H1 v1 q1 (zas l) /\ Ext H H1 /\ H.length <= q1 := by
 have hB : Ext H (H ++ [(some ⟨0, []⟩ : Option Blk)]) := Ext.app _ _;have g0 : GS 1 (H ++ [(some ⟨0, []⟩ : Option Blk)]) (.sref H.length 0 0 1 0 (some 0)) H.length [] := .inr (.inl ⟨0, rfl, rfl, lk0 rfl⟩)
 obtain ⟨c, hsc, hce⟩ : ∃ c, scells (H ++ [(some ⟨0, []⟩ : Option Blk)]) 1 x = some c /\ c = zas l := by
  rcases hx.ext hB with (⟨rfl, h⟩ | ⟨f, rfl⟩) | ⟨q, g, cap, rfl, h1, _⟩
  ·have e : l = [] := by simpa using h
   subst e;exact ⟨[], rfl, rfl⟩
  ·refine ⟨_, ?_, rfl⟩;simp only [scells, List.length_map, Nat.mul_one, if_true];rfl
  ·refine ⟨_, ?_, rfl⟩;simp only [scells, if_true, h1, Option.bind_some, Zz.cut];rw [if_pos (by rw [zai]; omega), List.drop_zero, List.take_of_length_le (by rw [zai]; omega)]
 subst hce;obtain ⟨v1, q1, H1, a1, a2, a3, a4, a5⟩ := g0.appendX (L := L) (bytes := 8) (n := l.length) hsc hx.len (by rw [zai]; omega) Nat.one_pos ⟨by simp; omega, by simp; omega⟩;rw [List.nil_append] at a2;exact ⟨v1, q1, H1, a1, a2, ⟨by simp at a4 ⊢; omega, fun j hj' => by rw [a5 j (by simp; omega) (by omega), hB.2 j hj']⟩, by rcases a3 with rfl | rfl; exact Nat.le_refl _; exact (by simp)⟩
theorem zoK {H : Hp} {L : List (Option ALoop)} {x : AV} {l : List Nat} (hx : JS H x l) (hl : l.length < 1000000) (j : Nat) :
  ∃ v1 H1 v2 H2, zaH 1 8 ⟨H ++ [some ⟨0, []⟩, some ⟨0, [.int .i64 (j : Int)]⟩], L⟩ (.sref H.length 0 0 1 0 (some 0)) x = some (v1, ⟨H1, L⟩) /\ zaH 1 8 ⟨H1, L⟩ v1 (.sref (H.length + 1) 0 0 1 1 (some 1)) = some (v2, ⟨H2, L⟩) /\ JS H2 v2 (l ++ [j]) /\ Ext H H2 /\ far H.length v2 := by
 have hB : Ext H (H ++ [some ⟨0, []⟩, some ⟨0, [.int .i64 (j : Int)]⟩]) := Ext.app _ _;have g0 : GS 1 (H ++ [some ⟨0, []⟩, some ⟨0, [.int .i64 (j : Int)]⟩]) (.sref H.length 0 0 1 0 (some 0)) H.length [] := .inr (.inl ⟨0, rfl, rfl, lk0 rfl⟩)
 obtain ⟨c, hsc, hce⟩ : ∃ c, scells (H ++ [some ⟨0, []⟩, some ⟨0, [.int .i64 (j : Int)]⟩]) 1 x = some c /\ c = zas l := by
  rcases hx.ext hB with (⟨rfl, h⟩ | ⟨f, rfl⟩) | ⟨q, g, cap, rfl, h1, _⟩
  ·have e : l = [] := by simpa using h
   subst e;exact ⟨[], rfl, rfl⟩
  ·refine ⟨_, ?_, rfl⟩;simp only [scells, List.length_map, Nat.mul_one, if_true];rfl
  ·refine ⟨_, ?_, rfl⟩;simp only [scells, if_true, h1, Option.bind_some, Zz.cut];rw [if_pos (by rw [zai]; omega), List.drop_zero, List.take_of_length_le (by rw [zai]; omega)]
 subst hce;obtain ⟨v1, q1, H1, a1, a2, a3, a4, a5⟩ := g0.appendX (L := L) (bytes := 8) (n := l.length) hsc hx.len (by rw [zai]; omega) Nat.one_pos ⟨by simp; omega, by simp; omega⟩;rw [List.nil_append] at a2
 have hk : Zz.look H1 (H.length + 1) 0 = some [.int .i64 (j : Int)] := by
  rw [zad (a5 (H.length + 1) (by simp) (by omega))];exact lk1 rfl
 obtain ⟨v2, q2, H2, c1, c2, c3, c4, c5⟩ := a2.append (L := L) (bytes := 8) (n := 1) (cap := some 1) (id := H.length + 1) hk rfl Nat.one_pos Nat.one_pos ⟨by rw [zai, Nat.div_one]; omega, by rw [zai, Nat.div_one]; omega⟩
 have e : zas l ++ [.int .i64 (j : Int)] = zas (l ++ [j]) := by rw [zc4]; rfl
 rw [e] at c2
 have ha4 : H.length + 2 <= H1.length := by simpa using a4
 have hq1 : H.length <= q1 := by rcases a3 with rfl | rfl; exact Nat.le_refl _; exact (by simp)
 refine ⟨v1, H1, v2, H2, a1, c1, JS.of_gs c2, ⟨by omega, fun i hi => ?_⟩, ?_⟩
 ·rw [c5 i (by omega) (by omega), a5 i (by simp; omega) (by omega), List.getElem?_append_left hi]
 ·have hq2 : H.length <= q2 := by rcases c3 with rfl | rfl; exact hq1; omega
  rcases c2 with ⟨rfl, _⟩ | ⟨g, rfl, _⟩ | ⟨g, n, rfl, _⟩
  ·trivial
  ·exact hq2
  ·exact hq2
theorem zpG {H : Hp} {x : AV} {l : List Nat} (h : JS H x l) {tch : List Tch} {ms : List Nat} (ht : ∀ i ∈ ms, ∀ t, tch[i]? = some t -> ∀ j, j < H.length -> t.free j) : zbW tch ms (zl3 x) := by
 rcases h with (⟨rfl, _⟩ | ⟨f, rfl⟩) | ⟨q, g, cap, rfl, h1, _⟩
 ·trivial
 ·trivial
 ·exact fun i hi t hti => ht i hi t hti q (zah h1)
theorem f88 {l ov : AV} {rows : List (List Int)} {ord : List Nat} (hl : RwL l rows) (hv : VM rows) (hov : NatS ov ord) (ho : okJ ord) (hol : ord.length <= 6) :
  WF E9 (.func 35 [] []) [l, ov] ⟨[], []⟩ fun y m' => ∃ iv jv, y = .agg [iv, jv] /\ JS m'.heap iv (frame rows ord ord.length).is /\ JS m'.heap jv (frame rows ord ord.length).js /\ far 0 iv /\ far 0 jv := by
 have hlen := hl.len;have hovl := hov.len;have hr8 := hv.1;refine zx0 rfl (zaz Tryd.func35 cir35) (by show 2 <= 48; decide) ?_;unfold ir35;simp only [zaw, List.replicate, zNA, zAN]
 repeat' (first |refine zE (by intro; simp (disch := omega) only [go_sem]; rfl) ?_ |refine zy1 ?_ |refine zy2 ?_ |refine zy3 ?_ |(simp only [fl1]) |refine zy5 ?_)
 refine zx9 (fun m s => ∃ T H iv jv k, ∃ S : Fr, s = ⟨T, H, []⟩ /\ T.length = 48 /\ gt T 0 = l /\ gt T 1 = ov /\ gt T 4 = .pref 0 0 0 /\ gt T 5 = .pref 1 0 0 /\ gt T 6 = .int .i64 (k : Nat) /\ m + k = ord.length /\ Zz.look H 0 0 = some [.snil, .snil] /\ Zz.look H 1 0 = some [iv, jv] /\ JS H iv S.is /\ JS H jv S.js /\ far 2 iv /\ far 2 jv /\ S = frame rows ord k /\ FrOk rows ord k S) ?_ ord.length _ ⟨_, _, .snil, .snil, 0, ⟨[], [], 1⟩, rfl, rfl, rfl, rfl, rfl, rfl, rfl, by omega, rfl, rfl, .inl IntS.nil, .inl IntS.nil, trivial, trivial, rfl, FrOk.zero _ _⟩;rintro m _ ⟨T, H, iv, jv, k, S, rfl, hT, g0, g1, g4, g5, g6, hm, k0, k1, hi, hj, fi, fj, hS, hok⟩;obtain ⟨f, rfl⟩ := exG hT;clear hT;change f 0 = _ at g0;change f 1 = _ at g1;change f 4 = _ at g4;change f 5 = _ at g5;change f 6 = _ at g6;simp only [tb, Nat.reduceAdd, g0, g1, g4, g5, g6]
 by_cases hk : k < ord.length
 ·obtain ⟨t1, hat⟩ := hov.at hk
  have hsl : S.is.length <= 6 /\ S.js.length <= 6 := by
   have h1 := hok.sub.length_le;rw [List.length_take] at h1;have := hok.len;omega
  have hfs := zfm (rows := rows) hk;rw [<- hS] at hfs;have hl2 := zah k1;obtain ⟨v1, H1, v8, H2, a1, a2, hj2, he2, f8⟩ := zoK (L := []) hj (by omega) (ord.getD k 0)
  repeat' (first |refine zE (by intro; simp (disch := omega) only [go_sem]; rfl) ?_ |refine WO.opE (by intro; exact zaf (by simp only [go_sem]; first | rfl | assumption)) (by simp only [pt8, pt4]; rfl) ?_ |refine zy1 ?_ |refine zy2 ?_ |refine zy3 ?_ |(simp only [fl1]) |refine zx4 ?_ |refine zF rfl (by intro; simp (disch := omega) only [go_sem, List.append_assoc, zCA, zNA, zaZ, Option.bind_eq_bind, za0, List.length_append, zaF, hat, k1, zap]; rfl) rfl ?_ |refine WT.big rfl rfl (by intro; simp (disch := omega) only [go_sem, List.append_assoc, zCA, zNA, zaZ, Option.bind_eq_bind, za0, List.length_append, zaF, k1, zap]; rfl) (by simp (disch := omega) only [go_sem, List.length_append, zbh]; rfl) (by first | exact .inl rfl | exact .inr (zan _) | exact .inr trivial | (right; apply zau; simp only [zaR, zNA, zCA, List.getElem?_cons_zero, Tch.free, and_true]; first | done | omega)) (by simp only [pt8, pt0, pt2, pt7]; rfl) ?_ |refine zy6 ?_ |refine zy5 ?_ |refine zy4 rfl (fun hp => ?_) (fun hp => ?_) <;> try (exfalso; first | omega | contradiction))
  refine WT.append (sv := .sref H.length 0 0 1 0 (some 0)) (xv := jv) rfl rfl a1 (zau (by
   simp only [zaR, zNA, zCA, List.getElem?_cons_succ, List.getElem?_cons_zero, Tch.free, and_true, true_and]
   omega)) (zpG hj fun i hi t ht j hj => by
   simp only [List.mem_cons, List.not_mem_nil, or_false] at hi
   rcases hi with rfl | rfl
   ·simp only [zNA, zCA, List.getElem?_cons_succ, List.getElem?_cons_zero, Option.some.injEq] at ht;subst ht;trivial
   ·simp only [zNA, zCA, List.getElem?_cons_succ, List.getElem?_cons_zero, Option.some.injEq] at ht;subst ht
    show j ≠ H.length + 1
    omega) (by simp only [pt8, pt3]; rfl) ?_
  refine WT.append (sv := v1) (xv := .sref (H.length + 1) 0 0 1 1 (some 1)) rfl rfl a2 (zan _) (zan _) (by simp only [pt8, pt1]; rfl) ?_
  repeat' (first |refine zE (by intro; simp (disch := omega) only [go_sem]; rfl) ?_ |refine zy1 ?_ |refine zy2 ?_ |refine zy3 ?_ |(simp only [fl1]) |refine zx6 ?_ |refine zF rfl (by intro; simp (disch := omega) only [go_sem]; rfl) rfl ?_ |refine zy5 ?_)
  refine zx9 (fun m1 s => ∃ T R i, s = ⟨T, H2 ++ R, []⟩ /\ T.length = 48 /\ gt T 0 = l /\ gt T 1 = ov /\ gt T 4 = .pref 0 0 0 /\ gt T 5 = .pref 1 0 0 /\ gt T 6 = .int .i64 (k : Nat) /\ gt T 7 = v8 /\ gt T 8 = .int .i64 (i : Nat) /\ m1 + i = rows.length /\ ∀ i', i' < i -> zdC rows S.is (S.js ++ [ord.getD k 0]) i' = 0) ?_ rows.length _ ⟨_, [], 0, by rw [List.append_nil], rfl, rfl, rfl, rfl, rfl, rfl, rfl, rfl, by omega, fun i' hi' => by omega⟩;clear g0 g1 g4 g5 g6 f;rintro m1 _ ⟨T, R, i, rfl, hT, g0, g1, g4, g5, g6, g7, g8, hm1, hprev⟩;obtain ⟨f, rfl⟩ := exG hT;clear hT;change f 0 = _ at g0;change f 1 = _ at g1;change f 4 = _ at g4;change f 5 = _ at g5;change f 6 = _ at g6;change f 7 = _ at g7;change f 8 = _ at g8;simp only [tb, Nat.reduceAdd, g0, g1, g4, g5, g6, g7, g8];have hE := he2.trans (Ext.app H2 R);have k1' := hE.look k1;have k0' := hE.look k0
  by_cases hin : i < rows.length
  ·have hcols := hok.cols ho hk;obtain ⟨w1, q3, H3, b1, hg3, he3, hq3⟩ := zts (L := []) (hi.ext hE) (by omega);obtain ⟨v10, H4, a4, hi4, he4, f10⟩ := push (L := []) hg3 he3 hq3 i (by omega);have hj4 := (hj2.ext (Ext.app H2 R)).ext he4;obtain ⟨y10, y10b, y10n⟩ := hi4.byVal;obtain ⟨y8, y8b, y8n⟩ := hj4.byVal
   have c38 := s89 (m := ⟨H4, []⟩) hl y10n y8n (fun x hx => by
    rw [List.mem_append, List.mem_singleton] at hx
    rcases hx with hx | rfl
    ·exact hok.i x hx
    ·exact hin) (by decide) (hcols.toW fun i hi => hl.six hi) (zn1 hv hok.nodup hok.i hin) hv.2.1 (by simp; omega) (by simp; omega) (by omega) (hl.byVal H4) y10b y8b
   have htry : zab (ent rows) (S.is ++ [i]) (S.js ++ [ord.getD k 0]) = zdC rows S.is (S.js ++ [ord.getD k 0]) i := rfl;rw [htry] at c38;obtain ⟨R', hR'⟩ := ((Ext.app H2 R).trans he4).split;have hc10 := hi4.cell;have hc8 := hj4.cell;unfold AV.cells at hc10 hc8;have k1f := he4.look k1';have k0f := he4.look k0'
   have hk1s : ∀ c : List AV, Zz.look (H4.set 1 (some ⟨0, c⟩)) 1 0 = some c := fun c => zaJ (zah k1f)
   have hl22 := zah k1';rw [List.length_append] at b1
   by_cases hd : zdC rows S.is (S.js ++ [ord.getD k 0]) i = 0
   ·rw [hd] at c38
    repeat' (first |refine zE (by intro; simp (disch := omega) only [go_sem, zaZ, Option.bind_eq_bind, za0, List.length_append, zaF, k1', zap]; rfl) ?_ |refine WO.opE (by intro; exact zaf (by simp only [go_sem]; first | rfl | assumption)) (by simp only [pt8, pt4]; rfl) ?_ |refine zS rfl rfl (c38) ?_ |refine zE (by intro; rw [zbj]; exact b1) ?_ |refine zE (by intro; rw [zbj]; exact a4) ?_ |refine zy1 ?_ |refine zy2 ?_ |refine zy3 ?_ |(simp only [fl1, zbr]) |refine zy9 rfl ?_ |refine zy6 ?_ |refine zy5 ?_ |refine zy4 rfl (fun hp => ?_) (fun hp => ?_) <;> try (exfalso; first | omega | contradiction))
    exact ⟨m1 - 1, by omega, _, R', i + 1, by rw [<- hR'], rfl, rfl, rfl, rfl, rfl, rfl, rfl, rfl, by omega, fun i' hi' => by
     by_cases e : i' = i
     ·subst e; exact hd
     ·exact hprev i' (by omega)⟩
   ·have hFr := hok.some hk hin hd;have hfst := zen (zeR hin hprev hd);have f10' := f10.mono (show 2 <= (H2 ++ R).length by have := hE.1; omega);have f8' := f8.mono (show 2 <= H.length by omega);rw [hfst] at hfs;generalize zdC rows S.is (S.js ++ [ord.getD k 0]) i = d at *
    repeat' (first |refine zE (by intro; simp (disch := omega) only [go_sem, zaZ, Option.bind_eq_bind, za0, List.length_append, zaF, zcN, k1', zap, hc10, hc8]; rfl) ?_ |refine zx2 (by intro; simp (disch := omega) only [go_sem, Option.bind_eq_bind, zbG, Nat.reduceAdd, k1f]; rfl) ?_ |refine WO.opE (by intro; exact zaf (by simp only [go_sem]; first | rfl | assumption)) (by simp only [pt8, pt4]; rfl) ?_ |refine zS rfl rfl (c38) ?_ |refine zE (by intro; rw [zbj]; exact b1) ?_ |refine zE (by intro; rw [zbj]; exact a4) ?_ |refine zy1 ?_ |refine zy2 ?_ |refine zy3 ?_ |(simp only [fl1, zbr]) |refine zy6 ?_ |refine zy8 ?_ |refine zy5 ?_ |refine zy4 rfl (fun hp => ?_) (fun hp => ?_) <;> try (exfalso; first | omega | contradiction))
    exact ⟨m - 1, by omega, _, _, v10, v8, k + 1, ⟨S.is ++ [i], S.js ++ [ord.getD k 0], d⟩, rfl, rfl, rfl, rfl, rfl, rfl, rfl, by omega, (zad (List.getElem?_set_ne (by omega))).trans k0f, hk1s _, hi4.set f10' _, hj4.set f8' _, f10', f8', hfs.symm, hFr⟩
  ·have hie : i = rows.length := by omega
   subst hie;rw [zeI (ze5 hprev)] at hfs
   repeat' (first |refine zE (by intro; simp (disch := omega) only [go_sem]; rfl) ?_ |refine WO.opE (by intro; exact zaf (by simp only [go_sem]; first | rfl | assumption)) (by simp only [pt8, pt4]; rfl) ?_ |refine zy1 ?_ |refine zy2 ?_ |refine zy3 ?_ |(simp only [fl1, zbr]) |refine zy8 ?_ |refine zy4 rfl (fun hp => ?_) (fun hp => ?_) <;> try (exfalso; first | omega | contradiction))
   exact ⟨m - 1, by omega, _, _, iv, jv, k + 1, S, rfl, rfl, rfl, rfl, rfl, rfl, rfl, by omega, k0', k1', hi.ext hE, hj.ext hE, fi, fj, hfs.symm, hok.none hk⟩
 ·have hke : k = ord.length := by omega
  subst hke;have hl2 := zah k1
  have hk0s : ∀ c : List AV, Zz.look (H.set 0 (some ⟨0, c⟩)) 0 0 = some c := fun c => zaJ (by omega)
  have cut2z : ∀ a b : AV, Zz.cut [a, b] 0 2 = some [a, b] := fun a b => by simp [Zz.cut]
  repeat' (first |refine zE (by intro; simp (disch := omega) only [go_sem, k1, cut2z]; rfl) ?_ |refine zx2 (by intro; simp (disch := omega) only [go_sem, zbG, Nat.reduceAdd, k0]; rfl) ?_ |refine WO.opE (by intro; exact zaf (by simp only [go_sem]; first | rfl | assumption)) (by simp only [pt8, pt4]; rfl) ?_ |refine zy1 ?_ |refine zy2 ?_ |refine zy3 ?_ |(simp only [fl1]) |refine zy8 ?_ |refine zy7 ?_ |refine zy4 rfl (fun hp => ?_) (fun hp => ?_) <;> try (exfalso; first | omega | contradiction))
  rw [<- hS];refine ⟨_, by simp only [zbZ, gt4, za4, hk0s, cut2z, if_true, Option.bind_some, Option.map_some]; rfl, iv, jv, rfl, hi.set (b := 0) (fi.mono (by omega)) _, hj.set (b := 0) (fj.mono (by omega)) _, fi.mono (by omega), fj.mono (by omega)⟩
end Go.Proofs.YtgchabldcnmccabDoor

