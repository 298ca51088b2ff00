import Derived.Test.YtnilimjkibimcaaPV
import Derived.Test.YtnilimjkibimcaaLB
import Derived.Test.YtnilimjkibimcaaAbsI

set_option linter.unusedSimpArgs false
set_option linter.unusedVariables false

namespace Go.Proofs.Ytnilimjkibimcaa
open Go.Zz
theorem mem_cases {rows : List (List Int)} {w : List Int} (hv : VM rows) (h6 : Six rows) (hw6 : w.length = 6) (hok : okB 1000000000 w) : errD rows w = 3 ∨ errD rows w = 0 ∧ (memD rows w ↔ RowL (ent rows) rows.length (vF w)) := by
 by_cases he : errD rows w = 0
 ·exact .inr ⟨he, ⟨fun h => (memD_iff h6 hw6 he).1 h.2, fun h => ⟨he, (memD_iff h6 hw6 he).2 h⟩⟩⟩
 ·left
  unfold errD at he ⊢
  rw [if_pos ⟨hv, hok⟩] at he ⊢
  split at he
  ·exact absurd rfl he
  ·rename_i h; rw [if_neg h]
theorem errD_zero {rows : List (List Int)} {v : List Int} (he : errD rows v = 0) : DivC rows v := by
 unfold errD at he
 split at he
 ·rename_i h1
  split at he
  ·rename_i h2; exact ⟨h1, h2⟩
  ·cases he
 ·cases he
theorem members {rows : List (List Int)} {v : List Int} {c : Nat → Int} (hv : VM rows) (h6 : Six rows) (hv6 : v.length = 6) (hok : okB 1000000000 v) (hs : ∀ j, j < 6 → vF v j = psumF (fun k => c k * ent (hermF rows) k j) (hermF rows).length) : errD rows v = 3 ∨ errD rows v = 0 ∧ memD rows v ∧ quoM rows v = (List.range (hermF rows).length).map c := by
 have hH := herm_lat hv h6
 rcases mem_cases hv h6 hv6 hok with h | ⟨h, hm⟩
 ·exact .inl h
 ·have hmem := hm.2 ((hH.sp _).1 (Sp.of_coef hs))
  refine .inr ⟨h, hmem, ?_⟩
  rw [show quoM rows v = quoD rows v from if_pos hmem, show quoD rows v = quosL (hermF rows) (fwdF rows).js v (hermF rows).length from if_pos (errD_zero h)]
  unfold quosL
  refine List.map_congr_left fun k hk => ?_
  exact (coef_quo (herm_tf hv h6) hs _ (Nat.le_refl _)).2 k (List.mem_range.1 hk)
theorem errO_zero {rows : List (List Int)} {v : List Int} (he : errO rows v = 0) : (VM rows ∧ okB 1000000000 v) ∧ ordOk (hermF rows) (fwdF rows).js v := by
 unfold errO at he
 split at he
 ·rename_i h1
  split at he
  ·rename_i h2; exact ⟨h1, h2⟩
  ·cases he
 ·cases he
theorem orders {rows : List (List Int)} {v w : List Int} {K : Int} (h6 : Six rows) (hv6 : v.length = 6) (hw6 : w.length = 6) (he : errO rows v = 0) (hok : okB 1000000000 w) (hK : 1 ≤ K) (hw : ∀ j, j < 6 → vF w j = K * vF v j) : errD rows w = 3 ∨ errD rows w = 0 ∧ (memD rows w ↔ 0 < ordD rows v ∧ ordD rows v ∣ K) := by
 have h := errO_zero he
 rcases mem_cases h.1.1 h6 hw6 hok with h1 | ⟨h1, hm⟩
 ·exact .inl h1
 ·refine .inr ⟨h1, hm.trans ?_⟩
  have hi := ord_iff (v := v) h.1.1 h6 hv6 hK
  have hN := (ordF_bd (v := v) h.1.1 h6).2 _ (Nat.le_refl _)
  have e : ordN rows v = pprodF (ordF (hermF rows) (fwdF rows).js v) (hermF rows).length := rfl
  have e1 : RowL (ent rows) rows.length (vF w) ↔ RowL (ent rows) rows.length fun j => K * vF v j := ⟨fun h => h.of_eq fun j hj => (hw j hj).symm, fun h => h.of_eq fun j hj => hw j hj⟩
  rw [e1, hi]
  unfold ordD
  rw [if_pos he]
  split
  ·rename_i hz
   exact ⟨fun h => ⟨by omega, h.2⟩, fun h => ⟨hz, h.2⟩⟩
  ·rename_i hz
   exact ⟨fun h => absurd h.1 hz, fun h => by omega⟩
def plusV (v : List Int) (rows : List (List Int)) (c : Nat → Int) : Nat → List Int
 | 0 => v
 | i + 1 => subV (plusV v rows c i) (-(c i)) (rw_ rows i)
def SxS (x : AV) (xs : List Int) : Prop := (x = .snil ∧ xs = []) ∨ ∃ full, x = .sval full xs.length (xs.map (.int .i16))
theorem SxS.len {x : AV} {xs : List Int} (h : SxS x xs) : slen x = some xs.length := by
 rcases h with ⟨rfl, rfl⟩ | ⟨full, rfl⟩ <;> rfl
theorem SxS.cells {x : AV} {xs : List Int} (h : SxS x xs) : x.cells = some [x] := by
 rcases h with ⟨rfl, rfl⟩ | ⟨full, rfl⟩ <;> rfl
theorem SxS.at {x : AV} {xs : List Int} (h : SxS x xs) {i : Nat} (hi : i < xs.length) : indexAddrAV 1 x (.int .i64 (i : Int)) = some (.pval (.int .i16 (xs.getD i 0) :: (xs.drop (i + 1)).map (.int .i16))) := by
 rcases h with ⟨rfl, rfl⟩ | ⟨full, rfl⟩
 ·simp at hi
 ·have e : xs.getD i 0 = xs[i] := by simp [List.getD_eq_getElem?_getD, hi]
  rw [e]
  simp only [indexAddrAV, idx_nat hi, Option.map_some, Nat.mul_one, ← List.map_drop, drop_cons hi, List.map_cons]
theorem SxS.pureA {x : AV} {xs : List Int} (h : SxS x xs) : Zz.pureA x = true := by
 rcases h with ⟨rfl, _⟩ | ⟨f, rfl⟩
 ·rfl
 ·show (xs.map (AV.int .i16)).all flatAV = true
  simp [flatAV]
def byM (by_ : List Int) (i : Nat) : Int := if i < by_.length then (by_.getD i 0).tmod 1001 else 0
def lvol : List (List Int) → Int
 | [] => 1
 | r :: rs => max (rsum r) 1 * lvol rs
theorem rw_app_l {a : List (List Int)} (b : List (List Int)) {i : Nat} (hi : i < a.length) : rw_ (a ++ b) i = rw_ a i := by
 unfold rw_
 rw [List.getD_eq_getElem?_getD, List.getD_eq_getElem?_getD, List.getElem?_append_left hi]
theorem rw_app_r (a : List (List Int)) {b : List (List Int)} (i : Nat) : rw_ (a ++ b) (a.length + i) = rw_ b i := by
 unfold rw_
 rw [List.getD_eq_getElem?_getD, List.getD_eq_getElem?_getD, List.getElem?_append_right (by omega)]
 simp
theorem six_app {a b : List (List Int)} (a6 : Six a) (b6 : Six b) : Six (a ++ b) := fun i hi => by
 rw [List.length_append] at hi
 by_cases h : i < a.length
 ·rw [rw_app_l b h]; exact a6 _ h
 ·have := rw_app_r a (b := b) (i - a.length)
  rw [show a.length + (i - a.length) = i by omega] at this
  rw [this]
  exact b6 _ (by omega)
def errM (a b : List (List Int)) : Int := if VM a ∧ VM b then if VM (a ++ b) then 0 else 2 else 1
def sumR (a b : List (List Int)) : List (List Int) := if VM a ∧ VM b then hermR (a ++ b) else []
theorem sumR_six {a b : List (List Int)} : SixR (sumR a b) := by
 unfold sumR
 split
 ·exact hermR_six
 ·intro r hr; cases hr
set_option maxRecDepth 100000
set_option maxHeartbeats 8000000
theorem gcd_step (a b : Nat) : Nat.gcd b (a % b) = Nat.gcd a b := by rw [Nat.gcd_comm a b, Nat.gcd_rec b a, Nat.gcd_comm]
theorem f76 {l : AV} {rows : List (List Int)} (hl : RwL l rows) (hmax : rows.length < 9223372036854775807) {v : List Int} (h6 : v.length = 6) :
  WF M4 (.func 76 [] []) [l, .agg (icells v)] ⟨[], []⟩ fun y m' => y = .tuple [.int .i64 (ordD rows v), .int .i64 (errO rows v)] := by
 obtain ⟨xr, xc, hxr, hxc, c122⟩ := s122 hl hmax
 have c125 := fun m => s125 (m := m) h6
 have hcv := icells_cut h6
 have hml : (icells v).length = 6 := by rw [icells_len, h6]
 have c2 : Zz.cut [xr, xc] 0 2 = some [xr, xc] := rfl
 by_cases hA : VM rows ∧ okB 1000000000 v
 ·have eC : errC rows = 0 := if_pos hA.1
  have eh : hermR rows = hermF rows := if_pos hA.1
  have ek : colsF rows = (fwdF rows).js := if_pos hA.1
  rw [eC] at c122
  rw [eh] at hxr
  rw [ek] at hxc
  have s6 : Six rows := fun i hi => hl.six hi
  have hD := herm_divB hA.1 s6
  obtain ⟨hF, hN⟩ := ordF_bd (v := v) hA.1 s6
  have hP := (pivP_all hA.1 s6)
  have hpv : ∀ i, i < (hermF rows).length → pivP rows i ≤ 1000000000 := fun i hi => by
   have h1 := (pprod_mono _ hP.1 _ (Nat.le_refl _)).2 (i + 1) hi
   have h2 := (pprod_mono _ hP.1 i (by omega)).1
   have h3 : pprodF (pivP rows) (i + 1) = pprodF (pivP rows) i * pivP rows i := rfl
   have h4 := hP.1 i hi
   have h5 := Int.mul_le_mul_of_nonneg_right h2 (show 0 ≤ pivP rows i by omega)
   omega
  have hok : decide (okB 1000000000 v) = true := decide_eq_true hA.2
  rw [hok] at c125
  have hxl := hxr.len
  have hle := hD.le
  have eO : errO rows v = if ordOk (hermF rows) (fwdF rows).js v then 0 else 3 := if_pos hA
  have eN : ordN rows v = pprodF (ordF (hermF rows) (fwdF rows).js v) (hermF rows).length := rfl
  have eD : ordD rows v = if errO rows v = 0 then if ordV (hermF rows) (fwdF rows).js v (hermF rows).length = zer6 then ordN rows v else 0 else 0 := rfl
  rw [eD, eO, eN]
  clear eD eO eN
  have hF2 : ∀ i, i < (hermF rows).length → ordF (hermF rows) (fwdF rows).js v i = ordK1 (pivP rows i) ((ordV (hermF rows) (fwdF rows).js v i).getD ((fwdF rows).js.getD i 0) 0) := fun i hi => rfl
  have hpe : ∀ i, i < (hermF rows).length → (rw_ (hermF rows) i).getD ((fwdF rows).js.getD i 0) 0 = pivP rows i := fun i hi => rfl
  generalize pivP rows = pv at *
  generalize (fwdF rows).js = js at *
  generalize hermF rows = h at *
  refine WF.fnE rfl (fn_of Try.func76 cir76) (by show 2 ≤ 94; decide) ?_
  unfold ir76
  simp only [padTo, List.replicate, zNA, zAN]
  repeat' (first | (refine WO.yes rfl ?_) | (refine WO.opE (by intro; simp (disch := omega) only [go_sem, Zz.look, zCA, zNA, hcv]; rfl) (by simp only [pt8, pt0, pt1, pt2, pt3, pt4, pt5, pt6, pt7]; rfl) ?_) | (refine WO.opN (by intro; simp (disch := omega) only [go_sem, Zz.look, Option.bind_eq_bind, ov_all2, Nat.reduceAdd, setBlk, List.set_cons_zero, List.set_cons_succ]; rfl) ?_) | (refine WO.opE (by intro; exact ev_lenS (by simp only [go_sem]; first | rfl | assumption)) (by simp only [pt8, pt6]; rfl) ?_) | (refine WO.specE rfl rfl (c122 _) (by simp only [pt8, pt2]; rfl) ?_) | (refine WO.specE rfl rfl (c125 _) (by simp only [pt8, pt1]; rfl) ?_) | (refine WC.seq ?_) | (refine WC.region ?_) | (refine WO.nil ?_) | (simp only [fl1]) | (refine WC.no rfl ?_) | (refine WC.skip ?_) | (refine WC.block ?_))
  clear c122 c125 hcv hml c2 hok
  refine WC.loopI (fun m s => ∃ T R i, s = ⟨T, some ⟨0, icells (ordV h js v i)⟩ :: some ⟨0, [xr, xc]⟩ :: R, []⟩ ∧ T.length = 94 ∧ gt T 3 = .pref 0 0 0 ∧ gt T 6 = .pref 1 0 0 ∧ gt T 8 = .int .i64 (pprodF (ordF h js v) i) ∧ gt T 29 = xr ∧ gt T 30 = .int .i64 (h.length : Nat) ∧ gt T 31 = .int .i64 (i : Nat) ∧ m + i = h.length ∧ okB 1000000000 (ordV h js v i) ∧ ∀ k, k < i → okB 1000000000 (ordS h js v k) ∧ okB 1000000000 (ordV h js v (k + 1))) ?_ h.length _ ⟨_, [], 0, rfl, rfl, rfl, rfl, rfl, rfl, rfl, rfl, by omega, hA.2, fun k hk => by omega⟩
  rintro m _ ⟨T, R, i, rfl, hT, g3, g6, g8, g29, g30, g31, hm, hok, hoks⟩
  obtain ⟨f, rfl⟩ := ex94 hT
  clear hT
  replace g3 : f 3 = .pref 0 0 0 := g3
  replace g6 : f 6 = .pref 1 0 0 := g6
  replace g8 : f 8 = .int .i64 (pprodF (ordF h js v) i) := g8
  replace g29 : f 29 = xr := g29
  replace g30 : f 30 = .int .i64 (h.length : Nat) := g30
  replace g31 : f 31 = .int .i64 (i : Nat) := g31
  simp only [g3, g6, g8, g29, g30, g31]
  have q0 : ∀ (c : List AV) (S : Hp), Zz.look (some ⟨0, c⟩ :: some ⟨0, [xr, xc]⟩ :: S) 0 0 = some c := fun _ _ => rfl
  have q1 : ∀ (c : List AV) (S : Hp), Zz.look (some ⟨0, c⟩ :: some ⟨0, [xr, xc]⟩ :: S) 1 0 = some [xr, xc] := fun _ _ => rfl
  have w0 : ∀ (c d : List AV) (S : Hp), setBlk (some ⟨0, c⟩ :: some ⟨0, [xr, xc]⟩ :: S) 0 0 d = some ⟨0, d⟩ :: some ⟨0, [xr, xc]⟩ :: S := fun _ _ _ => rfl
  have k0 : Zz.cut [xr, xc] 0 1 = some [xr] := rfl
  have k1 : Zz.cut [xr, xc] 1 1 = some [xc] := rfl
  have hu6 := ordV_len (h := h) (js := js) h6 i
  have hcu := icells_cut hu6
  have hul : (icells (ordV h js v i)).length = 6 := by rw [icells_len, hu6]
  by_cases hi : i < h.length
  ·have k6 := hD.six i hi
   have hat := hxr.at hi
   have hcut := cut_row (t := tailr h i) k6
   have hcr : (rw_ h i).map (AV.int .i64) = icells (rw_ h i) := rfl
   rw [hcr] at hat hcut
   have hgc := icells_cut k6
   have hov := fun x0 x1 x2 x3 x4 x5 => icells_over6 k6 (x0 := x0) (x1 := x1) (x2 := x2) (x3 := x3) (x4 := x4) (x5 := x5)
   have hgl : (icells (rw_ h i)).length = 6 := by rw [icells_len, k6]
   obtain ⟨t, hjat⟩ := hxc.at (k := i) (by rw [hD.len]; exact hi)
   have hplt := hD.lt i hi
   have hpos := hD.pos i hi
   have hpb := hpv i hi
   have hia := icells_at (r := ordV h js v i) (j := js.getD i 0) (by omega)
   have hib := icells_at (r := rw_ h i) (j := js.getD i 0) (by omega)
   have hxb := hok _ hplt
   have hbd := hD.bd i hi
   have hFi := hF i hi
   have hFe := hF2 i hi
   have hNi := hN i (by omega)
   have hNi1 := hN (i + 1) (by omega)
   have kl : ∀ (c : List AV) (d : List AV), Zz.look (some ⟨0, c⟩ :: some ⟨0, [xr, xc]⟩ :: (R ++ [some ⟨0, d⟩])) (R.length + 1 + 1) 0 = some d := fun c d => by
    simp [Zz.look]
   have ks : ∀ (c d e : List AV), setBlk (some ⟨0, c⟩ :: some ⟨0, [xr, xc]⟩ :: (R ++ [some ⟨0, d⟩])) (R.length + 1 + 1) 0 e = some ⟨0, c⟩ :: some ⟨0, [xr, xc]⟩ :: (R ++ [some ⟨0, e⟩]) := fun c d e => by simp [setBlk]
   rw [hpe i hi] at hib hpos
   generalize hx : (ordV h js v i).getD (js.getD i 0) 0 = x at *
   generalize hpp : pv i = p at *
   have hmx : max x (0 - x) = ((x.natAbs : Nat) : Int) := by omega
   have hpn : ((p.natAbs : Nat) : Int) = p := by omega
   repeat' (first | (refine WO.opE (by intro; simp (disch := omega) only [go_sem, hat, hcut, q0, q1, kl, hjat, hia, hib, hmx, Nat.mul_one, List.length_cons, zCA]; rfl) (by simp only [pt8, pt0, pt1, pt2, pt3, pt4, pt5, pt6, pt7]; rfl) ?_) | (refine WO.opN (by intro; simp (disch := omega) only [go_sem, Option.bind_eq_bind, app_s0, hov, hgl, kl]; rfl) ?_) | (refine WC.seq ?_) | (refine WC.region ?_) | (refine WO.nil ?_) | (refine WC.calm rfl ?_) | (refine WC.skip ?_) | (refine WC.block ?_) | (refine WC.em2 rfl (fun hp => ?_) (fun hp => ?_) <;> try (exfalso; first | omega | contradiction)))
   refine WC.loopI (fun m s => ∃ T a b, s = ⟨T, some ⟨0, icells (ordV h js v i)⟩ :: some ⟨0, [xr, xc]⟩ :: (R ++ [some ⟨0, icells (rw_ h i)⟩]), []⟩ ∧ T.length = 94 ∧ gt T 3 = .pref 0 0 0 ∧ gt T 6 = .pref 1 0 0 ∧ gt T 8 = .int .i64 (pprodF (ordF h js v) i) ∧ gt T 10 = .pref (R.length + 1 + 1) 0 0 ∧ gt T 11 = .int .i64 (js.getD i 0 : Nat) ∧ gt T 12 = .int .i64 p ∧ gt T 29 = xr ∧ gt T 30 = .int .i64 (h.length : Nat) ∧ gt T 31 = .int .i64 (i : Nat) ∧ gt T 13 = .int .i64 (a : Nat) ∧ gt T 14 = .int .i64 (b : Nat) ∧ m = b ∧ a ≤ 1000000000 ∧ b ≤ 1000000000 ∧ Nat.gcd a b = gcdN p x) ?_ x.natAbs _ ⟨_, p.natAbs, x.natAbs, rfl, rfl, rfl, rfl, rfl, rfl, rfl, rfl, rfl, rfl, rfl, (by simp only [gt8, gt5, hpn]), rfl, rfl, by omega, by omega, rfl⟩
   clear g3 g6 g8 g29 g30 g31 f
   rintro m2 _ ⟨T, a, b, rfl, hT, g3, g6, g8, g10, g11, g12, g29, g30, g31, g13, g14, hm2, ha9, hb9, hgc2⟩
   obtain ⟨f, rfl⟩ := ex94 hT
   clear hT
   replace g3 : f 3 = .pref 0 0 0 := g3
   replace g6 : f 6 = .pref 1 0 0 := g6
   replace g8 : f 8 = .int .i64 (pprodF (ordF h js v) i) := g8
   replace g10 : f 10 = .pref (R.length + 1 + 1) 0 0 := g10
   replace g11 : f 11 = .int .i64 (js.getD i 0 : Nat) := g11
   replace g12 : f 12 = .int .i64 p := g12
   replace g29 : f 29 = xr := g29
   replace g30 : f 30 = .int .i64 (h.length : Nat) := g30
   replace g31 : f 31 = .int .i64 (i : Nat) := g31
   replace g13 : f 13 = .int .i64 (a : Nat) := g13
   replace g14 : f 14 = .int .i64 (b : Nat) := g14
   simp only [g3, g6, g8, g10, g11, g12, g29, g30, g31, g13, g14]
   by_cases hb0 : b = 0
   ·subst hb0
    rw [Nat.gcd_zero_right] at hgc2
    have hap : 0 < a := by
     rw [hgc2]
     exact Nat.gcd_pos_of_pos_left _ (by omega)
    have han : ((a : Nat) : Int) ≠ 0 := by omega
    have hk : p.tdiv ((a : Nat) : Int) = ordF h js v i := by
     rw [hFe, hgc2]
     rfl
    have hz0 : ((0 : Nat) : Int) = 0 := rfl
    have hb1 : -1000000000 ≤ p.tdiv ((a : Nat) : Int) ∧ p.tdiv ((a : Nat) : Int) ≤ 1000000000 := by rw [hk]; omega
    rw [hz0] at g14
    simp only [hz0]
    repeat' (first | (refine WO.opE (by intro; simp (disch := omega) only [go_sem, han, hk, if_false]; rfl) (by simp only [pt8, pt3, pt4, pt5, pt6]; rfl) ?_) | (refine WC.seq ?_) | (refine WC.region ?_) | (refine WO.nil ?_) | (simp only [fl1]) | (refine WC.no rfl ?_) | (refine WC.exit ?_) | (refine WC.block ?_))
    refine WC.loopI (fun m s => ∃ T w j, s = ⟨T, some ⟨0, icells w⟩ :: some ⟨0, [xr, xc]⟩ :: (R ++ [some ⟨0, icells (rw_ h i)⟩]), []⟩ ∧ T.length = 94 ∧ gt T 3 = .pref 0 0 0 ∧ gt T 6 = .pref 1 0 0 ∧ gt T 8 = .int .i64 (pprodF (ordF h js v) i) ∧ gt T 10 = .pref (R.length + 1 + 1) 0 0 ∧ gt T 11 = .int .i64 (js.getD i 0 : Nat) ∧ gt T 12 = .int .i64 p ∧ gt T 29 = xr ∧ gt T 30 = .int .i64 (h.length : Nat) ∧ gt T 31 = .int .i64 (i : Nat) ∧ gt T 13 = .int .i64 (ordF h js v i) ∧ gt T 62 = .int .i64 (j : Nat) ∧ m + j = 6 ∧ w.length = 6 ∧ (∀ t, t < j → w.getD t 0 = (ordS h js v i).getD t 0) ∧ ∀ t, j ≤ t → w.getD t 0 = (ordV h js v i).getD t 0) ?_ 6 _ ⟨_, ordV h js v i, 0, rfl, rfl, rfl, rfl, rfl, rfl, rfl, rfl, rfl, rfl, rfl, rfl, rfl, by omega, hu6, fun t ht => by omega, fun t _ => rfl⟩
    clear g3 g6 g8 g29 g30 g31 g10 g11 g12 g13 g14 f
    rintro m3 _ ⟨T, w, j, rfl, hT, g3, g6, g8, g10, g11, g12, g29, g30, g31, g13, g62, hm3, hw6, hw1, hw2⟩
    obtain ⟨f, rfl⟩ := ex94 hT
    clear hT
    replace g3 : f 3 = .pref 0 0 0 := g3
    replace g6 : f 6 = .pref 1 0 0 := g6
    replace g8 : f 8 = .int .i64 (pprodF (ordF h js v) i) := g8
    replace g10 : f 10 = .pref (R.length + 1 + 1) 0 0 := g10
    replace g11 : f 11 = .int .i64 (js.getD i 0 : Nat) := g11
    replace g12 : f 12 = .int .i64 p := g12
    replace g29 : f 29 = xr := g29
    replace g30 : f 30 = .int .i64 (h.length : Nat) := g30
    replace g31 : f 31 = .int .i64 (i : Nat) := g31
    replace g13 : f 13 = .int .i64 (ordF h js v i) := g13
    replace g62 : f 62 = .int .i64 (j : Nat) := g62
    simp only [g3, g6, g8, g10, g11, g12, g29, g30, g31, g13, g62]
    have hwl : (icells w).length = 6 := by rw [icells_len, hw6]
    by_cases hj : j < 6
    ·have hja := icells_at (r := w) (j := j) (by omega)
     rw [hw2 j (Nat.le_refl _)] at hja
     have hovw := icells_over (r := w) (j := j) (by omega) ((ordV h js v i).getD j 0 * ordF h js v i)
     have hmb := mul_b2 (hok j hj) (show -1000000000 ≤ ordF h js v i ∧ ordF h js v i ≤ 1000000000 by omega)
     have hsj : (ordS h js v i).getD j 0 = (ordV h js v i).getD j 0 * ordF h js v i := scale_at hj
     repeat' (first | (refine WO.opE (by intro; simp (disch := omega) only [go_sem, q0, hja, Nat.mul_one, Nat.zero_add]; rfl) (by simp only [pt8, pt0, pt1, pt2, pt3, pt4, pt5, pt6, pt7]; rfl) ?_) | (refine WO.opN (by intro; simp (disch := omega) only [go_sem, Option.bind_eq_bind, q0, hovw, Nat.zero_add]; rfl) ?_) | (refine WC.seq ?_) | (refine WC.region ?_) | (refine WO.nil ?_) | (simp only [fl10]) | (refine WC.skip ?_) | (refine WC.block ?_) | (refine WC.em2 rfl (fun hp => ?_) (fun hp => ?_) <;> try (exfalso; first | omega | contradiction)))
     exact ⟨m3 - 1, by omega, _, w.set j ((ordV h js v i).getD j 0 * ordF h js v i), j + 1, rfl, rfl, rfl, rfl, rfl, rfl, rfl, rfl, rfl, rfl, rfl, rfl, rfl, by omega, by simpa using hw6, fun t ht => by
      by_cases e : t = j
      ·subst e; rw [getD_set_self (by omega), hsj]
      ·rw [getD_set_ne (by omega)]; exact hw1 t (by omega), fun t ht => by rw [getD_set_ne (by omega)]; exact hw2 t (by omega)⟩
    ·have hje : j = 6 := by omega
     subst hje
     have hwe : w = ordS h js v i := getD_ext (by rw [hw6]; exact (scale_len _ _).symm) fun t ht => hw1 t (by omega)
     subst hwe
     have hcs := icells_cut hw6
     have d125 := fun m => s125 (m := m) hw6
     by_cases hS : okB 1000000000 (ordS h js v i)
     ·rw [decide_eq_true hS] at d125
      have hn6 := ordV_len (h := h) (js := js) h6 (i + 1)
      have hnl : (icells (ordV h js v (i + 1))).length = 6 := by rw [icells_len, hn6]
      have hcn := icells_cut hn6
      have hovn : Zz.over (icells (ordS h js v i)) 0 (icells (ordV h js v (i + 1))) = some (icells (ordV h js v (i + 1))) := by
       unfold Zz.over
       rw [hwl, hnl]
       simp [hwl]
      have hic := icells_at (r := ordS h js v i) (j := js.getD i 0) (by omega)
      have hpne : p ≠ 0 := by omega
      have hqb := tdiv_bd (b := p) (M := 1000000000) hpne (hS _ hplt)
      have hqe : ((ordS h js v i).getD (js.getD i 0) 0).tdiv p = ordQ h js v i := by
       unfold ordQ
       rw [hpe i hi, hpp]
      rw [hqe] at hqb
      have c126 := fun m => s126 (m := m) hw6 k6 hS hbd hqb
      have hs0 : subV (ordS h js v i) (ordQ h js v i) (rw_ h i) = ordV h js v (i + 1) := rfl
      rw [hs0] at c126
      have e125 := fun m => s125 (m := m) hn6
      have hb2 := tdiv_bd (b := p) (M := 1000000000) hpne (hS _ hplt)
      have hne : pprodF (ordF h js v) (i + 1) = pprodF (ordF h js v) i * ordF h js v i := rfl
      by_cases hV : okB 1000000000 (ordV h js v (i + 1))
      ·rw [decide_eq_true hV] at e125
       rw [hne] at hNi1
       generalize hqq : ordQ h js v i = Q at *
       generalize (ordS h js v i).getD (js.getD i 0) 0 = sx at *
       repeat' (first | (refine WO.opE (by intro; simp (disch := omega) only [go_sem, q0, hcs, hcn]; rfl) (by simp only [pt8, pt0, pt1, pt2, pt3, pt5, pt6, pt7]; rfl) ?_) | (refine WO.specE rfl rfl (d125 _) (by simp only [pt8, pt1]; rfl) ?_) | (refine WO.specE rfl rfl (e125 _) (by simp only [pt8, pt4]; rfl) ?_) | (refine WT.spec rfl rfl (fun V => c126 ⟨V, []⟩) (by simp only [pt8, pt2]; rfl) ?_) | (refine WC.seq ?_) | (refine WC.region ?_) | (refine WO.nil ?_) | (simp only [fl1, fl10]) | (refine WC.drawT ?_) | (refine WT.nil ?_) | (refine WT.free rfl (by intro; simp (disch := omega) only [go_sem, q0, kl, hcs, hgc, hic, hpne, hqe, if_false, Nat.mul_one]; rfl) rfl (by simp only [pt8, pt0, pt1, pt3, pt4, pt5, pt6, pt7]; rfl) ?_) | (refine WT.big rfl rfl (by intro; simp (disch := omega) only [go_sem, q0, kl, hcs, hgc, hic, if_false]; rfl) (by simp (disch := omega) only [go_sem, touch]; rfl) (by first | exact .inl rfl | exact .inr (apart_nil _) | exact .inr trivial | (right; apply apart_mk; simp only [apartL, zNA, zCA, List.getElem?_cons_succ, List.getElem?_cons_zero, Tch.free, and_true, true_and]; first | done | omega)) (by simp only [pt8, pt1, pt3, pt6]; rfl) ?_) | (refine WT.bigN rfl rfl (by intro; simp (disch := omega) only [go_sem, Option.bind_eq_bind, q0, hnl, hovn]; rfl) (by simp (disch := omega) only [go_sem, touch]; rfl) (by first | exact .inl rfl | exact .inr (apart_nil _) | exact .inr trivial | (right; apply apart_mk; simp only [apartL, zNA, zCA, List.getElem?_cons_succ, List.getElem?_cons_zero, Tch.free, and_true, true_and]; first | done | omega)) ?_) | (refine WC.no rfl ?_) | (refine WC.skip ?_) | (refine WC.exit ?_))
       exact ⟨m - 1, by omega, _, _, i + 1, rfl, rfl, rfl, rfl, rfl, rfl, rfl, rfl, by omega, hV, fun k hk => by
        by_cases e : k = i
        ·subst e; exact ⟨hS, hV⟩
        ·exact hoks k (by omega)⟩
      ·rw [decide_eq_false hV] at e125
       have hno : ¬ ordOk h js v := fun hh => hV (hh i hi).2
       rw [if_neg hno, if_neg (show ¬ (3 : Int) = 0 by decide)]
       generalize hqq : ordQ h js v i = Q at *
       generalize (ordS h js v i).getD (js.getD i 0) 0 = sx at *
       repeat' (first | (refine WO.opE (by intro; simp (disch := omega) only [go_sem, q0, hcs, hcn]; rfl) (by simp only [pt8, pt0, pt2, pt3, pt4, pt5, pt7]; rfl) ?_) | (refine WO.specE rfl rfl (d125 _) (by simp only [pt8, pt1]; rfl) ?_) | (refine WO.specE rfl rfl (e125 _) (by simp only [pt8, pt4]; rfl) ?_) | (refine WT.spec rfl rfl (fun V => c126 ⟨V, []⟩) (by simp only [pt8, pt2]; rfl) ?_) | (refine WC.seq ?_) | (refine WC.region ?_) | (refine WO.nil ?_) | (simp only [fl1, fl2, fl5, fl8]) | (refine WC.drawT ?_) | (refine WT.nil ?_) | (refine WT.free rfl (by intro; simp (disch := omega) only [go_sem, q0, kl, hcs, hgc, hic, hpne, hqe, if_false, Nat.mul_one]; rfl) rfl (by simp only [pt8, pt0, pt1, pt3, pt4, pt5, pt6, pt7]; rfl) ?_) | (refine WT.big rfl rfl (by intro; simp (disch := omega) only [go_sem, q0, kl, hcs, hgc, hic, if_false]; rfl) (by simp (disch := omega) only [go_sem, touch]; rfl) (by first | exact .inl rfl | exact .inr (apart_nil _) | exact .inr trivial | (right; apply apart_mk; simp only [apartL, zNA, zCA, List.getElem?_cons_succ, List.getElem?_cons_zero, Tch.free, and_true, true_and]; first | done | omega)) (by simp only [pt8, pt1, pt3, pt6]; rfl) ?_) | (refine WT.bigN rfl rfl (by intro; simp (disch := omega) only [go_sem, Option.bind_eq_bind, q0, hnl, hovn]; rfl) (by simp (disch := omega) only [go_sem, touch]; rfl) (by first | exact .inl rfl | exact .inr (apart_nil _) | exact .inr trivial | (right; apply apart_mk; simp only [apartL, zNA, zCA, List.getElem?_cons_succ, List.getElem?_cons_zero, Tch.free, and_true, true_and]; first | done | omega)) ?_) | (refine WC.yes rfl ?_) | (refine WC.no rfl ?_) | (refine WC.skip ?_) | (refine WC.exit ?_) | (refine WC.ret ?_))
       exact ⟨_, rfl, rfl⟩
     ·rw [decide_eq_false hS] at d125
      have hno : ¬ ordOk h js v := fun hh => hS (hh i hi).1
      rw [if_neg hno, if_neg (show ¬ (3 : Int) = 0 by decide)]
      repeat' (first | (refine WO.opE (by intro; simp (disch := omega) only [go_sem, q0, hcs]; rfl) (by simp only [pt8, pt0, pt2, pt4, pt5, pt7]; rfl) ?_) | (refine WO.specE rfl rfl (d125 _) (by simp only [pt8, pt1]; rfl) ?_) | (refine WC.seq ?_) | (refine WC.region ?_) | (refine WO.nil ?_) | (simp only [fl1, fl2, fl5, fl8]) | (refine WC.yes rfl ?_) | (refine WC.no rfl ?_) | (refine WC.exit ?_) | (refine WC.ret ?_))
      exact ⟨_, rfl, rfl⟩
   ·have hbn : ((b : Nat) : Int) ≠ 0 := by omega
    have hml := Nat.mod_lt a (show 0 < b by omega)
    have ht : ((a : Nat) : Int).tmod ((b : Nat) : Int) = ((a % b : Nat) : Int) := rfl
    repeat' (first | (refine WO.opE (by intro; simp (disch := omega) only [go_sem, hbn, ht, if_false]; rfl) (by simp only [pt8, pt0, pt1, pt2, pt5, pt6, pt7]; rfl) ?_) | (refine WC.seq ?_) | (refine WC.region ?_) | (refine WO.nil ?_) | (simp only [fl1, fl4, fl10]) | (refine WC.calm rfl ?_) | (refine WC.yes rfl ?_) | (refine WC.skip ?_) | (refine WC.block ?_))
    exact ⟨a % b, by omega, _, b, a % b, rfl, rfl, rfl, rfl, rfl, rfl, rfl, rfl, rfl, rfl, rfl, rfl, rfl, rfl, by omega, by omega, (gcd_step a b).trans hgc2⟩
  ·have hie : i = h.length := by omega
   have hall : ordOk h js v := fun k hk => hoks k (by omega)
   rw [if_pos hall, if_pos rfl, ← hie]
   have hce := cellsEq_int (r := ordV h js v i) (r' := zer6) (by rw [hu6]; rfl)
   rw [hu6] at hce
   have hce' : cellsEq [true, true, true, true, true, true] (icells (ordV h js v i)) [.int .i64 0, .int .i64 0, .int .i64 0, .int .i64 0, .int .i64 0, .int .i64 0] = some (decide (ordV h js v i = zer6)) := hce
   by_cases hz : ordV h js v i = zer6
   ·rw [decide_eq_true hz] at hce'
    rw [if_pos hz]
    repeat' (first | (refine WO.opE (by intro; simp (disch := omega) only [go_sem, fillP, q0, hcu, hce']; rfl) (by simp only [pt8, pt0, pt2, pt3, pt4, pt5]; rfl) ?_) | (refine WC.seq ?_) | (refine WC.region ?_) | (refine WO.nil ?_) | (simp only [fl1]) | (refine WC.no rfl ?_) | (refine WC.skip ?_) | (refine WC.exit ?_) | (refine WC.ret ?_) | (refine WC.em2 rfl (fun hp => ?_) (fun hp => ?_) <;> try (exfalso; first | omega | contradiction)))
    exact ⟨_, rfl, rfl⟩
   ·rw [decide_eq_false hz] at hce'
    rw [if_neg hz]
    repeat' (first | (refine WO.opE (by intro; simp (disch := omega) only [go_sem, fillP, q0, hcu, hce']; rfl) (by simp only [pt8, pt0, pt2, pt3, pt4, pt5]; rfl) ?_) | (refine WC.seq ?_) | (refine WC.region ?_) | (refine WO.nil ?_) | (simp only [fl1, fl2]) | (refine WC.yes rfl ?_) | (refine WC.exit ?_) | (refine WC.ret ?_) | (refine WC.em2 rfl (fun hp => ?_) (fun hp => ?_) <;> try (exfalso; first | omega | contradiction)))
    exact ⟨_, rfl, rfl⟩
 ·have eO : errO rows v = 1 := if_neg hA
  have eD : ordD rows v = 0 := if_neg (by rw [eO]; decide)
  rw [eO, eD]
  by_cases hv : VM rows
  ·have hok : decide (okB 1000000000 v) = false := decide_eq_false fun h => hA ⟨hv, h⟩
   rw [hok] at c125
   have e0 : errC rows = 0 := if_pos hv
   rw [e0] at c122
   refine WF.fnE rfl (fn_of Try.func76 cir76) (by show 2 ≤ 94; decide) ?_
   unfold ir76
   simp only [padTo, List.replicate, zNA, zAN]
   repeat' (first | (refine WO.yes rfl ?_) | (refine WO.opE (by intro; simp (disch := omega) only [go_sem, Zz.look, zCA, zNA, hcv]; rfl) (by simp only [pt8, pt0, pt1, pt2, pt3, pt4, pt5, pt6, pt7]; rfl) ?_) | (refine WO.opN (by intro; simp (disch := omega) only [go_sem, Zz.look, Option.bind_eq_bind, ov_all2, Nat.reduceAdd, setBlk, List.set_cons_zero, List.set_cons_succ]; rfl) ?_) | (refine WO.specE rfl rfl (c122 _) (by simp only [pt8, pt2]; rfl) ?_) | (refine WO.specE rfl rfl (c125 _) (by simp only [pt8, pt1]; rfl) ?_) | (refine WC.seq ?_) | (refine WC.region ?_) | (refine WO.nil ?_) | (simp only [fl1, fl2]) | (refine WC.yes rfl ?_) | (refine WC.ret ?_))
   exact ⟨_, rfl, rfl⟩
  ·have e0 : errC rows = 1 := if_neg hv
   rw [e0] at c122
   refine WF.fnE rfl (fn_of Try.func76 cir76) (by show 2 ≤ 94; decide) ?_
   unfold ir76
   simp only [padTo, List.replicate, zNA, zAN]
   repeat' (first | (refine WO.noE rfl (by simp only [pt8, pt0, pt1, pt2]; rfl) ?_) | (refine WO.opE (by intro; simp (disch := omega) only [go_sem, zCA, zNA]; rfl) (by simp only [pt8, pt0, pt1, pt3, pt4, pt5, pt6, pt7]; rfl) ?_) | (refine WO.opN (by intro; simp (disch := omega) only [go_sem, Zz.look, Option.bind_eq_bind, ov_all2, Nat.reduceAdd, setBlk, List.set_cons_zero, List.set_cons_succ]; rfl) ?_) | (refine WO.specE rfl rfl (c122 _) (by simp only [pt8, pt2]; rfl) ?_) | (refine WC.seq ?_) | (refine WC.region ?_) | (refine WO.nil ?_) | (simp only [fl1, fl2]) | (refine WC.yes rfl ?_) | (refine WC.ret ?_))
   exact ⟨_, rfl, rfl⟩
theorem x76 {l l' : AV} {rows : List (List Int)} (hl : RwL l rows) (hmax : rows.length < 9223372036854775807) {v : List Int} (h6 : v.length = 6) {m : Mem} (h0 : Zz.byVal m.heap l' = some l) : borrowX M4 76 [l', .agg (icells v)] m = some (.tuple [.int .i64 (ordD rows v), .int .i64 (errO rows v)], m) :=
 borrowX_of (byVals_cons h0 (byVals_cons (byI _ _) rfl)) ((f76 hl hmax h6).mono fun y m' h => by rw [h]; rfl)
set_option maxRecDepth 100000
set_option maxHeartbeats 8000000
theorem gs_byVal2 {sz : Nat} {H : Hp} {v : AV} {q : Nat} {c : List AV} (h : GS sz H v q c) : Zz.byVal H v = Zz.resC H v := by
 rcases h with ⟨rfl, _⟩ | ⟨g, rfl, _⟩ | ⟨g, n, rfl, _⟩ <;> rfl
theorem rwl_six {x : AV} {rows : List (List Int)} (hx : RwL x rows) : ∀ r ∈ rows, r.length = 6 := fun r hr => by
 have := hx.1 (icells r) (List.mem_map_of_mem hr)
 simpa [icells] using this
theorem f72 {lx ly : AV} {a b : List (List Int)} (hx : RwL lx a) (hy : RwL ly b) (ha : a.length < 9223372036854775807) (hb : b.length < 9223372036854775807) : WF N6 (.func 72 [] []) [lx, ly] ⟨[], []⟩ fun y m' => ∃ u q, y = .tuple [u, .int .i64 (errM a b)] ∧ GS 6 m'.heap u q (flatR (sumR a b)) := by
 have c25 := fun m => s25 (m := m) hx ha
 have d25 := fun m => s25 (m := m) hy hb
 have hxc := hx.cells
 have hyc := hy.cells
 unfold AV.cells at hxc hyc
 by_cases hva : VM a
 ·rw [decide_eq_true hva] at c25
  by_cases hvb : VM b
  ·rw [decide_eq_true hvb] at d25
   have ha8 := hva.1
   have hb8 := hvb.1
   refine WF.fnE rfl (fn_of Try.func72 cir72) (by show 2 ≤ 27; decide) ?_
   unfold ir72
   simp only [padTo, List.replicate, zNA, zAN]
   repeat' (first | (refine WO.yes rfl ?_) | (refine WO.opE (by intro; simp (disch := omega) only [go_sem, fillP, Option.bind_eq_bind, zeros, ov_one0, ov_one1, hxc, hyc]; rfl) (by simp only [pt8, pt0, pt1, pt2, pt3, pt4, pt5, pt6, pt7]; rfl) ?_) | (refine WO.specE rfl rfl (c25 _) (by simp only [pt8, pt1, pt4]; rfl) ?_) | (refine WO.specE rfl rfl (d25 _) (by simp only [pt8, pt4, pt5]; rfl) ?_) | (refine WC.seq ?_) | (refine WC.region ?_) | (refine WO.nil ?_) | (simp only [fl1]) | (refine WC.no rfl ?_) | (refine WC.skip ?_))
   refine WO.call rfl rfl ((f121 hx hy (by omega) (by omega) (b := 0) rfl).mono ?_)
   rintro u ⟨G, L'⟩ ⟨q, hG, h1, hkeep⟩
   have h1 : L' = [] := h1
   subst h1
   dsimp only at hG
   simp only [pt8, pt4]
   obtain ⟨xs, hxs, hrx⟩ := GS.rows hG (by
    intro r hr
    rcases List.mem_append.1 hr with h | h
    ·exact rwl_six hx r h
    ·exact rwl_six hy r h)
   have hbv := (gs_byVal2 hG).trans hrx
   obtain ⟨xr, hxr, c27⟩ := r27 hxs (by rw [List.length_append]; omega)
   obtain ⟨new, v', c27, hg2, _⟩ := c27 G []
   have c27 := c27 u hbv
   have e1 : errM a b = if VM (a ++ b) then 0 else 2 := if_pos ⟨hva, hvb⟩
   have e2 : sumR a b = hermR (a ++ b) := if_pos ⟨hva, hvb⟩
   rw [e1, e2]
   by_cases hv : VM (a ++ b)
   ·rw [show errC (a ++ b) = 0 from if_pos hv] at c27
    rw [if_pos hv]
    refine WO.specE rfl rfl c27 (by simp only [pt8, pt5]; rfl) ?_
    repeat' (first | (refine WO.opE (by intro; simp (disch := omega) only [go_sem]; rfl) (by simp only [pt8, pt0, pt1, pt2, pt4, pt5, pt6, pt7]; rfl) ?_) | (refine WC.seq ?_) | (refine WC.region ?_) | (refine WO.nil ?_) | (simp only [fl1]) | (refine WC.no rfl ?_) | (refine WC.skip ?_) | (refine WC.ret ?_))
    exact ⟨_, rfl, _, _, rfl, hg2⟩
   ·rw [show errC (a ++ b) = 1 from if_neg hv] at c27
    rw [if_neg hv]
    refine WO.specE rfl rfl c27 (by simp only [pt8, pt5]; rfl) ?_
    repeat' (first | (refine WO.opE (by intro; simp (disch := omega) only [go_sem]; rfl) (by simp only [pt8, pt0, pt1, pt4, pt5, pt6, pt7]; rfl) ?_) | (refine WC.seq ?_) | (refine WC.region ?_) | (refine WO.nil ?_) | (simp only [fl1, fl2]) | (refine WC.yes rfl ?_) | (refine WC.ret ?_))
    rw [show hermR (a ++ b) = [] from if_neg hv]
    exact ⟨_, rfl, .snil, 0, rfl, GS.nil⟩
  ·rw [decide_eq_false hvb] at d25
   rw [show errM a b = 1 from if_neg fun h => hvb h.2, show sumR a b = [] from if_neg fun h => hvb h.2]
   refine WF.fnE rfl (fn_of Try.func72 cir72) (by show 2 ≤ 27; decide) ?_
   unfold ir72
   simp only [padTo, List.replicate, zNA, zAN]
   repeat' (first | (refine WO.yes rfl ?_) | (refine WO.opE (by intro; simp (disch := omega) only [go_sem]; rfl) (by simp only [pt8, pt0, pt2, pt3, pt4, pt5, pt6, pt7]; rfl) ?_) | (refine WO.specE rfl rfl (c25 _) (by simp only [pt8, pt1]; rfl) ?_) | (refine WO.specE rfl rfl (d25 _) (by simp only [pt8, pt5]; rfl) ?_) | (refine WC.seq ?_) | (refine WC.region ?_) | (refine WO.nil ?_) | (simp only [fl1, fl2]) | (refine WC.yes rfl ?_) | (refine WC.ret ?_))
   exact ⟨_, rfl, .snil, 0, rfl, GS.nil⟩
 ·rw [decide_eq_false hva] at c25
  rw [show errM a b = 1 from if_neg fun h => hva h.1, show sumR a b = [] from if_neg fun h => hva h.1]
  refine WF.fnE rfl (fn_of Try.func72 cir72) (by show 2 ≤ 27; decide) ?_
  unfold ir72
  simp only [padTo, List.replicate, zNA, zAN]
  repeat' (first | (refine WO.noE rfl (by simp only [pt8, pt4, pt5, pt6]; rfl) ?_) | (refine WO.opE (by intro; simp (disch := omega) only [go_sem]; rfl) (by simp only [pt8, pt0, pt2, pt3, pt4, pt5, pt7]; rfl) ?_) | (refine WO.specE rfl rfl (c25 _) (by simp only [pt8, pt1]; rfl) ?_) | (refine WC.seq ?_) | (refine WC.region ?_) | (refine WO.nil ?_) | (simp only [fl1, fl2]) | (refine WC.yes rfl ?_) | (refine WC.ret ?_))
  exact ⟨_, rfl, .snil, 0, rfl, GS.nil⟩
theorem x72 {lx ly : AV} {a b : List (List Int)} (hx : RwL lx a) (hy : RwL ly b) (ha : a.length < 9223372036854775807) (hb : b.length < 9223372036854775807) : ∃ x, RwL x (sumR a b) ∧ ∀ m l1 l2, Zz.byVal m.heap l1 = some lx → Zz.byVal m.heap l2 = some ly → borrowX N6 72 [l1, l2] m = some (.tuple [x, .int .i64 (errM a b)], m) := by
 obtain ⟨n, y, m', h1, v, q, rfl, h2⟩ := (f72 hx hy ha hb).ex
 obtain ⟨x, e1, e2⟩ := gs_newR h2 sumR_six
 exact ⟨x, e1, fun m l1 l2 k1 k2 => borrowX_of (byVals_cons k1 (byVals_cons k2 rfl)) ⟨⟨n, _, m', h1, newV_two e2⟩⟩⟩
end Go.Proofs.Ytnilimjkibimcaa

