import Derived.Test.YtgchabldcnmccabDoorUME
import Derived.Test.YtgchabldcnmccabDoorUIr

set_option linter.unusedSimpArgs false
set_option linter.unusedVariables false

namespace Go.Proofs.YtgchabldcnmccabDoor
open Go.Zz
def zhr (c x : List Int) (d : Int) : Nat -> Int
 | 0 => 0
 | k + 1 => (zhr c x d k + c.getD k 0 % d * (x.getD k 0 % d)) % d
def zjG (X : List (List Int)) (c : List Int) (d : Int) (s i : Nat) : List Int := zhr c (X.getD i []) d s :: X.getD i []
def zoC (X : List (List Int)) (c : List Int) (d : Int) (s : Nat) : Nat -> List (List Int)
 | 0 => zcj (s + 1) (s + 1) d
 | i + 1 => (addI (s + 1) (zoC X c d s i) (zjG X c d s i) d (s + 1)).1
def divA (X : List (List Int)) (c : List Int) (d : Int) (s : Nat) : Nat -> List (List Int)
 | 0 => zcj (s + 1) (s + 1) d
 | i + 1 => (insI (s + 1) (divA X c d s i) (zjG X c d s i) d (s + 1)).1
def zlI (X : List (List Int)) (c : List Int) (d : Int) (s : Nat) : List (List Int) := redI (s + 1) (zoC X c d s s) d (s + 1)
def divW (X : List (List Int)) (c : List Int) (d : Int) (s : Nat) : List (List Int) := redI (s + 1) (divA X c d s s) d (s + 1)
def behind (W : List (List Int)) : List (List Int) := (W.drop 1).map (·.drop 1)
theorem zlD (W : List (List Int)) : (behind W).length = W.length - 1 := by simp [behind]
theorem zgv {W : List (List Int)} {i : Nat} (h : i + 1 < W.length) : (behind W).getD i [] = (W.getD (i + 1) []).drop 1 := by
 simp [behind, List.getD_eq_getElem?_getD, h, Nat.add_comm 1 i]
theorem znA {r : List Int} {j : Nat} : (r.drop 1).getD j 0 = r.getD (j + 1) 0 := by
 rw [List.getD_eq_getElem?_getD, List.getD_eq_getElem?_getD, List.getElem?_drop, Nat.add_comm]
theorem zcU {W : List (List Int)} {i j : Nat} (h : i + 1 < W.length) : ent (behind W) i j = ent W (i + 1) (j + 1) := by
 unfold ent rw_;rw [zgv h, znA]
theorem LB.behind {W : List (List Int)} {s : Nat} {d : Int} (h : LB W (s + 1) d) : LB (behind W) s d := by
 have hl := h.len;refine ⟨by rw [zlD]; omega, fun i hi => ?_, fun i j hi hj => ?_, fun i hi => ?_⟩
 ·rw [zgv (by omega), List.length_drop, h.row (i + 1) (by omega)];omega
 ·rw [zcU (by omega)];exact h.el (i + 1) (j + 1) (by omega) (by omega)
 ·rw [zcU (by omega)];exact h.diag (i + 1) (by omega)
theorem zm9 {c x : List Int} {d : Int} (hd : 0 < d) : ∀ k, 0 <= zhr c x d k /\ zhr c x d k <= d
 | 0 => by simp [zhr]; omega
 | k + 1 => zc9 hd
theorem zjI {X : List (List Int)} {c : List Int} {d : Int} {s i : Nat} (hd : 0 < d) (h : LB X s d) (hi : i < s) : VB (zjG X c d s i) (s + 1) d := by
 refine ⟨by show (X.getD i []).length + 1 = s + 1; rw [h.row i hi], fun j hj => ?_⟩
 cases j with
 | zero => exact zm9 hd s
 | succ j => exact h.el i j hi (by omega)
theorem VB.toC {v : List Int} {n : Nat} {d : Int} (hd9 : d <= 1000000000) (h : VB v n d) : VC v n := ⟨h.1, fun j hj => by have := h.2 j hj; omega⟩
theorem zjK {X : List (List Int)} {c : List Int} {d : Int} {s : Nat} (hd : 0 < d) (hd9 : d <= 1000000000) (h : LB X s d) : ∀ {i : Nat}, i <= s -> LB (zoC X c d s i) (s + 1) d
 | 0, _ => LB.mult hd
 | i + 1, hi => (LB.addI hd hd9 (zjK hd hd9 h (i := i) (by omega)) ((zjI hd h (by omega)).toC hd9) (Nat.le_refl _)).1
theorem LB.mono {R : List (List Int)} {n : Nat} {d d' : Int} (h : LB R n d) (hd : d <= d') : LB R n d' := ⟨h.len, h.row, fun i j hi hj => by have := h.el i j hi hj; omega, h.diag⟩
def IM (H : Hp) (x : AV) (b : Nat) (r : List Int) : Prop := (x = .snil /\ r = []) \/ RowM H x b r
theorem IM.len {H : Hp} {x : AV} {b : Nat} {r : List Int} (h : IM H x b r) : zcH x = some r.length := by
 rcases h with ⟨rfl, rfl⟩ | h
 ·rfl
 ·exact h.len
theorem IM.row {H : Hp} {x : AV} {b : Nat} {r : List Int} (h : IM H x b r) (hr : 0 < r.length) : RowM H x b r := by
 rcases h with ⟨rfl, rfl⟩ | h
 ·simp at hr
 ·exact h
theorem IM.same {H H' : Hp} {x : AV} {b : Nat} {r : List Int} (h : IM H x b r) (he : H'[b]? = H[b]?) : IM H' x b r := by
 rcases h with h | h
 ·exact .inl h
 ·exact .inr (h.same he)
theorem RowM.scells {H : Hp} {x : AV} {b : Nat} {r : List Int} (h : RowM H x b r) : Zz.scells H 1 x = some (zaa r) := by
 obtain ⟨g, off, cap, c, rfl, h1, h2, h3, _⟩ := h;simp only [Zz.scells, if_true, h1, Option.bind_some, Zz.cut];rw [if_pos (by omega), Nat.mul_one, h3]
theorem RowM.tail {H : Hp} {x : AV} {b : Nat} {r : List Int} (h : RowM H x b r) (hr : 1 < r.length) : ∃ y, (∀ H', zaU H' 1 x (some (.int .i64 1)) none none = some y) /\ RowM H y b (r.drop 1) := by
 obtain ⟨g, off, cap, c, rfl, h1, h2, h3, h4⟩ := h;have hd : (r.drop 1).length = r.length - 1 := List.length_drop
 have hc : (c.drop (off + 1 * 1)).take (r.length - 1) = zaa (r.drop 1) := by
  have := congrArg (fun l => l.drop 1) h3;simp only [List.drop_take, List.drop_drop] at this;rw [Nat.mul_one, this];simp [zaa]
 rcases h4 with rfl | rfl
 ·refine ⟨.sref b g (off + 1 * 1) 1 (r.length - 1) none, fun H' => ?_, g, off + 1 * 1, none, c, by rw [hd], h1, by rw [hd]; omega, by rw [hd]; exact hc, .inl rfl⟩;simp only [zaU, if_true, Option.isSome, Bool.and_false, Bool.false_eq_true, if_false, zed, zfi, bnd];rw [if_pos ⟨by omega, by omega⟩];simp only [Option.bind_some];have e : (Int.toNat 1) = 1 := rfl;rw [e, if_neg (by omega), if_neg (by omega)]
 ·refine ⟨.sref b g (off + 1 * 1) 1 (r.length - 1) (some (r.length - 1)), fun H' => ?_, g, off + 1 * 1, _, c, by rw [hd], h1, by rw [hd]; omega, by rw [hd]; exact hc, .inr (by rw [hd])⟩;simp only [zaU, if_true, Option.isNone, Bool.false_and, Bool.false_eq_true, if_false, zed, zfi, bnd];rw [if_pos ⟨by omega, by omega⟩];have e : (Int.toNat 1) = 1 := rfl;simp only [Option.bind_some, e];rw [if_neg (by omega)]
theorem LatM.tail {G : Hp} {rv : AV} {q : Nat} {xs : List AV} {bs : List Nat} {R : List (List Int)} (h : LatM G rv q xs bs R) (hR : 0 < R.length) : ∃ y, (∀ H', zaU H' 1 rv (some (.int .i64 1)) none none = some y) /\ zcH y = some (R.length - 1) /\
  ∀ i, i + 1 < R.length -> ∃ g, zaj 1 y (.int .i64 (i : Int)) = some (.pref q g (i + 1)) /\ Zz.look G q g = some xs /\ xs[i + 1]? = some (xs.getD (i + 1) und) /\ RowM G (xs.getD (i + 1) und) (bs.getD (i + 1) 0) (R.getD (i + 1) []) := by
 have hxl := h.xl
 rcases h.gs with ⟨_, h2⟩ | ⟨g, _, h2, _⟩ | ⟨g, n, rfl, h1, h2, h3⟩
 ·subst h2; simp at hxl; omega
 ·subst h2; simp at hxl; omega
 ·rw [Nat.mul_one] at h1
  have hn : n = R.length := by omega
  subst hn
  by_cases h0 : R.length - 1 = 0
  ·refine ⟨.sval false 0 [], fun H' => ?_, by rw [h0]; rfl, fun i hi => by omega⟩;simp only [zaU, if_true, Option.isSome, Bool.and_false, Bool.false_eq_true, if_false, zed, zfi, bnd];rw [if_pos ⟨by omega, by omega⟩];simp only [Option.bind_some];have e : (Int.toNat 1) = 1 := rfl;rw [e, if_neg (by omega), if_pos h0]
  ·refine ⟨.sref q g (0 + 1 * 1) 1 (R.length - 1) none, fun H' => ?_, rfl, fun i hi => ⟨g, ?_, h3, ?_, h.row (i + 1) hi⟩⟩
   ·simp only [zaU, if_true, Option.isSome, Bool.and_false, Bool.false_eq_true, if_false, zed, zfi, bnd];rw [if_pos ⟨by omega, by omega⟩];simp only [Option.bind_some];have e : (Int.toNat 1) = 1 := rfl;rw [e, if_neg (by omega), if_neg h0]
   ·rw [zbl, zbb (by omega)];simp [Nat.add_comm]
   ·rw [List.getD_eq_getElem?_getD, List.getElem?_eq_getElem (by omega), Option.getD_some]
set_option maxRecDepth 100000
set_option maxHeartbeats 8000000
theorem s83r {m : Mem} : zb5 E6 41 [] m = some (.sref m.heap.length 0 0 1 6 (some 6), ⟨m.heap ++ [some ⟨0, zas [0, 1, 2, 3, 4, 5]⟩], m.loops⟩) := by
 have hw : WF E6 (.func 41 [] []) [] ⟨[], []⟩ fun y m' => y = .sref 0 0 0 1 6 (some 6) /\ m'.heap = [some ⟨0, zas [0, 1, 2, 3, 4, 5]⟩] := by
  refine zx0 rfl (zaz Tryd.func41 zsC) (by show 0 <= 2; decide) ?_;unfold ir41;simp only [zaw, List.replicate, zAN]
  repeat' (first |refine zE (by intro; simp (disch := omega) only [go_sem, za0, zaF, zcN, zfG, zeu, zaZ, Option.bind_eq_bind]; rfl) ?_ |refine zy1 ?_ |refine zy2 ?_ |refine zy3 ?_ |(simp only [fl1]) |refine zy7 ?_)
  exact ⟨_, rfl, rfl, rfl⟩
 refine zfs rfl (hw.mono ?_);rintro y ⟨H', L'⟩ ⟨rfl, h⟩;have h' : H' = [some ⟨0, zas [0, 1, 2, 3, 4, 5]⟩] := h;subst h';exact ⟨_, _, zlk (c := zas [0, 1, 2, 3, 4, 5]) rfl (zbs _), zog (c := zas [0, 1, 2, 3, 4, 5]) rfl, rfl⟩
noncomputable def E19 : Env := E18.put 41 (zb5 E6 41)
theorem zmp : EnvOk Tryd.prog E19 := Env.put_ok zsN (zfC zpH (zaq Tryd.func41 (by kernel_rfl)))
theorem LatM.bk {G : Hp} {rv : AV} {q : Nat} {xs : List AV} {bs : List Nat} {R : List (List Int)} (h : LatM G rv q xs bs R) {b : Nat} (hb : b ∈ bs) : ∃ x : Blk, G[b]? = some (some x) := by
 obtain ⟨i, hi, rfl⟩ := List.mem_iff_getElem.1 hb;obtain ⟨g, off, cap, c, _, h1, _⟩ := h.row i (by rw [<- h.bl]; exact hi);rw [List.getD_eq_getElem?_getD, List.getElem?_eq_getElem hi, Option.getD_some] at h1;exact ze3 h1
theorem RowM.bk {H : Hp} {x : AV} {b : Nat} {r : List Int} (h : RowM H x b r) : ∃ x : Blk, H[b]? = some (some x) := by
 obtain ⟨g, off, cap, c, _, h1, _⟩ := h;exact ze3 h1
theorem zrw {G : Hp} {L : List (Option ALoop)} {x : AV} {b : Nat} {r : List Int} {y : Int} (h : RowM G x b r) (hr : 0 < r.length) (hr9 : r.length < 1000000) :
  zaH 1 8 ⟨G ++ [some ⟨0, [.int .i64 y]⟩], L⟩ (.sref G.length 0 0 1 1 (some 1)) x = some (.sref (G.length + 1) 0 0 1 (r.length + 1) none, ⟨G ++ [some ⟨0, [.int .i64 y]⟩, some ⟨0, zaa (y :: r)⟩], L⟩) := by
 have hx := (h.same (H' := G ++ [some ⟨0, [.int .i64 y]⟩]) (List.getElem?_append_left h.lt)).scells;have hl := h.len;have hk : Zz.look (G ++ [some ⟨0, [.int .i64 y]⟩]) G.length 0 = some [.int .i64 y] := lk0 rfl
 have e2 : Zz.cut [AV.int .i64 y] 0 (1 * 1) = some [.int .i64 y] := by simp [Zz.cut]
 have e3 : ¬ 1 + r.length <= 1 := by omega
 have e4 : (1 + r.length) * 8 <= 140737488355328 /\ 1 + r.length <= 140737488355328 := ⟨by omega, by omega⟩
 simp only [zaH, hx, hl, Option.bind_eq_bind, Option.bind_some, if_true, hk, e2, if_neg e3, if_pos e4, zaM];rw [List.length_append, List.length_singleton, Nat.add_comm 1 r.length, List.append_assoc];rfl
theorem zpe {G : Hp} {r : List Int} {y : Int} : RowM (G ++ [some ⟨0, [.int .i64 y]⟩, some ⟨0, zaa (y :: r)⟩]) (.sref (G.length + 1) 0 0 1 (r.length + 1) none) (G.length + 1) (y :: r) :=
 ⟨0, 0, none, _, rfl, lk1 rfl, by rw [zae]; simp, by rw [List.drop_zero, List.take_of_length_le (by rw [zae]; simp)], .inl rfl⟩
theorem f131r {E : Env} (hE : E.spec 56 = none) (hF : E.fn 56 = some zr2) {x : AV} {b : Nat} {r : List Int} {H : Hp} {L : List (Option ALoop)} (hx : RowM H x b r) (hr : 0 < r.length) (hr9 : r.length < 1000000) : WF E (.func 56 [] []) [x] ⟨H, L⟩ fun v m' => ∃ q H', m' = ⟨H', L⟩ /\ RowM H' v q r /\ Ext H H' /\ H.length <= q := by
 have hB : Ext H (H ++ [(some ⟨0, []⟩ : Option Blk)]) := Ext.app _ _;have g0 : GS 1 (H ++ [(some ⟨0, []⟩ : Option Blk)]) (.sref H.length 0 0 1 0 (some 0)) H.length [] := .inr (.inl ⟨0, rfl, rfl, lk0 rfl⟩);have hsc := (hx.same (H' := H ++ [(some ⟨0, []⟩ : Option Blk)]) (List.getElem?_append_left hx.lt)).scells;obtain ⟨v1, q1, H1, a1, a2, a3, a4, a5⟩ := g0.appendX (L := L) (bytes := 8) (n := r.length) hsc hx.len (by rw [zae]; omega) Nat.one_pos ⟨by simp; omega, by simp; omega⟩;rw [List.nil_append] at a2
 have hE1 : Ext H H1 := ⟨by simp at a4 ⊢; omega, fun j hj' => by rw [a5 j (by simp; omega) (by omega), hB.2 j hj']⟩
 have hq1 : H.length <= q1 := by rcases a3 with rfl | rfl; exact Nat.le_refl _; exact (by simp)
 have hne : zdx 0 x .snil = some false := by
  obtain ⟨g, off, cap, c, rfl, _⟩ := hx;rfl
 refine zx0 hE hF (by show 1 <= 8; decide) ?_;unfold zr2;simp only [zaw, List.replicate, zNA, zAN]
 repeat' (first |refine zE (by intro; simp (disch := omega) only [go_sem, za0, hne]; rfl) ?_ |refine zE (by intro; rw [zbj]; exact a1) ?_ |refine zy1 ?_ |refine zy2 ?_ |refine zy3 ?_ |(simp only [fl1]) |refine zy9 rfl ?_ |refine zy6 ?_ |refine zy7 ?_)
 exact ⟨_, rfl, q1, H1, rfl, RowM.of_gs a2 hr, hE1, hq1⟩
theorem zm2 {X : List (List Int)} {i : Nat} (h : i < X.length) : X.take (i + 1) = X.take i ++ [X.getD i []] := by
 rw [List.take_add_one, List.getD_eq_getElem?_getD, List.getElem?_eq_getElem h];rfl
theorem f99 {H : Hp} {L : List (Option ALoop)} {rv cv : AV} {q bc : Nat} {xs : List AV} {bs : List Nat} {X : List (List Int)} {c : List Int} {d dl : Int} {s : Nat} (hs6 : s <= 6) (hd : 0 < d) (hd9 : d <= 1000000000) (hlat : LatM H rv q xs bs X) (hX : LB X s d) (hqH : q < H.length) (hc : IM H cv bc c) (hcl : c.length = s) (hcb : ∀ k, k < s -> -1000000000 <= c.getD k 0 /\ c.getD k 0 <= 1000000000) (hbc : bc < H.length) :
  WF E19 (.func 46 [] []) [.agg [.int .i64 dl, rv], cv, .int .i64 d] ⟨H, L⟩ fun y m' => ∃ rv' q' xs' bs' H', y = .agg [.int .i64 d, rv'] /\ m' = ⟨H', L⟩ /\ LatM H' rv' q' xs' bs' (behind (zlI X c d s)) /\ Ext H H' /\ (∀ b ∈ bs', H.length <= b) /\ H.length <= q' /\ q' < H'.length := by
 have hXl := hX.len;have hrl := hlat.len;rw [hXl] at hrl;have hcv := hc.len;rw [hcl] at hcv
 have hrc : rv.cells = some [rv] := by
  rcases hlat.gs with ⟨rfl, _⟩ | ⟨g, rfl, _⟩ | ⟨g, n, rfl, _⟩ <;> rfl
 unfold AV.cells at hrc
 have hs1 : (s : Int) + 1 = ((s + 1 : Nat) : Int) := by omega
 refine zx0 rfl (zaz Tryd.func46 cir46) (by show 3 <= 79; decide) ?_;unfold ir46;simp only [zaw, List.replicate, zNA, zAN]
 repeat' (first |refine zE (by intro; simp (disch := omega) only [go_sem, List.append_assoc, List.length_append, hs1]; rfl) ?_ |refine WO.opE (by intro; exact zaf (by simp only [go_sem]; first | rfl | assumption)) (by simp only [pt8, pt1]; rfl) ?_ |refine zy1 ?_ |refine zy2 ?_ |refine zy3 ?_ |(simp only [fl1]))
 refine WO.call rfl rfl ((f84 (E := E19) rfl (zaz Tryd.func44 zqN) (n := s + 1) (d := d) (by omega)).mono ?_);rintro _ m' ⟨rvw, qw, xsw, bsw, H1, rfl, rfl, hlw, hext, hbw, hqw, hqwl⟩;simp only [pt8, pt4];have hextH : Ext H H1 := (Ext.app H _).trans hext
 have hlen1 : H.length + 2 <= H1.length := by have := hext.1; simp at this; omega
 have k60 : Zz.look H1 (H.length + 1) 0 = some [.int .i64 0, .snil] := hext.look (lk1 rfl);have hk30 : Zz.look H1 H.length 0 = some [.int .i64 dl, rv] := hext.look (lk0 rfl)
 have hrwc : rvw.cells = some [rvw] := by
  rcases hlw.gs with ⟨rfl, _⟩ | ⟨g, rfl, _⟩ | ⟨g, n, rfl, _⟩ <;> rfl
 unfold AV.cells at hrwc
 repeat' (first |refine zE (by intro; simp (disch := omega) only [go_sem, hk30, zap]; rfl) ?_ |refine zx2 (by intro; simp (disch := omega) only [go_sem, Option.bind_eq_bind, zbB, zbG, Nat.reduceAdd, lk0]; rfl) ?_ |refine WO.opE (by intro; exact zaf (by simp only [go_sem]; first | rfl | assumption)) (by simp only [pt8, pt7]; rfl) ?_ |refine zy1 ?_ |refine zy2 ?_ |refine zy3 ?_ |(simp only [fl1]) |refine zy5 ?_)
 have hlwl := hlw.len;simp only [zcj, List.length_map, List.length_range] at hlwl
 have hbwl : ∀ b ∈ bsw, H.length + 2 <= b /\ b < H1.length := fun b hb => ⟨by have := hbw b hb; simp at this; omega, hlw.blt hb⟩
 have hqw2 : H.length + 2 <= qw := by simp at hqw; omega
 obtain ⟨N, hN⟩ : ∃ N, N = H.length := ⟨_, rfl⟩
 obtain ⟨N7, hN7⟩ : ∃ N7, N7 = H1.length := ⟨_, rfl⟩
 rw [<- hN] at k60;refine zx9 (fun m st => ∃ T G i, st = ⟨T, G, L⟩ /\ T.length = 79 /\ gt T 1 = cv /\ gt T 2 = .int .i64 d /\ gt T 6 = .pref (N + 1) 0 0 /\ gt T 7 = .pref N7 0 0 /\ gt T 22 = rv /\ gt T 23 = .int .i64 (s : Nat) /\ gt T 24 = .int .i64 (i : Nat) /\ m + i = s /\ Ext H G /\ N7 + 1 <= G.length /\ Zz.look G (N + 1) 0 = some [.int .i64 0, .snil] /\ Zz.look G N7 0 = some [.int .i64 d, rvw] /\ LatM G rvw qw xsw bsw (zoC X c d s i)) ?_ s _ ⟨_, _, 0, rfl, rfl, rfl, rfl, by rw [hN]; rfl, by rw [hN7]; rfl, rfl, rfl, rfl, by omega, hextH.trans (Ext.app _ _), by rw [hN7]; simp, (zap (zah k60)).trans k60, by rw [hN7]; exact lk0 rfl, hlw.keep (List.getElem?_append_left hqwl) fun b hb => List.getElem?_append_left (hlw.blt hb)⟩;rw [<- hN7] at hbwl hqwl hlen1;rw [<- hN] at hbwl hqw2 hlen1;clear hlw hext hextH k60 hk30 hbw hqw hN7;rintro m _ ⟨T, G, i, rfl, hT, g1, g2, g6, g7, g22, g23, g24, hm, hE, hGl, k6, k7, hlw⟩;obtain ⟨f, rfl⟩ := exG hT;clear hT;change f 1 = _ at g1;change f 2 = _ at g2;change f 6 = _ at g6;change f 7 = _ at g7;change f 22 = _ at g22;change f 23 = _ at g23;change f 24 = _ at g24;simp only [tb, Nat.reduceAdd, g1, g2, g6, g7, g22, g23, g24];have hlb := zjK (c := c) hd hd9 hX (show i <= s by omega)
 have hlatG := hlat.keep (hE.2 q hqH) fun b hb => hE.2 b (hlat.blt hb)
 have hcG := hc.same (hE.2 bc hbc)
 by_cases his : i < s
 ·obtain ⟨gi, ai1, ai2, ai3, hRi⟩ := hlatG.at (i := i) (by omega);have hxc := hRi.cell;unfold AV.cells at hxc;have hxl := hRi.len;have hil := hX.row i his;rw [hil] at hxl
  have hxb : bs.getD i 0 < H.length := by
   refine hlat.blt ?_;rw [List.getD_eq_getElem?_getD, List.getElem?_eq_getElem (by have := hlat.bl; omega), Option.getD_some];exact List.getElem_mem _
  generalize hxe : xs.getD i und = x at *
  repeat' (first |refine zE (by intro; simp (disch := omega) only [go_sem, ai1, ai2, ai3]; rfl) ?_ |refine WO.opE (by intro; exact zaf (by simp only [go_sem]; first | rfl | assumption)) (by simp only [pt8, pt5]; rfl) ?_ |refine zy1 ?_ |refine zy2 ?_ |refine zy3 ?_ |(simp only [fl1]) |refine zy6 ?_ |refine zy5 ?_ |refine zy4 rfl (fun hp => ?_) (fun hp => ?_) <;> try (exfalso; first | omega | contradiction))
  refine zx9 (fun m2 st => ∃ T k, st = ⟨T, G, L⟩ /\ T.length = 79 /\ gt T 1 = cv /\ gt T 2 = .int .i64 d /\ gt T 6 = .pref (N + 1) 0 0 /\ gt T 7 = .pref N7 0 0 /\ gt T 22 = rv /\ gt T 23 = .int .i64 (s : Nat) /\ gt T 24 = .int .i64 (i : Nat) /\ gt T 9 = x /\ gt T 10 = .int .i64 (zhr c (X.getD i []) d k) /\ gt T 28 = x /\ gt T 29 = .int .i64 (s : Nat) /\ gt T 30 = .int .i64 (k : Nat) /\ m2 + k = s) ?_ s _ ⟨_, 0, rfl, rfl, rfl, rfl, rfl, rfl, rfl, rfl, rfl, rfl, rfl, rfl, rfl, rfl, by omega⟩;clear g1 g2 g6 g7 g22 g23 g24 f ai1 ai2 ai3;rintro m2 _ ⟨T, k, rfl, hT, g1, g2, g6, g7, g22, g23, g24, g9, g10, g28, g29, g30, hm2⟩;obtain ⟨f, rfl⟩ := exG hT;clear hT;change f 1 = _ at g1;change f 2 = _ at g2;change f 6 = _ at g6;change f 7 = _ at g7;change f 22 = _ at g22;change f 23 = _ at g23;change f 24 = _ at g24;change f 9 = _ at g9;change f 10 = _ at g10;change f 28 = _ at g28;change f 29 = _ at g29;change f 30 = _ at g30;simp only [tb, Nat.reduceAdd, g1, g2, g6, g7, g22, g23, g24, g9, g10, g28, g29, g30];have hsk := zm9 (c := c) (x := X.getD i []) hd k
  by_cases hk : k < s
  ·obtain ⟨g1', o1, c1, b1, b2, b3, _⟩ := hRi.at (i := k) (by omega);obtain ⟨g2', o2, c2, d1, d2, d3, _⟩ := (hcG.row (by omega)).at (i := k) (by omega);have hck := hcb k hk;have hxk := hX.el i k his hk;have e : ent X i k = (X.getD i []).getD k 0 := rfl;rw [e] at hxk;have hz1 := zc9 (x := c.getD k 0) hd;have hz2 := zc9 (x := (X.getD i []).getD k 0) hd;have hmul := zjr (X := c.getD k 0 % d) (x := (X.getD i []).getD k 0 % d) (by omega) (by omega)
   have c1s := fun m => zrD (m := m) (r := rvw) (d := d) (x := c.getD k 0) hd (by omega) ⟨by omega, by omega⟩
   have c2s := fun m => zrD (m := m) (r := rvw) (d := d) (x := (X.getD i []).getD k 0) hd (by omega) ⟨by omega, by omega⟩
   have c3s := fun m => zrD (m := m) (r := rvw) (d := d) (x := zhr c (X.getD i []) d k + c.getD k 0 % d * ((X.getD i []).getD k 0 % d)) hd (by omega) ⟨by omega, by omega⟩
   have hsu : (zhr c (X.getD i []) d k + c.getD k 0 % d * ((X.getD i []).getD k 0 % d)) % d = zhr c (X.getD i []) d (k + 1) := rfl;rw [hsu] at c3s
   repeat' (first |refine zE (by intro; simp (disch := omega) only [go_sem, b1, b2, b3]; rfl) ?_ |refine zP rfl rfl (fun V => c1s _) ?_ |refine zP rfl rfl (fun V => c2s _) ?_ |refine zP rfl rfl (fun V => c3s _) ?_ |refine zy1 ?_ |refine zy2 ?_ |refine zy3 ?_ |(simp only [fl1, fl4, zbr]) |refine zx4 ?_ |refine zx6 ?_ |refine zF rfl (by intro; simp (disch := omega) only [go_sem, d1, d2, d3, k7]; rfl) rfl ?_ |refine WT.big rfl rfl (by intro; simp (disch := omega) only [go_sem, d2, d3, k7]; rfl) (by simp (disch := omega) only [go_sem, zbh]; rfl) (by first | exact .inl rfl | exact .inr (zan _) | exact .inr trivial | (right; apply zau; simp only [zaR, zNA, zCA, List.getElem?_cons_succ, List.getElem?_cons_zero, Tch.free, and_true, true_and]; first | done | omega)) (by simp only [pt8, pt1, pt3, pt5]; rfl) ?_ |refine zy6 ?_ |refine zy5 ?_ |refine zy4 rfl (fun hp => ?_) (fun hp => ?_) <;> try (exfalso; first | omega | contradiction))
   exact ⟨m2 - 1, by omega, _, k + 1, rfl, rfl, rfl, rfl, rfl, rfl, rfl, rfl, rfl, rfl, rfl, rfl, rfl, rfl, by omega⟩
  ·have hke : k = s := by omega
   subst hke;have hap := zrw (L := L) (y := zhr c (X.getD i []) d k) hRi (by omega) (by omega);rw [hil] at hap
   have hrow : RowM (G ++ [some ⟨0, [.int .i64 (zhr c (X.getD i []) d k)]⟩, some ⟨0, zaa (zjG X c d k i)⟩]) (.sref (G.length + 1) 0 0 1 (k + 1) none) (G.length + 1) (zjG X c d k i) := by
    have := zpe (G := G) (r := X.getD i []) (y := zhr c (X.getD i []) d k);rw [hil] at this;exact this
   have hv : zaa (zhr c (X.getD i []) d k :: X.getD i []) = zaa (zjG X c d k i) := rfl;rw [hv] at hap
   have hlw1 : LatM (G ++ [some ⟨0, [.int .i64 (zhr c (X.getD i []) d k)]⟩, some ⟨0, zaa (zjG X c d k i)⟩]) rvw qw xsw bsw (zoC X c d k i) := hlw.keep (List.getElem?_append_left (by omega)) fun b hb => List.getElem?_append_left (hlw.blt hb)
   have hbv : G.length + 1 ∉ qw :: bsw := fun hm => by
    rcases List.mem_cons.1 hm with h | h
    ·omega
    ·have := hbwl _ h; omega
   have hVC : VC (zjG X c d k i) (k + 1) := (zjI hd hX his).toC hd9;have hs : zoC X c d k (i + 1) = (addI (k + 1) (zoC X c d k i) (zjG X c d k i) d (k + 1)).1 := rfl
   repeat' (first |refine zE (by intro; simp (disch := omega) only [go_sem]; rfl) ?_ |refine zy1 ?_ |refine zy2 ?_ |refine zy3 ?_ |(simp only [fl1, fl3, fl4, fl6, fl9]) |refine zx4 ?_ |refine zF rfl (by intro; simp (disch := omega) only [go_sem, za0, zaF, k7]; rfl) rfl ?_ |refine WT.big rfl rfl (by intro; simp (disch := omega) only [go_sem, za0, zaF, k7]; rfl) (by simp (disch := omega) only [go_sem, zbh]; rfl) (by first | exact .inl rfl | exact .inr (zan _) | exact .inr trivial | (right; apply zau; simp only [zaR, zNA, zCA, List.getElem?_cons_succ, List.getElem?_cons_zero, Tch.free, and_true, true_and]; first | done | omega)) (by simp only [pt8, pt2, pt4]; rfl) ?_ |refine zy8 ?_ |refine zy4 rfl (fun hp => ?_) (fun hp => ?_) <;> try (exfalso; first | omega | contradiction))
   refine WT.append (sv := .sref G.length 0 0 1 1 (some 1)) (xv := x) rfl rfl hap (zau (by
    simp only [zaR, zNA, zCA, List.getElem?_cons_zero, Tch.free, and_true]
    omega)) (by
    obtain ⟨g, off, cap, c, rfl, _⟩ := hRi;refine zau ?_;simp only [zaR, zNA, zCA, List.getElem?_cons_zero, Tch.free, and_true]
    omega) (by simp only [pt8, pt6]; rfl) ?_
   generalize hG2 : G ++ [some ⟨0, [.int .i64 (zhr c (X.getD i []) d k)]⟩, some ⟨0, zaa (zjG X c d k i)⟩] = G2 at *
   have hG2l : G2.length = G.length + 2 := by rw [<- hG2]; simp
   have hE2 : Ext G G2 := by rw [<- hG2]; exact Ext.app _ _
   refine WT.callM (fun _ H' => LatM H' rvw qw xsw bsw (zoC X c d k (i + 1)) /\ G2.length <= H'.length /\ ∀ b, b < G2.length -> b ∉ bsw -> b ≠ G.length + 1 -> H'[b]? = G2[b]?) rfl rfl ?_ ?_
   ·refine (f85 (E := E19) rfl (zaz Tryd.func60 zsL) rfl (by omega) hd hd9 hlw1 hlb (by omega) hrow hVC hbv).mono ?_;rintro y m' ⟨H', rfl, hlat2, _, hlen2, hkeep⟩;refine ⟨rfl, ⟨hlen2, fun b hb => ?_⟩, by rw [hs]; exact hlat2, hlen2, hkeep⟩
    by_cases h1 : b ∈ bsw
    ·exact .inr (hlw1.bk h1)
    ·by_cases h2 : b = G.length + 1
     ·subst h2; exact .inr hrow.bk
     ·exact .inl (hkeep b hb h1 h2)
   ·rintro v H' _ ⟨hlat2, hlen2, hkeep⟩;simp only [pt8, pt7]
    have hk5 : ∀ b, b < G.length -> b ∉ bsw -> H'[b]? = G[b]? := fun b hb h1 => by rw [hkeep b (by omega) h1 (by omega), hE2.2 b hb]
    have nb : ∀ b, b < N + 2 -> b ∉ bsw := fun b hb h => by have := hbwl b h; omega
    have nb7 : N7 ∉ bsw := fun h => by have := hbwl N7 h; omega
    have hHG := hE.1
    repeat' (first |refine zE (by intro; simp (disch := omega) only [go_sem]; rfl) ?_ |refine zy2 ?_ |refine zy3 ?_ |(simp only [zbr]) |refine zx6 ?_)
    exact ⟨m - 1, by omega, _, H', i + 1, rfl, rfl, rfl, rfl, rfl, rfl, rfl, rfl, rfl, by omega, ⟨by omega, fun j hj => by rw [hk5 j (by omega) (nb j (by omega)), hE.2 j hj]⟩, by omega, (zad (hk5 (N + 1) (by omega) (nb _ (by omega)))).trans k6, (zad (hk5 N7 (by omega) nb7)).trans k7, hlat2⟩
 ·have hie : s = i := by omega
  subst hie
  have hqG : qw < G.length := by omega
  repeat' (first |refine zE (by intro; simp (disch := omega) only [go_sem, k7]; rfl) ?_ |refine zy1 ?_ |refine zy2 ?_ |refine zy3 ?_ |(simp only [fl1]) |refine zy8 ?_ |refine zy4 rfl (fun hp => ?_) (fun hp => ?_) <;> try (exfalso; first | omega | contradiction))
  refine WO.call rfl rfl ((f86 (E := E19) rfl (zaz Tryd.func61 zsb) rfl (by omega) hd hd9 hlw hlb hqG).mono ?_);rintro _ m' ⟨H2, rfl, hlat2, hlen2, hkeep⟩;simp only [pt8, pt2];have hW : zlI X c d s = redI (s + 1) (zoC X c d s s) d (s + 1) := rfl;rw [<- hW] at hlat2
  have hWB : LB (zlI X c d s) (s + 1) d := by rw [hW]; exact LB.redI hd hlb (Nat.le_refl _)
  generalize zlI X c d s = W at *;have hWl := hWB.len
  have nb : ∀ b, b < N + 2 -> b ∉ bsw := fun b hb h => by have := hbwl b h; omega
  have nb7 : N7 ∉ bsw := fun h => by have := hbwl N7 h; omega
  have hHG := hE.1
  have hE2 : Ext H H2 := ⟨by omega, fun j hj => by rw [hkeep j (by omega) (nb j (by omega)), hE.2 j hj]⟩
  have k6' : Zz.look H2 (N + 1) 0 = some [.int .i64 0, .snil] := (zad (hkeep (N + 1) (by omega) (nb _ (by omega)))).trans k6;have k7' : Zz.look H2 N7 0 = some [.int .i64 d, rvw] := (zad (hkeep N7 (by omega) nb7)).trans k7;obtain ⟨yv, hy1, hyl, hyt⟩ := hlat2.tail (by omega);rw [hWl, Nat.add_sub_cancel] at hyl;have l7 := zah k7';have l6 := zah k6'
  repeat' (first |refine zE (by intro; simp (disch := omega) only [go_sem, zaZ, Option.bind_eq_bind, zaF, k7', zap, hy1, Option.map_none, Option.map_some]; rfl) ?_ |refine zx2 (by intro; simp (disch := omega) only [go_sem, Option.bind_eq_bind, zbB, zbG, Nat.reduceAdd, lk0, Option.map_some]; rfl) ?_ |refine WO.opE (by intro; exact zaf (by simp only [go_sem]; first | rfl | assumption)) (by simp only [pt8, pt0]; rfl) ?_ |refine zy1 ?_ |refine zy2 ?_ |refine zy3 ?_ |(simp only [fl1]) |refine zy5 ?_)
  obtain ⟨N13, hN13⟩ : ∃ N13, N13 = H2.length := ⟨_, rfl⟩
  have hWb := hWB.behind;have hbl := hWb.len
  have hxsl : ∀ i, i < s -> bsw.getD (i + 1) 0 < N13 /\ bsw.getD (i + 1) 0 ∈ bsw := fun i hi => by
   have h1 := hlat2.bl
   have h2 : bsw.getD (i + 1) 0 ∈ bsw := by
    rw [List.getD_eq_getElem?_getD, List.getElem?_eq_getElem (by omega), Option.getD_some];exact List.getElem_mem _
   exact ⟨by rw [hN13]; exact hlat2.blt h2, h2⟩
  refine zx9 (fun m st => ∃ T G ov qo xo bo i, st = ⟨T, G, L⟩ /\ T.length = 79 /\ gt T 6 = .pref (N + 1) 0 0 /\ gt T 13 = .pref N13 0 0 /\ gt T 63 = yv /\ gt T 64 = .int .i64 (s : Nat) /\ gt T 65 = .int .i64 (i : Nat) /\ m + i = s /\ N13 + 1 <= G.length /\ (∀ b, b < N13 -> G[b]? = H2[b]?) /\ Zz.look G N13 0 = some [.int .i64 d, ov] /\ LatM G ov qo xo bo ((behind W).take i) /\ (∀ b ∈ bo, N13 + 1 <= b) /\ N13 + 1 <= qo) ?_ s _ ⟨_, _, .snil, H2.length + 1, [], [], 0, rfl, rfl, rfl, by rw [hN13]; rfl, rfl, rfl, rfl, by omega, by rw [hN13]; simp, fun b hb => List.getElem?_append_left (by omega), by rw [hN13]; exact lk0 rfl, LatM.nil _ _, fun b hb => by simp at hb, by omega⟩;clear g1 g2 g6 g7 g22 g23 g24 f k7 k6 k7';rintro m _ ⟨T, G, ov, qo, xo, bo, i, rfl, hT, g6, g13, g63, g64, g65, hm, hGl, hkp, k13, hlo, hbo, hqo⟩;obtain ⟨f, rfl⟩ := exG hT;clear hT;change f 6 = _ at g6;change f 13 = _ at g13;change f 63 = _ at g63;change f 64 = _ at g64;change f 65 = _ at g65;simp only [tb, Nat.reduceAdd, g6, g13, g63, g64, g65]
  have hovc : ov.cells = some [ov] := by
   rcases hlo.gs with ⟨rfl, _⟩ | ⟨g, rfl, _⟩ | ⟨g, n, rfl, _⟩ <;> rfl
  unfold AV.cells at hovc
  by_cases his : i < s
  ·obtain ⟨gi, ai1, ai2, ai3, hRi⟩ := hyt i (by omega);obtain ⟨hb1, _⟩ := hxsl i his;have hRG := hRi.same (hkp _ hb1);have hai2 : Zz.look G qw gi = some xsw := (zad (hkp qw (by have := zah ai2; omega))).trans ai2;have hxc := hRi.cell;unfold AV.cells at hxc;have hil := hWB.row (i + 1) (by omega);obtain ⟨zv, hz1, hzr⟩ := hRi.tail (by rw [hil]; omega);have hbe := zgv (W := W) (i := i) (by omega);rw [<- hbe] at hzr;have hzl : ((behind W).getD i []).length = s := hWb.row i his;have hzc := hzr.cell;unfold AV.cells at hzc;generalize hxe : xsw.getD (i + 1) und = x at *
   repeat' (first |refine zE (by intro; simp (disch := omega) only [go_sem, ai1, hai2, ai3, Option.map_some]; rfl) ?_ |refine zy1 ?_ |refine zy2 ?_ |refine zy3 ?_ |(simp only [fl1, fl4]) |refine zx4 ?_ |refine zF rfl (by intro; simp (disch := omega) only [go_sem, k13, hz1, Option.map_none, Option.map_some]; rfl) rfl ?_ |refine WT.big rfl rfl (by intro; simp (disch := omega) only [go_sem, k13, hz1, Option.map_none, Option.map_some]; rfl) (by simp (disch := omega) only [go_sem, zbh]; rfl) (by first | exact .inl rfl | exact .inr (zan _) | exact .inr trivial | (right; apply zau; simp only [zaR, zNA, zCA, List.getElem?_cons_succ, List.getElem?_cons_zero, Tch.free, and_true, true_and]; first | done | omega)) (by simp only [pt8, pt0, pt6]; rfl) ?_ |refine zy6 ?_ |refine zy5 ?_ |refine zy4 rfl (fun hp => ?_) (fun hp => ?_) <;> try (exfalso; first | omega | contradiction))
   refine WT.callR (fun v R => ∃ q2, G.length <= q2 /\ RowM (G ++ R) v q2 ((behind W).getD i [])) [bsw.getD (i + 1) 0] rfl rfl (fun j hj => by
    rw [List.mem_singleton] at hj;subst hj;refine zau ?_;simp only [zaR, zNA, zCA, List.getElem?_cons_succ, List.getElem?_cons_zero, Tch.free, and_true]
    omega) ?_ ?_
   ·intro V hV hVb;have hrV : RowM V zv (bsw.getD (i + 1) 0) ((behind W).getD i []) := (hzr.same (hkp _ hb1)).same (hVb _ (by simp));refine (f131r (E := E19) rfl (zaz Tryd.func56 zpK) hrV (by omega) (by omega)).mono ?_;rintro v m' ⟨q2, H', rfl, hr2, hext2, hq2⟩;obtain ⟨R, rfl⟩ := hext2.split;refine ⟨rfl, R, rfl, q2, by omega, hr2.same ?_⟩;rw [List.getElem?_append_right (by omega), List.getElem?_append_right (by omega), hV]
   rintro v R ⟨q2, hq2, hr2⟩;simp only [pt8, pt1];have hvc := hr2.cell;unfold AV.cells at hvc;have hext2 : Ext G (G ++ R) := Ext.app _ _;obtain ⟨ov', qo', H', a1, hlo', hqo', hlen', hsame⟩ := hlo.push (L := L) hext2 hq2 hr2 (by simp; omega);rw [<- zm2 (by omega)] at hlo';have hkR : Zz.look (G ++ R) N13 0 = some [.int .i64 d, ov] := (zap (by omega)).trans k13;have hk13' : Zz.look H' N13 0 = some [.int .i64 d, ov] := (zad (hsame N13 (by simp; omega) (.inl (by omega)))).trans hkR
   have hovc' : ov'.cells = some [ov'] := by
    rcases hlo'.gs with ⟨rfl, _⟩ | ⟨g, rfl, _⟩ | ⟨g, n, rfl, _⟩ <;> rfl
   unfold AV.cells at hovc';have hl13 := zah hk13';rw [List.length_append, List.append_assoc] at a1;rw [List.length_append] at hlen' hsame hqo'
   have hbo' : ∀ b ∈ bo ++ [q2], N13 + 1 <= b := fun b hb => by
    rcases List.mem_append.1 hb with hb | hb
    ·exact hbo b hb
    ·simp only [List.mem_singleton] at hb; omega
   have hqo2 : N13 + 1 <= qo' := by rcases hqo' with ⟨h, _⟩ | h <;> omega
   repeat' (first |refine WT.big rfl rfl (by intro; simp (disch := omega) only [go_sem, zaZ, Option.bind_eq_bind, List.append_assoc, za0, List.length_append, zaF, hvc]; rfl) (by simp (disch := omega) only [go_sem, List.length_append, zbh]; rfl) (by first | exact .inl rfl | exact .inr (zan _) | exact .inr trivial | (right; apply zau; simp only [zaR, zNA, zCA, List.getElem?_cons_succ, List.getElem?_cons_zero, Tch.free, and_true, true_and]; first | done | omega)) (by simp only [pt8, pt2]; rfl) ?_)
   refine WT.append (sv := ov) (xv := .sref (G.length + R.length) 0 0 1 1 (some 1)) rfl rfl a1 (zan _) (zan _) (by simp only [pt8, pt3]; rfl) ?_
   repeat' (first |refine zE (by intro; simp (disch := omega) only [go_sem]; rfl) ?_ |refine zy2 ?_ |refine zy3 ?_ |(simp only [zbr]) |refine zx6 ?_ |refine zF rfl (by intro; simp (disch := omega) only [go_sem]; rfl) rfl ?_ |refine zx3 rfl rfl (by intro; simp (disch := omega) only [go_sem, Option.bind_eq_bind, zcN, hk13', hovc']; rfl) (by simp (disch := omega) only [go_sem, zbh]; rfl) (by first | exact .inl rfl | exact .inr (zan _) | exact .inr trivial | (right; apply zau; simp only [zaR, zNA, zCA, List.getElem?_cons_succ, List.getElem?_cons_zero, Tch.free, and_true, true_and]; first | done | omega)) ?_)
   exact ⟨m - 1, by omega, _, H'.set N13 (some ⟨0, [.int .i64 d, ov']⟩), ov', qo', _, _, i + 1, rfl, rfl, rfl, rfl, rfl, rfl, rfl, by omega, by rw [List.length_set]; omega, fun b hb => by
    rw [List.getElem?_set_ne (by omega), hsame b (by omega) (.inl (by omega)), List.getElem?_append_left (by omega), hkp b hb], zaJ hl13, hlo'.keep (List.getElem?_set_ne (by omega)) fun b hb => List.getElem?_set_ne (by have := hbo' b hb; omega), hbo', hqo2⟩
  ·have hie : s = i := by omega
   subst hie;rw [List.take_of_length_le (by omega)] at hlo;have k6g : Zz.look G (N + 1) 0 = some [.int .i64 0, .snil] := (zad (hkp _ (by omega))).trans k6';have l6g := zah k6g;obtain ⟨qo, hlo, hqo, hqoG⟩ := hlo.fit (a := N13) (by omega) (by omega)
   repeat' (first |refine zE (by intro; simp (disch := omega) only [go_sem, k13]; rfl) ?_ |refine zx2 (by intro; simp (disch := omega) only [go_sem, Option.bind_eq_bind, zbG, Nat.reduceAdd, k6g]; rfl) ?_ |refine zy1 ?_ |refine zy2 ?_ |refine zy3 ?_ |(simp only [fl1]) |refine zy8 ?_ |refine zy7 ?_ |refine zy4 rfl (fun hp => ?_) (fun hp => ?_) <;> try (exfalso; first | omega | contradiction))
   have hk6s : ∀ c : List AV, Zz.look (G.set (N + 1) (some ⟨0, c⟩)) (N + 1) 0 = some c := fun c => zaJ l6g
   have cut2z : ∀ a b : AV, Zz.cut [a, b] 0 2 = some [a, b] := fun a b => by simp [Zz.cut]
   refine ⟨_, by simp only [zbZ, gt6, za4, hk6s, cut2z, if_true, Option.bind_some, Option.map_some]; rfl, ov, qo, xo, bo, _, rfl, rfl, hlo.keep (List.getElem?_set_ne (by omega)) fun b hb => List.getElem?_set_ne (by have := hbo b hb; omega), ⟨by have := hE2.1; simp; omega, fun j hj => ?_⟩, fun b hb => by have := hbo b hb; have := hE2.1; omega, by have := hE2.1; omega, by rw [List.length_set]; omega⟩;rw [List.getElem?_set_ne (by omega), hkp j (by have := hE2.1; omega), hE2.2 j hj]
set_option maxRecDepth 100000
set_option maxHeartbeats 8000000
theorem f135 {x : AV} {l : List Nat} (hx : NatS x l) (v : Nat) (hl : l.length < 1000000) {H : Hp} {L : List (Option ALoop)} : WF E19 (.func 58 [] []) [x, .int .i64 (v : Nat)] ⟨H, L⟩ fun y m' => (∃ r : Int, y = .int .i64 r /\ -1 <= r /\ (0 <= r ↔ v ∈ l) /\ r < 1000000) /\ m' = ⟨H, L⟩ := by
 have hxl := hx.len;refine zx0 rfl (zaz Tryd.func58 cir58) (by show 2 <= 19; decide) ?_;unfold ir58;simp only [zaw, List.replicate, zNA, zAN]
 repeat' (first |refine zE (by intro; simp (disch := omega) only [go_sem]; rfl) ?_ |refine WO.opE (by intro; exact zaf (by simp only [go_sem]; first | rfl | assumption)) (by simp only [pt7]; rfl) ?_ |refine zy1 ?_ |refine zy2 ?_ |refine zy3 ?_ |(simp only [fl1]) |refine zy5 ?_)
 refine zx9 (fun m s => ∃ T i, s = ⟨T, H, L⟩ /\ T.length = 19 /\ gt T 0 = x /\ gt T 1 = .int .i64 (v : Nat) /\ gt T 6 = x /\ gt T 7 = .int .i64 (l.length : Nat) /\ gt T 8 = .int .i64 (i : Nat) /\ m + i = l.length /\ ∀ t, t < i -> l.getD t 0 ≠ v) ?_ l.length _ ⟨_, 0, rfl, rfl, rfl, rfl, rfl, rfl, rfl, by omega, fun t ht => by omega⟩;rintro m _ ⟨T, i, rfl, hT, g0, g1, g6, g7, g8, hm, hi⟩;obtain ⟨f, rfl⟩ := exG hT;clear hT;change f 0 = _ at g0;change f 1 = _ at g1;change f 6 = _ at g6;change f 7 = _ at g7;change f 8 = _ at g8;simp only [tb, Nat.reduceAdd, g0, g1, g6, g7, g8]
 by_cases hin : i < l.length
 ·obtain ⟨t, hat⟩ := hx.at hin
  by_cases he : v = l.getD i 0
  ·have he1 : ((v : Nat) : Int) = ((l.getD i 0 : Nat) : Int) := by rw [he]
   have he2 : (((l.getD i 0 : Nat) : Int) == ((l.getD i 0 : Nat) : Int)) = true := by simp
   repeat' (first |refine zE (by intro; simp (disch := omega) only [go_sem, hat, he1, he2]; rfl) ?_ |refine zy1 ?_ |refine zy2 ?_ |refine zy3 ?_ |(simp only [fl1, fl2, fl5, fl8]) |refine zy0 rfl ?_ |refine zy6 ?_ |refine zy7 ?_ |refine zy5 ?_ |refine zy4 rfl (fun hp => ?_) (fun hp => ?_) <;> try (exfalso; first | omega | contradiction))
   refine ⟨_, rfl, ⟨(i : Int), rfl, by omega, ⟨fun _ => ?_, fun _ => by omega⟩, by omega⟩, rfl⟩;rw [he, List.getD_eq_getElem?_getD, List.getElem?_eq_getElem hin];exact List.getElem_mem hin
  ·have he1 : ¬ ((v : Nat) : Int) = ((l.getD i 0 : Nat) : Int) := by omega
   repeat' (first |refine zE (by intro; simp (disch := omega) only [go_sem, hat]; rfl) ?_ |refine zy1 ?_ |refine zy2 ?_ |refine zy3 ?_ |(simp only [fl1, zbr]) |refine zy6 ?_ |refine zy5 ?_ |refine zy4 rfl (fun hp => ?_) (fun hp => ?_) <;> try (exfalso; first | omega | contradiction))
   exact ⟨m - 1, by omega, _, i + 1, rfl, rfl, rfl, rfl, rfl, rfl, rfl, by omega, fun t ht => by
    by_cases e : t = i
    ·subst e; exact fun h => he h.symm
    ·exact hi t (by omega)⟩
 ·have hie : i = l.length := by omega
  subst hie
  repeat' (first |refine zE (by intro; simp (disch := omega) only [go_sem, Int.reduceNeg, Int.reduceAdd]; rfl) ?_ |refine zy1 ?_ |refine zy2 ?_ |refine zy3 ?_ |(simp only [fl1]) |refine zy8 ?_ |refine zy7 ?_ |refine zy4 rfl (fun hp => ?_) (fun hp => ?_) <;> try (exfalso; first | omega | contradiction))
  refine ⟨_, rfl, ⟨-1, rfl, by omega, ⟨fun h => by omega, fun h => ?_⟩, by omega⟩, rfl⟩;obtain ⟨t, ht, rfl⟩ := List.mem_iff_getElem.1 h;exact absurd (by rw [List.getD_eq_getElem?_getD, List.getElem?_eq_getElem ht]; rfl) (hi t ht)
theorem f98 {x : AV} {l : List Nat} (hx : NatS x l) (v : Nat) (hl : l.length < 1000000) {H : Hp} {L : List (Option ALoop)} : WF E19 (.func 43 [] []) [x, .int .i64 (v : Nat)] ⟨H, L⟩ fun y m' => y = .bool (decide (v ∈ l)) /\ m' = ⟨H, L⟩ := by
 refine zx0 rfl (zaz Tryd.func43 cir43) (by show 2 <= 9; decide) ?_;unfold ir43;simp only [zaw, List.replicate, zNA, zAN]
 repeat' (first |refine zE (by intro; simp (disch := omega) only [go_sem]; rfl) ?_ |refine zy1 ?_ |refine zy2 ?_ |refine zy3 ?_ |(simp only [fl1]))
 refine WO.call rfl rfl ((f135 hx v hl).mono ?_);rintro y m' ⟨⟨r, rfl, h1, h2, h3⟩, rfl⟩;simp only [pt7]
 repeat' (first |refine zE (by intro; simp (disch := omega) only [go_sem]; rfl) ?_ |refine zy3 ?_ |refine zy7 ?_)
 refine ⟨_, rfl, ?_, rfl⟩;simp only [zbo, gt4]
 congr 1
 rw [decide_eq_decide];exact h2
theorem f97 {l iv jv : AV} {js : List Nat} {d : Int} (hjv : NatS jv js) (hjl : js.length < 1000000) (v : Nat) {H : Hp} {L : List (Option ALoop)} (h0 : Zz.look H 0 0 = some [l, iv, jv, .int .i64 d]) : WF E19 (.func 42 [] [.pref 0 0 0]) [.int .i64 (v : Nat)] ⟨H, L⟩ fun y m' => y = .bool (decide (v ∈ js)) /\ m' = ⟨H, L⟩ := by
 refine zx0 rfl (zaz Tryd.func42 cir42) (by show 2 <= 8; decide) ?_;unfold ir42;simp only [zaw, List.replicate, zNA, zCA]
 repeat' (first |refine zE (by intro; simp (disch := omega) only [go_sem, h0]; rfl) ?_ |refine zy1 ?_ |refine zy2 ?_ |refine zy3 ?_ |(simp only [fl1]))
 refine WO.call rfl rfl ((f98 hjv v hjl).mono ?_);rintro y m' ⟨rfl, rfl⟩;simp only [pt7]
 repeat' (first |refine zE (by intro; simp (disch := omega) only [go_sem]; rfl) ?_ |refine zy3 ?_ |refine zy7 ?_)
 exact ⟨_, rfl, rfl, rfl⟩
theorem f134 {fv : AV} {p : Nat -> Bool} {b g : Nat} {l : List Nat} (hl : l.length < 1000000) {H : Hp} {L : List (Option ALoop)} (hk : Zz.look H b g = some (zas l)) (hfv : ∀ v : Nat, WF E19 fv [.int .i64 (v : Nat)] ⟨H, L⟩ fun y m' => y = .bool (p v) /\ m' = ⟨H, L⟩) :
  WF E19 (.func 49 [] []) [.sref b g 0 1 l.length (some l.length), fv] ⟨H, L⟩ fun y m' => (y = .int .i64 (-1) /\ (∀ t, t < l.length -> p (l.getD t 0) = false) \/ ∃ i : Nat, i < l.length /\ y = .int .i64 (i : Int) /\ p (l.getD i 0) = true /\ ∀ t, t < i -> p (l.getD t 0) = false) /\ m' = ⟨H, L⟩ := by
 refine zx0 rfl (zaz Tryd.func49 ztw) (by show 2 <= 19; decide) ?_;unfold ir49;simp only [zaw, List.replicate, zNA, zAN]
 repeat' (first |refine zE (by intro; simp (disch := omega) only [go_sem]; rfl) ?_ |refine WO.opE (by intro; exact zaf (by simp only [go_sem]; first | rfl | assumption)) (by simp only [pt7]; rfl) ?_ |refine zy1 ?_ |refine zy2 ?_ |refine zy3 ?_ |(simp only [fl1]) |refine zy5 ?_)
 refine zx9 (fun m s => ∃ T i, s = ⟨T, H, L⟩ /\ T.length = 19 /\ gt T 0 = .sref b g 0 1 l.length (some l.length) /\ gt T 1 = fv /\ gt T 6 = .sref b g 0 1 l.length (some l.length) /\ gt T 7 = .int .i64 (l.length : Nat) /\ gt T 8 = .int .i64 (i : Nat) /\ m + i = l.length /\ ∀ t, t < i -> p (l.getD t 0) = false) ?_ l.length _ ⟨_, 0, rfl, rfl, rfl, rfl, rfl, rfl, rfl, by omega, fun t ht => by omega⟩;rintro m _ ⟨T, i, rfl, hT, g0, g1, g6, g7, g8, hm, hi⟩;obtain ⟨f, rfl⟩ := exG hT;clear hT;change f 0 = _ at g0;change f 1 = _ at g1;change f 6 = _ at g6;change f 7 = _ at g7;change f 8 = _ at g8;simp only [tb, Nat.reduceAdd, g0, g1, g6, g7, g8]
 by_cases hin : i < l.length
 ·have hat := zd6 hin
  have hix : zaj 1 (.sref b g 0 1 l.length (some l.length)) (.int .i64 (i : Int)) = some (.pref b g i) := by rw [zbl, zbb hin]; simp
  repeat' (first |refine zE (by intro; simp (disch := omega) only [go_sem, hix, hk, hat]; rfl) ?_ |refine zy1 ?_ |refine zy2 ?_ |refine zy3 ?_ |(simp only [fl1]) |refine zy6 ?_ |refine zy5 ?_ |refine zy4 rfl (fun hp => ?_) (fun hp => ?_) <;> try (exfalso; first | omega | contradiction))
  refine WO.call rfl rfl ((hfv _).mono ?_);rintro y m' ⟨rfl, rfl⟩;simp only [pt8, pt0]
  cases hp : p (l.getD i 0)
  ·skip
   repeat' (first |refine zE (by intro; simp (disch := omega) only [go_sem]; rfl) ?_ |refine zy2 ?_ |refine zy3 ?_ |(simp only [zbr]) |refine zy9 rfl ?_ |refine zy6 ?_)
   exact ⟨m - 1, by omega, _, i + 1, rfl, rfl, rfl, rfl, rfl, rfl, rfl, by omega, fun t ht => by
    by_cases e : t = i
    ·subst e; exact hp
    ·exact hi t (by omega)⟩
  ·skip
   repeat' (first |refine zE (by intro; simp (disch := omega) only [go_sem]; rfl) ?_ |refine zy1 ?_ |refine zy2 ?_ |refine zy3 ?_ |(simp only [fl1, fl2, fl5, fl8]) |refine zy0 rfl ?_ |refine zy7 ?_)
   exact ⟨_, rfl, .inr ⟨i, hin, rfl, hp, hi⟩, rfl⟩
 ·have hie : i = l.length := by omega
  subst hie
  repeat' (first |refine zE (by intro; simp (disch := omega) only [go_sem, Int.reduceNeg, Int.reduceAdd]; rfl) ?_ |refine zy1 ?_ |refine zy2 ?_ |refine zy3 ?_ |(simp only [fl1]) |refine zy8 ?_ |refine zy7 ?_ |refine zy4 rfl (fun hp => ?_) (fun hp => ?_) <;> try (exfalso; first | omega | contradiction))
  exact ⟨_, rfl, .inl ⟨rfl, hi⟩, rfl⟩
theorem zgu {l : List Nat} {j : Nat} (h : j < l.length) : l.take (j + 1) = l.take j ++ [l.getD j 0] := zcY h
theorem f96 {fv : AV} {p : Nat -> Bool} {b g : Nat} {l : List Nat} (hl : l.length < 1000000) {H : Hp} {L : List (Option ALoop)} (hk : Zz.look H b g = some (zas l)) (hfvc : fv.cells = some [fv]) (hfv : ∀ G : Hp, (∀ j, j ≠ b -> G[j]? = H[j]?) -> ∀ v : Nat, WF E19 fv [.int .i64 (v : Nat)] ⟨G, L⟩ fun y m' => y = .bool (p v) /\ m' = ⟨G, L⟩) :
  WF E19 (.func 40 [] []) [.sref b g 0 1 l.length (some l.length), fv] ⟨H, L⟩ fun y m' => ∃ G c, y = .sref b g 0 1 (l.filter fun v => !p v).length (some l.length) /\ m' = ⟨G, L⟩ /\ Zz.look G b g = some c /\ c.length = l.length /\ c.take (l.filter fun v => !p v).length = zas (l.filter fun v => !p v) /\ G.length = H.length /\ ∀ j, j ≠ b -> G[j]? = H[j]? := by
 refine zx0 rfl (zaz Tryd.func40 cir40) (by show 2 <= 42; decide) ?_;unfold ir40;simp only [zaw, List.replicate, zNA, zAN]
 repeat' (first |refine zE (by intro; simp (disch := omega) only [go_sem]; rfl) ?_ |refine zy1 ?_ |refine zy2 ?_ |refine zy3 ?_ |(simp only [fl1]))
 refine WO.call rfl rfl ((f134 hl hk (hfv H fun j _ => rfl)).mono ?_);rintro y m' ⟨h, rfl⟩;simp only [pt8, pt2]
 rcases h with ⟨rfl, hno⟩ | ⟨r, hr, rfl, hpr, hlo⟩
 ·have hfe : (l.filter fun v => !p v) = l := List.filter_eq_self.2 fun v hv => by
   obtain ⟨t, ht, rfl⟩ := List.mem_iff_getElem.1 hv;have := hno t ht;rw [List.getD_eq_getElem?_getD, List.getElem?_eq_getElem ht] at this;simpa using this
  repeat' (first |refine zE (by intro; simp (disch := omega) only [go_sem, Int.reduceNeg, Int.reduceAdd]; rfl) ?_ |refine zy1 ?_ |refine zy2 ?_ |refine zy3 ?_ |(simp only [fl1, fl2]) |refine zy0 rfl ?_ |refine zy7 ?_)
  rw [hfe];exact ⟨_, rfl, H, zas l, rfl, rfl, hk, zai l, by rw [List.take_of_length_le (by rw [zai]; exact Nat.le_refl _)], rfl, fun j _ => rfl⟩
 ·have hr1 : ¬ (r : Int) = -1 := by omega
  have hlk := zah hk
  have hF0 : ((l.take (r + 1)).filter fun v => !p v) = l.take r := by
   rw [zgu hr, List.filter_append]
   have h1 : ((l.take r).filter fun v => !p v) = l.take r := List.filter_eq_self.2 fun v hv => by
    obtain ⟨t, ht, rfl⟩ := List.mem_iff_getElem.1 hv;rw [List.length_take] at ht;have := hlo t (by omega);rw [List.getD_eq_getElem?_getD, List.getElem?_eq_getElem (by omega)] at this;simpa using this
   have h2 : (([l.getD r 0]).filter fun v => !p v) = [] := List.filter_eq_nil_iff.2 fun v hv => by
    rw [List.mem_singleton] at hv;subst hv;simp only [hpr]
    decide
   rw [h1, h2, List.append_nil]
  have hr2 : ((r : Nat) : Int) + 1 = ((r + 1 : Nat) : Int) := by omega
  repeat' (first |refine zE (by intro; simp (disch := omega) only [go_sem, Int.reduceNeg, Int.reduceAdd, reduceCtorEq]; rfl) ?_ |refine zy1 ?_ |refine zy2 ?_ |refine zy3 ?_ |(simp only [fl1]) |refine zy9 rfl ?_ |refine zy6 ?_ |refine zy5 ?_)
  refine zx9 (fun m s => ∃ T G c i j, s = ⟨T, G, L⟩ /\ T.length = 42 /\ gt T 0 = .sref b g 0 1 l.length (some l.length) /\ gt T 1 = fv /\ gt T 5 = .int .i64 (i : Nat) /\ gt T 6 = .int .i64 (j : Nat) /\ m + j = l.length /\ i < j /\ G.length = H.length /\ Zz.look G b g = some c /\ c.length = l.length /\ i = ((l.take j).filter fun v => !p v).length /\ c.take i = zas ((l.take j).filter fun v => !p v) /\ (∀ t, j <= t -> t < l.length -> c[t]? = (zas l)[t]?) /\ ∀ j, j ≠ b -> G[j]? = H[j]?) ?_ (l.length - (r + 1)) _ ⟨_, H, zas l, r, r + 1, rfl, rfl, rfl, rfl, rfl, by first | rfl | (show AV.int .i64 ((r : Int) + 1) = _; rw [hr2]), by omega, by omega, rfl, hk, zai l, by rw [hF0, List.length_take]; omega, by rw [hF0, zdu], fun t _ _ => rfl, fun j _ => rfl⟩;rintro m _ ⟨T, G, c, i, j, rfl, hT, g0, g1, g5, g6, hm, hij, hGl, hkG, hcl, hi, hct, hcr, hkeep⟩;obtain ⟨f, rfl⟩ := exG hT;clear hT;change f 0 = _ at g0;change f 1 = _ at g1;change f 5 = _ at g5;change f 6 = _ at g6;simp only [tb, Nat.reduceAdd, g0, g1, g5, g6];have hlG := zah hkG
  by_cases hjn : j < l.length
  ·have hat := (hcr j (Nat.le_refl _) hjn).trans (zd6 hjn)
   have hix : zaj 1 (.sref b g 0 1 l.length (some l.length)) (.int .i64 (j : Int)) = some (.pref b g j) := by rw [zbl, zbb hjn]; simp
   have hixi : zaj 1 (.sref b g 0 1 l.length (some l.length)) (.int .i64 (i : Int)) = some (.pref b g i) := by rw [zbl, zbb (by omega)]; simp
   have hov := zcM (c := c) (k := i) (x := .int .i64 ((l.getD j 0 : Nat) : Int)) (by omega);have hts := zgu hjn
   repeat' (first |refine zE (by intro; simp (disch := omega) only [go_sem, hix, hkG, hat]; rfl) ?_ |refine WO.opE (by intro; exact zaf (by simp only [go_sem]; first | rfl | assumption)) (by simp only [pt8, pt2]; rfl) ?_ |refine zy1 ?_ |refine zy2 ?_ |refine zy3 ?_ |(simp only [fl1]) |refine zy6 ?_ |refine zy5 ?_ |refine zy4 rfl (fun hp => ?_) (fun hp => ?_) <;> try (exfalso; first | omega | contradiction))
   refine WO.call rfl rfl ((hfv G hkeep _).mono ?_);rintro y m' ⟨rfl, rfl⟩;simp only [pt8, pt4]
   cases hp : p (l.getD j 0)
   ·have hf : ((l.take (j + 1)).filter fun v => !p v) = ((l.take j).filter fun v => !p v) ++ [l.getD j 0] := by
     rw [hts, List.filter_append]
     congr 1
     rw [List.filter_cons_of_pos (by simp only [hp]; decide), List.filter_nil]
    repeat' (first |refine zE (by intro; simp (disch := omega) only [go_sem, hixi]; rfl) ?_ |refine zx2 (by intro; simp (disch := omega) only [go_sem, hkG, hov]; rfl) ?_ |refine zy1 ?_ |refine zy2 ?_ |refine zy3 ?_ |(simp only [zbr]) |refine zy0 rfl ?_)
    exact ⟨m - 1, by omega, _, G.set b (some ⟨g, c.set i (.int .i64 ((l.getD j 0 : Nat) : Int))⟩), c.set i (.int .i64 ((l.getD j 0 : Nat) : Int)), i + 1, j + 1, rfl, rfl, rfl, rfl, rfl, rfl, by omega, by omega, by rw [List.length_set]; exact hGl, zaJ hlG, by rw [List.length_set]; exact hcl, by rw [hf, List.length_append, List.length_singleton, <- hi], by
     rw [hf, zc4, <- hct, List.take_add_one, List.take_set_of_le (Nat.le_refl _), List.getElem?_set_self (by omega)]
     rfl, fun t h1 h2 => by rw [List.getElem?_set_ne (by omega)]; exact hcr t (by omega) h2, fun k hk => by rw [List.getElem?_set_ne (Ne.symm hk)]; exact hkeep k hk⟩
   ·have hf : ((l.take (j + 1)).filter fun v => !p v) = ((l.take j).filter fun v => !p v) := by
     rw [hts, List.filter_append]
     have : (([l.getD j 0]).filter fun v => !p v) = [] := by rw [List.filter_cons_of_neg (by simp only [hp]; decide), List.filter_nil]
     rw [this, List.append_nil]
    repeat' (first |refine zE (by intro; simp (disch := omega) only [go_sem]; rfl) ?_ |refine zy2 ?_ |refine zy3 ?_ |(simp only [zbr]) |refine zy9 rfl ?_ |refine zy6 ?_)
    exact ⟨m - 1, by omega, _, G, c, i, j + 1, rfl, rfl, rfl, rfl, rfl, rfl, by omega, by omega, hGl, hkG, hcl, by rw [hf]; exact hi, by rw [hf]; exact hct, fun t h1 h2 => hcr t (by omega) h2, hkeep⟩
  ·have hje : j = l.length := by omega
   subst hje;rw [List.take_length] at hi hct
   have hs1 : ∀ G : Hp, zaU G 1 (.sref b g 0 1 l.length (some l.length)) (some (.int .i64 (i : Int))) none none = some (.sref b g i 1 (l.length - i) (some (l.length - i))) := fun G => by
    simp only [zaU, if_true, Option.isNone, Bool.false_and, Bool.false_eq_true, if_false, zed, zfi, bnd];rw [if_pos ⟨by omega, by omega⟩];simp only [Option.bind_some, Int.toNat_natCast];rw [if_neg (by omega), Nat.mul_one, Nat.zero_add]
   have hs2 : ∀ G : Hp, zaU G 1 (.sref b g 0 1 l.length (some l.length)) none (some (.int .i64 (i : Int))) none = some (.sref b g 0 1 i (some l.length)) := fun G => by
    simp only [zaU, if_true, Option.isNone, Bool.false_and, Bool.false_eq_true, if_false, zed, zfi, bnd, Option.getD_some];rw [if_pos ⟨by omega, by omega⟩];simp
   have hzl : ∀ n, (za0 [AV.int .i64 0] n).length = n := fun n => by rw [ziW, zae, List.length_replicate]
   have hov : Zz.over c i (za0 [.int .i64 0] (l.length - i)) = some (c.take i ++ za0 [.int .i64 0] (l.length - i)) := by
    unfold Zz.over;rw [if_pos (by rw [hzl]; omega), hzl, List.drop_of_length_le (by omega), List.append_nil]
   have hcle : ∀ L : List (Option ALoop), zdF [.int .i64 0] ⟨G, L⟩ (.sref b g i 1 (l.length - i) (some (l.length - i))) = some ⟨G.set b (some ⟨g, c.take i ++ za0 [.int .i64 0] (l.length - i)⟩), L⟩ := fun L => by
    simp only [zdF];rw [if_neg (by omega)];simp only [storeAt, hkG, Option.bind_eq_bind, Option.bind_some, hov, zat, Option.map_some]
   repeat' (first |refine zE (by intro; simp (disch := omega) only [go_sem, hs1, hs2, Option.map_none, Option.map_some]; rfl) ?_ |refine zx2 (by intro; simp (disch := omega) only [go_sem, Option.map_some, hcle]; rfl) ?_ |refine WO.opE (by intro; exact zaf (by simp only [go_sem]; first | rfl | assumption)) (by simp only [pt8, pt2]; rfl) ?_ |refine zy1 ?_ |refine zy2 ?_ |refine zy3 ?_ |(simp only [fl1]) |refine zy8 ?_ |refine zy7 ?_ |refine zy4 rfl (fun hp => ?_) (fun hp => ?_) <;> try (exfalso; first | omega | contradiction))
   rw [<- hi];exact ⟨_, rfl, _, _, rfl, rfl, zaJ hlG, by rw [List.length_append, List.length_take, hzl]; omega, by rw [List.take_append_of_le_length (by rw [List.length_take]; omega), List.take_take, Nat.min_self]; exact hct, by rw [List.length_set]; exact hGl, fun k hk => by rw [List.getElem?_set_ne (Ne.symm hk)]; exact hkeep k hk⟩
def zhj (rows : List (List Int)) : Fr := frame rows [5, 4, 3, 2, 1, 0] 6
def zam (js : List Nat) : List Nat := [0, 1, 2, 3, 4, 5].filter fun v => !decide (v ∈ js)
def zdi (rows : List (List Int)) (S : Fr) (k : Nat) : List Int := (zam S.js).map fun j => zab (ent rows) S.is (S.js.set k j)
def zlw (rows : List (List Int)) (S : Fr) : Nat -> List (List Int)
 | 0 => zcj (zam S.js).length (zam S.js).length 1
 | k + 1 => behind (zlI (zlw rows S k) (zdi rows S k) (zbm S.d) (zam S.js).length)
def zsg (rows : List (List Int)) (S : Fr) : Nat -> List (List Int)
 | 0 => zcj (zam S.js).length (zam S.js).length 1
 | k + 1 => behind (divW (zsg rows S k) (zdi rows S k) (zbm S.d) (zam S.js).length)
def zhF (rows : List (List Int)) (S : Fr) (x : List Int) (k n : Nat) : Int := zag (fun n => (zdi rows S k).getD n 0 * x.getD n 0) n
def zpI (rows : List (List Int)) (S : Fr) (x : List Int) (j : Nat) : Int := if j ∈ S.js then (-zhF rows S x (S.js.idxOf j) (zam S.js).length).tdiv S.d else x.getD ((zam S.js).idxOf j) 0
def zeC (rows : List (List Int)) (S : Fr) (x : List Int) : List Int := (List.range 6).map (zpI rows S x)
def zf1 (rows : List (List Int)) : List (List Int) := (zlw rows (zhj rows) (zhj rows).js.length).map (zeC rows (zhj rows))
def kerFR (rows : List (List Int)) : List (List Int) := (zsg rows (zhj rows) (zhj rows).js.length).map (zeC rows (zhj rows))
def ziH (rows : List (List Int)) : List (List Int) := if VM rows then zf1 rows else []
def kernRR (rows : List (List Int)) : List (List Int) := if VM rows then kerFR rows else []
theorem zfj (js : List Nat) : (zam js).Nodup := List.Nodup.sublist List.filter_sublist (by decide)
theorem zbu {js : List Nat} {j : Nat} : j ∈ zam js ↔ j < 6 /\ j ∉ js := by
 unfold zam;rw [List.mem_filter]
 constructor
 ·rintro ⟨h1, h2⟩;refine ⟨?_, by simpa using h2⟩;simp only [List.mem_cons, List.not_mem_nil, or_false] at h1;omega
 ·rintro ⟨h1, h2⟩;refine ⟨?_, by simpa using h2⟩;simp only [List.mem_cons, List.not_mem_nil, or_false];omega
theorem zps (js : List Nat) : (zam js).length <= 6 := List.Sublist.length_le List.filter_sublist
theorem zbg {l : List Nat} {k : Nat} (h : k < l.length) : l.getD k 0 ∈ l := by
 rw [List.getD_eq_getElem?_getD, List.getElem?_eq_getElem h];exact List.getElem_mem h
theorem zgf {l : List Nat} (hn : l.Nodup) {k : Nat} (h : k < l.length) : l.idxOf (l.getD k 0) = k := by
 rw [List.getD_eq_getElem?_getD, List.getElem?_eq_getElem h];exact List.Nodup.idxOf_getElem hn k h
theorem zfc {l : List Nat} (hn : l.Nodup) {i k : Nat} (hi : i < l.length) (hk : k < l.length) (h : l.getD i 0 = l.getD k 0) : i = k := by
 rw [<- zgf hn hi, h, zgf hn hk]
theorem zmR (rows : List (List Int)) (S : Fr) (k : Nat) : (zdi rows S k).length = (zam S.js).length := by simp [zdi]
theorem zkS {rows : List (List Int)} {S : Fr} {k n : Nat} (h : n < (zam S.js).length) : (zdi rows S k).getD n 0 = zab (ent rows) S.is (S.js.set k ((zam S.js).getD n 0)) := by
 simp [zdi, List.getD_eq_getElem?_getD, h]
theorem zn2 {rows : List (List Int)} {S : Fr} (hB : FrB rows S) (hv : VM rows) (h6 : ∀ i, i < rows.length -> (rw_ rows i).length = 6) {k n : Nat} (hk : k < S.js.length) (h : n < (zam S.js).length) : -1000000000 <= (zdi rows S k).getD n 0 /\ (zdi rows S k).getD n 0 <= 1000000000 := by
 rw [zkS h];have h1 := zjR (rows := rows) h6 hB.i hB.j hB.len hk (zbu.1 (zbg h)).1;have h2 := zc7 hv hB.nd hB.i;omega
theorem zj4 {rows : List (List Int)} {S : Fr} (hB : FrB rows S) : ∀ k, LB (zlw rows S k) (zam S.js).length (zbm S.d)
 | 0 => (LB.mult (by decide)).mono (by have := hB.abs; omega)
 | k + 1 => by
  have h := zj4 hB k;obtain ⟨h1, h2⟩ := hB.abs;exact (LB.redI h1 (zjK h1 h2 h (Nat.le_refl _)) (Nat.le_refl _)).behind
theorem znN {rows : List (List Int)} {S : Fr} {x : List Int} {k : Nat} (hx : ∀ n, n < (zam S.js).length -> 0 <= x.getD n 0 /\ x.getD n 0 <= 1000000000) (ht : ∀ n, n < (zam S.js).length -> -1000000000 <= (zdi rows S k).getD n 0 /\ (zdi rows S k).getD n 0 <= 1000000000) :
  ∀ n, n <= (zam S.js).length -> -(n * 1000000000000000000 : Int) <= zhF rows S x k n /\ zhF rows S x k n <= n * 1000000000000000000
 | 0, _ => by simp [zhF, zag]
 | n + 1, hn => by
  obtain ⟨h1, h2⟩ := znN hx ht n (by omega);have h3 := zjr (ht n (by omega)) (hx n (by omega));have e : zhF rows S x k (n + 1) = zhF rows S x k n + (zdi rows S k).getD n 0 * x.getD n 0 := rfl;rw [e];omega
theorem zmU {rows : List (List Int)} {S : Fr} {x : List Int} (hn : S.js.Nodup) {k : Nat} (hk : k < S.js.length) : zpI rows S x (S.js.getD k 0) = (-zhF rows S x k (zam S.js).length).tdiv S.d := by
 unfold zpI;rw [if_pos (zbg hk), zgf hn hk]
theorem ziO {rows : List (List Int)} {S : Fr} {x : List Int} {n : Nat} (hn : n < (zam S.js).length) : zpI rows S x ((zam S.js).getD n 0) = x.getD n 0 := by
 unfold zpI;rw [if_neg (zbu.1 (zbg hn)).2, zgf (zfj _) hn]
theorem zrd {rows : List (List Int)} {S : Fr} {x w : List Int} (hw : w.length = 6) (hn : S.js.Nodup) (h1 : ∀ k, k < S.js.length -> w.getD (S.js.getD k 0) 0 = (-zhF rows S x k (zam S.js).length).tdiv S.d) (h2 : ∀ n, n < (zam S.js).length -> w.getD ((zam S.js).getD n 0) 0 = x.getD n 0) : w = zeC rows S x := by
 refine zbf (by simp [zeC, hw]) fun t ht => ?_
 have e : (zeC rows S x).getD t 0 = zpI rows S x t := by simp [zeC, List.getD_eq_getElem?_getD, show t < 6 by omega]
 rw [e]
 by_cases hj : t ∈ S.js
 ·obtain ⟨k, hk, rfl⟩ := List.mem_iff_getElem.1 hj
  have e2 : S.js[k] = S.js.getD k 0 := by simp [List.getD_eq_getElem?_getD, hk]
  rw [e2, zmU hn hk, h1 k hk]
 ·have hf : t ∈ zam S.js := zbu.2 ⟨by omega, hj⟩;obtain ⟨n, hn', rfl⟩ := List.mem_iff_getElem.1 hf
  have e2 : (zam S.js)[n] = (zam S.js).getD n 0 := by simp [List.getD_eq_getElem?_getD, hn']
  rw [e2, ziO hn', h2 n hn']
theorem zqM {js : List Nat} {k n : Nat} (hk : k < js.length) (hn : n < (zam js).length) : js.getD k 0 ≠ (zam js).getD n 0 := fun h => (zbu.1 (zbg hn)).2 (by rw [<- h]; exact zbg hk)
theorem zrL (n j : Nat) : (List.replicate n (0 : Int)).getD j 0 = 0 := by
 by_cases h : j < n <;> simp [List.getD_eq_getElem?_getD, h]
theorem zib {rows X : List (List Int)} {S : Fr} : ∀ r ∈ X.map (zeC rows S), r.length = 6 := fun r hr => by
 obtain ⟨x, _, rfl⟩ := List.mem_map.1 hr;simp [zeC]
end Go.Proofs.YtgchabldcnmccabDoor

