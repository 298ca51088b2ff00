import Derived.Test.YtnilimjkibimcaaDoorDME
import Derived.Test.YtnilimjkibimcaaDoorDIr
import Derived.Test.YtnilimjkibimcaaDoorAbsI
set_option linter.unusedSimpArgs false
set_option linter.unusedVariables false

namespace Go.Proofs.YtnilimjkibimcaaDoor
open Go.Zz
def sumN (c x : List Int) (d : Int) : Nat → Int
  | 0 => 0
  | k + 1 => (sumN c x d k + c.getD k 0 % d * (x.getD k 0 % d)) % d
def narV (X : List (List Int)) (c : List Int) (d : Int) (s i : Nat) : List Int := sumN c (X.getD i []) d s :: X.getD i []
def narA (X : List (List Int)) (c : List Int) (d : Int) (s : Nat) : Nat → List (List Int)
  | 0 => multF (s + 1) (s + 1) d
  | i + 1 => (addI (s + 1) (narA X c d s i) (narV X c d s i) d (s + 1)).1
def divA (X : List (List Int)) (c : List Int) (d : Int) (s : Nat) : Nat → List (List Int)
  | 0 => multF (s + 1) (s + 1) d
  | i + 1 => (insI (s + 1) (divA X c d s i) (narV X c d s i) d (s + 1)).1
def narW (X : List (List Int)) (c : List Int) (d : Int) (s : Nat) : List (List Int) := redI (s + 1) (narA X c d s s) d (s + 1)
def divW (X : List (List Int)) (c : List Int) (d : Int) (s : Nat) : List (List Int) := redI (s + 1) (divA X c d s s) d (s + 1)
def behind (W : List (List Int)) : List (List Int) := (W.drop 1).map (·.drop 1)
theorem behind_len (W : List (List Int)) : (behind W).length = W.length - 1 := by simp [behind]
theorem behind_at {W : List (List Int)} {i : Nat} (h : i + 1 < W.length) : (behind W).getD i [] = (W.getD (i + 1) []).drop 1 := by
  simp [behind, List.getD_eq_getElem?_getD, h, Nat.add_comm 1 i]
theorem drop_getD {r : List Int} {j : Nat} : (r.drop 1).getD j 0 = r.getD (j + 1) 0 := by
  rw [List.getD_eq_getElem?_getD, List.getD_eq_getElem?_getD, List.getElem?_drop, Nat.add_comm]
theorem behind_ent {W : List (List Int)} {i j : Nat} (h : i + 1 < W.length) : ent (behind W) i j = ent W (i + 1) (j + 1) := by
  unfold ent rw_
  rw [behind_at h, drop_getD]
theorem LB.behind {W : List (List Int)} {s : Nat} {d : Int} (h : LB W (s + 1) d) : LB (behind W) s d := by
  have hl := h.len
  refine ⟨by rw [behind_len]; omega, fun i hi => ?_, fun i j hi hj => ?_, fun i hi => ?_⟩
  · rw [behind_at (by omega), List.length_drop, h.row (i + 1) (by omega)]
    omega
  · rw [behind_ent (by omega)]
    exact h.el (i + 1) (j + 1) (by omega) (by omega)
  · rw [behind_ent (by omega)]
    exact h.diag (i + 1) (by omega)
theorem sumN_in {c x : List Int} {d : Int} (hd : 0 < d) : ∀ k, 0 ≤ sumN c x d k ∧ sumN c x d k ≤ d
  | 0 => by simp [sumN]; omega
  | k + 1 => emod_in hd
theorem narV_VB {X : List (List Int)} {c : List Int} {d : Int} {s i : Nat} (hd : 0 < d) (h : LB X s d) (hi : i < s) : VB (narV X c d s i) (s + 1) d := by
  refine ⟨by show (X.getD i []).length + 1 = s + 1; rw [h.row i hi], fun j hj => ?_⟩
  cases j with
  | zero => exact sumN_in hd s
  | succ j => exact h.el i j hi (by omega)
theorem VB.toC {v : List Int} {n : Nat} {d : Int} (hd9 : d ≤ 1000000000) (h : VB v n d) : VC v n := ⟨h.1, fun j hj => by have := h.2 j hj; omega⟩
theorem narA_LB {X : List (List Int)} {c : List Int} {d : Int} {s : Nat} (hd : 0 < d) (hd9 : d ≤ 1000000000) (h : LB X s d) : ∀ {i : Nat}, i ≤ s → LB (narA X c d s i) (s + 1) d
  | 0, _ => LB.mult hd
  | i + 1, hi => (LB.addI hd hd9 (narA_LB hd hd9 h (i := i) (by omega)) ((narV_VB hd h (by omega)).toC hd9) (Nat.le_refl _)).1
theorem LB.mono {R : List (List Int)} {n : Nat} {d d' : Int} (h : LB R n d) (hd : d ≤ d') : LB R n d' := ⟨h.len, h.row, fun i j hi hj => by have := h.el i j hi hj; omega, h.diag⟩
def IM (H : Hp) (x : AV) (b : Nat) (r : List Int) : Prop := (x = .snil ∧ r = []) ∨ RowM H x b r
theorem IM.len {H : Hp} {x : AV} {b : Nat} {r : List Int} (h : IM H x b r) : slen x = some r.length := by
  rcases h with ⟨rfl, rfl⟩ | h
  · rfl
  · exact h.len
theorem IM.row {H : Hp} {x : AV} {b : Nat} {r : List Int} (h : IM H x b r) (hr : 0 < r.length) : RowM H x b r := by
  rcases h with ⟨rfl, rfl⟩ | h
  · simp at hr
  · exact h
theorem IM.same {H H' : Hp} {x : AV} {b : Nat} {r : List Int} (h : IM H x b r) (he : H'[b]? = H[b]?) : IM H' x b r := by
  rcases h with h | h
  · exact .inl h
  · exact .inr (h.same he)
theorem RowM.scells {H : Hp} {x : AV} {b : Nat} {r : List Int} (h : RowM H x b r) : Zz.scells H 1 x = some (icells r) := by
  obtain ⟨g, off, cap, c, rfl, h1, h2, h3, _⟩ := h
  simp only [Zz.scells, if_true, h1, Option.bind_some, Zz.cut]
  rw [if_pos (by omega), Nat.mul_one, h3]
theorem RowM.tail {H : Hp} {x : AV} {b : Nat} {r : List Int} (h : RowM H x b r) (hr : 1 < r.length) : ∃ y, (∀ H', sliceAV H' 1 x (some (.int .i64 1)) none none = some y) ∧ RowM H y b (r.drop 1) := by
  obtain ⟨g, off, cap, c, rfl, h1, h2, h3, h4⟩ := h
  have hd : (r.drop 1).length = r.length - 1 := List.length_drop
  have hc : (c.drop (off + 1 * 1)).take (r.length - 1) = icells (r.drop 1) := by
    have := congrArg (fun l => l.drop 1) h3
    simp only [List.drop_take, List.drop_drop] at this
    rw [Nat.mul_one, this]
    simp [icells]
  rcases h4 with rfl | rfl
  · refine ⟨.sref b g (off + 1 * 1) 1 (r.length - 1) none, fun H' => ?_, g, off + 1 * 1, none, c, by rw [hd], h1, by rw [hd]; omega, by rw [hd]; exact hc, .inl rfl⟩
    simp only [sliceAV, if_true, Option.isSome, Bool.and_false, Bool.false_eq_true, if_false, bnds, bndO, bnd]
    rw [if_pos ⟨by omega, by omega⟩]
    simp only [Option.bind_some]
    have e : (Int.toNat 1) = 1 := rfl
    rw [e, if_neg (by omega), if_neg (by omega)]
  · refine ⟨.sref b g (off + 1 * 1) 1 (r.length - 1) (some (r.length - 1)), fun H' => ?_, g, off + 1 * 1, _, c, by rw [hd], h1, by rw [hd]; omega, by rw [hd]; exact hc, .inr (by rw [hd])⟩
    simp only [sliceAV, if_true, Option.isNone, Bool.false_and, Bool.false_eq_true, if_false, bnds, bndO, bnd]
    rw [if_pos ⟨by omega, by omega⟩]
    have e : (Int.toNat 1) = 1 := rfl
    simp only [Option.bind_some, e]
    rw [if_neg (by omega)]
theorem LatM.tail {G : Hp} {rv : AV} {q : Nat} {xs : List AV} {bs : List Nat} {R : List (List Int)} (h : LatM G rv q xs bs R) (hR : 0 < R.length) : ∃ y, (∀ H', sliceAV H' 1 rv (some (.int .i64 1)) none none = some y) ∧ slen y = some (R.length - 1) ∧
    ∀ i, i + 1 < R.length → ∃ g, indexAddrAV 1 y (.int .i64 (i : Int)) = some (.pref q g (i + 1)) ∧ Zz.look G q g = some xs ∧ xs[i + 1]? = some (xs.getD (i + 1) und) ∧ RowM G (xs.getD (i + 1) und) (bs.getD (i + 1) 0) (R.getD (i + 1) []) := by
  have hxl := h.xl
  rcases h.gs with ⟨_, h2⟩ | ⟨g, _, h2, _⟩ | ⟨g, n, rfl, h1, h2, h3⟩
  · subst h2; simp at hxl; omega
  · subst h2; simp at hxl; omega
  · rw [Nat.mul_one] at h1
    have hn : n = R.length := by omega
    subst hn
    by_cases h0 : R.length - 1 = 0
    · refine ⟨.sval false 0 [], fun H' => ?_, by rw [h0]; rfl, fun i hi => by omega⟩
      simp only [sliceAV, if_true, Option.isSome, Bool.and_false, Bool.false_eq_true, if_false, bnds, bndO, bnd]
      rw [if_pos ⟨by omega, by omega⟩]
      simp only [Option.bind_some]
      have e : (Int.toNat 1) = 1 := rfl
      rw [e, if_neg (by omega), if_pos h0]
    · refine ⟨.sref q g (0 + 1 * 1) 1 (R.length - 1) none, fun H' => ?_, rfl, fun i hi => ⟨g, ?_, h3, ?_, h.row (i + 1) hi⟩⟩
      · simp only [sliceAV, if_true, Option.isSome, Bool.and_false, Bool.false_eq_true, if_false, bnds, bndO, bnd]
        rw [if_pos ⟨by omega, by omega⟩]
        simp only [Option.bind_some]
        have e : (Int.toNat 1) = 1 := rfl
        rw [e, if_neg (by omega), if_neg h0]
      · rw [ia_sref, idx_nat (by omega)]
        simp [Nat.add_comm]
      · rw [List.getD_eq_getElem?_getD, List.getElem?_eq_getElem (by omega), Option.getD_some]
set_option maxRecDepth 100000
set_option maxHeartbeats 8000000
theorem s83r {m : Mem} : borrowR E6 33 [] m = some (.sref m.heap.length 0 0 1 6 (some 6), ⟨m.heap ++ [some ⟨0, ncells [0, 1, 2, 3, 4, 5]⟩], m.loops⟩) := by
  have hw : WF E6 (.func 33 [] []) [] ⟨[], []⟩ fun y m' => y = .sref 0 0 0 1 6 (some 6) ∧ m'.heap = [some ⟨0, ncells [0, 1, 2, 3, 4, 5]⟩] := by
    refine WF.fnE rfl (fn_of Tryd.func33 cir33) (by show 0 ≤ 2; decide) ?_
    unfold ir33; dsimp only [k0, kI, mV, oO, oG]
    simp only [padTo, List.replicate, List.append_nil]
    repeat' (first | (refine WO.opE (by intro; simp (disch := omega) only [go_sem, zeros, ov_one0, ov_one1, ov_one2, ov_one3, fillP, Option.bind_eq_bind]; rfl) (by simp only [pt0, pt1]; rfl) ?_) | (refine WC.seq ?_) | (refine WC.region ?_) | (refine WO.nil ?_) | (simp only [fl1]) | (refine WC.ret ?_))
    exact ⟨_, rfl, rfl, rfl⟩
  refine borrowR_of rfl (hw.mono ?_)
  rintro y ⟨H', L'⟩ ⟨rfl, h⟩
  have h' : H' = [some ⟨0, ncells [0, 1, 2, 3, 4, 5]⟩] := h
  subst h'
  exact ⟨_, _, one_take (c := ncells [0, 1, 2, 3, 4, 5]) rfl (flat_ints _), one_ren (c := ncells [0, 1, 2, 3, 4, 5]) rfl, rfl⟩
noncomputable def E19 : Env := E18.put 33 (borrowR E6 33)
theorem E19_ok : EnvOk Tryd.prog E19 := Env.put_ok E18_ok (borrowR_ok E6_ok (callable Tryd.func33 (by kernel_rfl)))
theorem LatM.bk {G : Hp} {rv : AV} {q : Nat} {xs : List AV} {bs : List Nat} {R : List (List Int)} (h : LatM G rv q xs bs R) {b : Nat} (hb : b ∈ bs) : ∃ x : Blk, G[b]? = some (some x) := by
  obtain ⟨i, hi, rfl⟩ := List.mem_iff_getElem.1 hb
  obtain ⟨g, off, cap, c, _, h1, _⟩ := h.row i (by rw [← h.bl]; exact hi)
  rw [List.getD_eq_getElem?_getD, List.getElem?_eq_getElem hi, Option.getD_some] at h1
  exact look_some h1
theorem RowM.bk {H : Hp} {x : AV} {b : Nat} {r : List Int} (h : RowM H x b r) : ∃ x : Blk, H[b]? = some (some x) := by
  obtain ⟨g, off, cap, c, _, h1, _⟩ := h
  exact look_some h1
theorem consRow {G : Hp} {L : List (Option ALoop)} {x : AV} {b : Nat} {r : List Int} {y : Int} (h : RowM G x b r) (hr : 0 < r.length) (hr9 : r.length < 1000000) :
    appendAV 1 8 ⟨G ++ [some ⟨0, [.int .i64 y]⟩], L⟩ (.sref G.length 0 0 1 1 (some 1)) x = some (.sref (G.length + 1) 0 0 1 (r.length + 1) none, ⟨G ++ [some ⟨0, [.int .i64 y]⟩, some ⟨0, icells (y :: r)⟩], L⟩) := by
  have hx := (h.same (H' := G ++ [some ⟨0, [.int .i64 y]⟩]) (List.getElem?_append_left h.lt)).scells
  have hl := h.len
  have hk : Zz.look (G ++ [some ⟨0, [.int .i64 y]⟩]) G.length 0 = some [.int .i64 y] := lk0 rfl
  have e2 : Zz.cut [AV.int .i64 y] 0 (1 * 1) = some [.int .i64 y] := by simp [Zz.cut]
  have e3 : ¬ 1 + r.length ≤ 1 := by omega
  have e4 : (1 + r.length) * 8 ≤ 140737488355328 ∧ 1 + r.length ≤ 140737488355328 := ⟨by omega, by omega⟩
  simp only [appendAV, hx, hl, Option.bind_eq_bind, Option.bind_some, if_true, hk, e2, if_neg e3, if_pos e4, newBlk]
  rw [List.length_append, List.length_singleton, Nat.add_comm 1 r.length, List.append_assoc]
  rfl
theorem consRowM {G : Hp} {r : List Int} {y : Int} : RowM (G ++ [some ⟨0, [.int .i64 y]⟩, some ⟨0, icells (y :: r)⟩]) (.sref (G.length + 1) 0 0 1 (r.length + 1) none) (G.length + 1) (y :: r) :=
  ⟨0, 0, none, _, rfl, lk1 rfl, by rw [icells_len]; simp, by rw [List.drop_zero, List.take_of_length_le (by rw [icells_len]; simp)], .inl rfl⟩
theorem f131r {E : Env} (hE : E.spec 40 = none) (hF : E.fn 40 = some ir40) {x : AV} {b : Nat} {r : List Int} {H : Hp} {L : List (Option ALoop)} (hx : RowM H x b r) (hr : 0 < r.length) (hr9 : r.length < 1000000) : WF E (.func 40 [] []) [x] ⟨H, L⟩ fun v m' => ∃ q H', m' = ⟨H', L⟩ ∧ RowM H' v q r ∧ Ext H H' ∧ H.length ≤ q := by
  have hB : Ext H (H ++ [(some ⟨0, []⟩ : Option Blk)]) := Ext.app _ _
  have g0 : GS 1 (H ++ [(some ⟨0, []⟩ : Option Blk)]) (.sref H.length 0 0 1 0 (some 0)) H.length [] := .inr (.inl ⟨0, rfl, rfl, lk0 rfl⟩)
  have hsc := (hx.same (H' := H ++ [(some ⟨0, []⟩ : Option Blk)]) (List.getElem?_append_left hx.lt)).scells
  obtain ⟨v1, q1, H1, a1, a2, a3, a4, a5⟩ := g0.appendX (L := L) (bytes := 8) (n := r.length) hsc hx.len (by rw [icells_len]; omega) Nat.one_pos ⟨by simp; omega, by simp; omega⟩
  rw [List.nil_append] at a2
  have hE1 : Ext H H1 := ⟨by simp at a4 ⊢; omega, fun j hj' => by rw [a5 j (by simp; omega) (by omega), hB.2 j hj']⟩
  have hq1 : H.length ≤ q1 := by rcases a3 with rfl | rfl; exact Nat.le_refl _; exact (by simp)
  have hne : nilEqAV 0 x .snil = some false := by
    obtain ⟨g, off, cap, c, rfl, _⟩ := hx
    rfl
  refine WF.fnE hE hF (by show 1 ≤ 8; decide) ?_
  unfold ir40; dsimp only [k0, kI, mV, oO, oG]
  simp only [padTo, List.replicate, List.nil_append, List.append_nil]
  repeat' (first | (refine WO.opE (by intro; simp (disch := omega) only [go_sem, zeros, hne]; rfl) (by simp only [pt2, pt3, pt4, pt5, pt6]; rfl) ?_) | (refine WO.opE (by intro; rw [ev_append]; exact a1) (by simp only [pt7]; rfl) ?_) | (refine WC.seq ?_) | (refine WC.region ?_) | (refine WO.nil ?_) | (simp only [fl1]) | (refine WC.no rfl ?_) | (refine WC.skip ?_) | (refine WC.ret ?_))
  exact ⟨_, rfl, q1, H1, rfl, RowM.of_gs a2 hr, hE1, hq1⟩
theorem take_succ {X : List (List Int)} {i : Nat} (h : i < X.length) : X.take (i + 1) = X.take i ++ [X.getD i []] := by
  rw [List.take_add_one, List.getD_eq_getElem?_getD, List.getElem?_eq_getElem h]
  rfl
theorem f99 {H : Hp} {L : List (Option ALoop)} {rv cv : AV} {q bc : Nat} {xs : List AV} {bs : List Nat} {X : List (List Int)} {c : List Int} {d dl : Int} {s : Nat} (hs6 : s ≤ 6) (hd : 0 < d) (hd9 : d ≤ 1000000000) (hlat : LatM H rv q xs bs X) (hX : LB X s d) (hqH : q < H.length) (hc : IM H cv bc c) (hcl : c.length = s) (hcb : ∀ k, k < s → -1000000000 ≤ c.getD k 0 ∧ c.getD k 0 ≤ 1000000000) (hbc : bc < H.length) :
    WF E19 (.func 38 [] []) [.agg [.int .i64 dl, rv], cv, .int .i64 d] ⟨H, L⟩ fun y m' => ∃ rv' q' xs' bs' H', y = .agg [.int .i64 d, rv'] ∧ m' = ⟨H', L⟩ ∧ LatM H' rv' q' xs' bs' (behind (narW X c d s)) ∧ Ext H H' ∧ (∀ b ∈ bs', H.length ≤ b) ∧ H.length ≤ q' ∧ q' < H'.length := by
  have hXl := hX.len
  have hrl := hlat.len
  rw [hXl] at hrl
  have hcv := hc.len
  rw [hcl] at hcv
  have hrc : rv.cells = some [rv] := by
    rcases hlat.gs with ⟨rfl, _⟩ | ⟨g, rfl, _⟩ | ⟨g, n, rfl, _⟩ <;> rfl
  unfold AV.cells at hrc
  have hs1 : (s : Int) + 1 = ((s + 1 : Nat) : Int) := by omega
  refine WF.fnE rfl (fn_of Tryd.func38 cir38) (by show 3 ≤ 79; decide) ?_
  unfold ir38; dsimp only [k0, kI, mV, oO, oG]
  simp only [padTo, List.replicate, List.nil_append, List.append_nil]
  repeat' (first | (refine WO.opE (by intro; simp (disch := omega) only [go_sem, List.append_assoc, List.length_append, hs1]; rfl) (by simp only [pt8, pt0, pt2, pt3, pt6]; rfl) ?_) | (refine WO.opE (by intro; exact ev_lenS (by simp only [go_sem]; first | rfl | assumption)) (by simp only [pt8, pt1]; rfl) ?_) | (refine WC.seq ?_) | (refine WC.region ?_) | (refine WO.nil ?_) | (simp only [fl1]))
  refine WO.call rfl rfl ((f84 (E := E19) rfl (fn_of Tryd.func36 cir36) (n := s + 1) (d := d) (by omega)).mono ?_)
  rintro _ m' ⟨rvw, qw, xsw, bsw, H1, rfl, rfl, hlw, hext, hbw, hqw, hqwl⟩
  simp only [pt8, pt4]
  have hextH : Ext H H1 := (Ext.app H _).trans hext
  have hlen1 : H.length + 2 ≤ H1.length := by have := hext.1; simp at this; omega
  have k60 : Zz.look H1 (H.length + 1) 0 = some [.int .i64 0, .snil] := hext.look (lk1 rfl)
  have hk30 : Zz.look H1 H.length 0 = some [.int .i64 dl, rv] := hext.look (lk0 rfl)
  have hrwc : rvw.cells = some [rvw] := by
    rcases hlw.gs with ⟨rfl, _⟩ | ⟨g, rfl, _⟩ | ⟨g, n, rfl, _⟩ <;> rfl
  unfold AV.cells at hrwc
  repeat' (first | (refine WO.opE (by intro; simp (disch := omega) only [go_sem, hk30, look_left]; rfl) (by simp only [pt8, pt0, pt5, pt6, pt7]; rfl) ?_) | (refine WO.opN (by intro; simp (disch := omega) only [go_sem, Option.bind_eq_bind, app_s0, ov_all2, Nat.reduceAdd, lk0]; rfl) ?_) | (refine WO.opE (by intro; exact ev_lenS (by simp only [go_sem]; first | rfl | assumption)) (by simp only [pt8, pt7]; rfl) ?_) | (refine WC.seq ?_) | (refine WC.region ?_) | (refine WO.nil ?_) | (simp only [fl1]) | (refine WC.block ?_))
  have hlwl := hlw.len
  simp only [multF, List.length_map, List.length_range] at hlwl
  have hbwl : ∀ b ∈ bsw, H.length + 2 ≤ b ∧ b < H1.length := fun b hb => ⟨by have := hbw b hb; simp at this; omega, hlw.blt hb⟩
  have hqw2 : H.length + 2 ≤ qw := by simp at hqw; omega
  obtain ⟨N, hN⟩ : ∃ N, N = H.length := ⟨_, rfl⟩
  obtain ⟨N7, hN7⟩ : ∃ N7, N7 = H1.length := ⟨_, rfl⟩
  rw [← hN] at k60
  refine WC.loopI (fun m st => ∃ T G i, st = ⟨T, G, L⟩ ∧ T.length = 79 ∧ gt T 1 = cv ∧ gt T 2 = .int .i64 d ∧ gt T 6 = .pref (N + 1) 0 0 ∧ gt T 7 = .pref N7 0 0 ∧ gt T 22 = rv ∧ gt T 23 = .int .i64 (s : Nat) ∧ gt T 24 = .int .i64 (i : Nat) ∧ m + i = s ∧ Ext H G ∧ N7 + 1 ≤ G.length ∧ Zz.look G (N + 1) 0 = some [.int .i64 0, .snil] ∧ Zz.look G N7 0 = some [.int .i64 d, rvw] ∧ LatM G rvw qw xsw bsw (narA X c d s i)) ?_ s _ ⟨_, _, 0, rfl, rfl, rfl, rfl, by rw [hN]; rfl, by rw [hN7]; rfl, rfl, rfl, rfl, by omega, hextH.trans (Ext.app _ _), by rw [hN7]; simp, (look_left (look_lt k60)).trans k60, by rw [hN7]; exact lk0 rfl, hlw.keep (List.getElem?_append_left hqwl) fun b hb => List.getElem?_append_left (hlw.blt hb)⟩
  rw [← hN7] at hbwl hqwl hlen1
  rw [← hN] at hbwl hqw2 hlen1
  clear hlw hext hextH k60 hk30 hbw hqw hN7
  rintro m _ ⟨T, G, i, rfl, hT, g1, g2, g6, g7, g22, g23, g24, hm, hE, hGl, k6, k7, hlw⟩
  obtain ⟨f, rfl⟩ := ex79 hT
  clear hT
  replace g1 : f 1 = cv := g1
  replace g2 : f 2 = .int .i64 d := g2
  replace g6 : f 6 = .pref (N + 1) 0 0 := g6
  replace g7 : f 7 = .pref N7 0 0 := g7
  replace g22 : f 22 = rv := g22
  replace g23 : f 23 = .int .i64 (s : Nat) := g23
  replace g24 : f 24 = .int .i64 (i : Nat) := g24
  simp only [g1, g2, g6, g7, g22, g23, g24]
  have hlb := narA_LB (c := c) hd hd9 hX (show i ≤ s by omega)
  have hlatG := hlat.keep (hE.2 q hqH) fun b hb => hE.2 b (hlat.blt hb)
  have hcG := hc.same (hE.2 bc hbc)
  by_cases his : i < s
  · obtain ⟨gi, ai1, ai2, ai3, hRi⟩ := hlatG.at (i := i) (by omega)
    have hxc := hRi.cell
    unfold AV.cells at hxc
    have hxl := hRi.len
    have hil := hX.row i his
    rw [hil] at hxl
    have hxb : bs.getD i 0 < H.length := by
      refine hlat.blt ?_
      rw [List.getD_eq_getElem?_getD, List.getElem?_eq_getElem (by have := hlat.bl; omega), Option.getD_some]
      exact List.getElem_mem _
    generalize hxe : xs.getD i und = x at *
    repeat' (first | (refine WO.opE (by intro; simp (disch := omega) only [go_sem, ai1, ai2, ai3]; rfl) (by simp only [pt8, pt1, pt2, pt3, pt4, pt6]; rfl) ?_) | (refine WO.opE (by intro; exact ev_lenS (by simp only [go_sem]; first | rfl | assumption)) (by simp only [pt8, pt5]; rfl) ?_) | (refine WC.seq ?_) | (refine WC.region ?_) | (refine WO.nil ?_) | (simp only [fl1]) | (refine WC.skip ?_) | (refine WC.block ?_) | (refine WC.em2 rfl (fun hp => ?_) (fun hp => ?_) <;> try (exfalso; first | omega | contradiction)))
    refine WC.loopI (fun m2 st => ∃ T k, st = ⟨T, G, L⟩ ∧ T.length = 79 ∧ gt T 1 = cv ∧ gt T 2 = .int .i64 d ∧ gt T 6 = .pref (N + 1) 0 0 ∧ gt T 7 = .pref N7 0 0 ∧ gt T 22 = rv ∧ gt T 23 = .int .i64 (s : Nat) ∧ gt T 24 = .int .i64 (i : Nat) ∧ gt T 9 = x ∧ gt T 10 = .int .i64 (sumN c (X.getD i []) d k) ∧ gt T 28 = x ∧ gt T 29 = .int .i64 (s : Nat) ∧ gt T 30 = .int .i64 (k : Nat) ∧ m2 + k = s) ?_ s _ ⟨_, 0, rfl, rfl, rfl, rfl, rfl, rfl, rfl, rfl, rfl, rfl, rfl, rfl, rfl, rfl, by omega⟩
    clear g1 g2 g6 g7 g22 g23 g24 f ai1 ai2 ai3
    rintro m2 _ ⟨T, k, rfl, hT, g1, g2, g6, g7, g22, g23, g24, g9, g10, g28, g29, g30, hm2⟩
    obtain ⟨f, rfl⟩ := ex79 hT
    clear hT
    replace g1 : f 1 = cv := g1
    replace g2 : f 2 = .int .i64 d := g2
    replace g6 : f 6 = .pref (N + 1) 0 0 := g6
    replace g7 : f 7 = .pref N7 0 0 := g7
    replace g22 : f 22 = rv := g22
    replace g23 : f 23 = .int .i64 (s : Nat) := g23
    replace g24 : f 24 = .int .i64 (i : Nat) := g24
    replace g9 : f 9 = x := g9
    replace g10 : f 10 = .int .i64 (sumN c (X.getD i []) d k) := g10
    replace g28 : f 28 = x := g28
    replace g29 : f 29 = .int .i64 (s : Nat) := g29
    replace g30 : f 30 = .int .i64 (k : Nat) := g30
    simp only [g1, g2, g6, g7, g22, g23, g24, g9, g10, g28, g29, g30]
    have hsk := sumN_in (c := c) (x := X.getD i []) hd k
    by_cases hk : k < s
    · obtain ⟨g1', o1, c1, b1, b2, b3, _⟩ := hRi.at (i := k) (by omega)
      obtain ⟨g2', o2, c2, d1, d2, d3, _⟩ := (hcG.row (by omega)).at (i := k) (by omega)
      have hck := hcb k hk
      have hxk := hX.el i k his hk
      have e : ent X i k = (X.getD i []).getD k 0 := rfl
      rw [e] at hxk
      have hz1 := emod_in (x := c.getD k 0) hd
      have hz2 := emod_in (x := (X.getD i []).getD k 0) hd
      have hmul := mul_bd (X := c.getD k 0 % d) (x := (X.getD i []).getD k 0 % d) (by omega) (by omega)
      have c1s := fun m => s132 (m := m) (r := rvw) (d := d) (x := c.getD k 0) hd (by omega) ⟨by omega, by omega⟩
      have c2s := fun m => s132 (m := m) (r := rvw) (d := d) (x := (X.getD i []).getD k 0) hd (by omega) ⟨by omega, by omega⟩
      have c3s := fun m => s132 (m := m) (r := rvw) (d := d) (x := sumN c (X.getD i []) d k + c.getD k 0 % d * ((X.getD i []).getD k 0 % d)) hd (by omega) ⟨by omega, by omega⟩
      have hsu : (sumN c (X.getD i []) d k + c.getD k 0 % d * ((X.getD i []).getD k 0 % d)) % d = sumN c (X.getD i []) d (k + 1) := rfl
      rw [hsu] at c3s
      repeat' (first | (refine WO.opE (by intro; simp (disch := omega) only [go_sem, b1, b2, b3]; rfl) (by simp only [pt8, pt0, pt1, pt2, pt3, pt4, pt6, pt7]; rfl) ?_) | (refine WT.spec rfl rfl (fun V => c1s _) (by simp only [pt8, pt2]; rfl) ?_) | (refine WT.spec rfl rfl (fun V => c2s _) (by simp only [pt8, pt5]; rfl) ?_) | (refine WT.spec rfl rfl (fun V => c3s _) (by simp only [pt8, pt0]; rfl) ?_) | (refine WC.seq ?_) | (refine WC.region ?_) | (refine WO.nil ?_) | (simp only [fl1, fl4, fl10]) | (refine WC.drawT ?_) | (refine WT.nil ?_) | (refine WT.free rfl (by intro; simp (disch := omega) only [go_sem, d1, d2, d3, k7]; rfl) rfl (by simp only [pt8, pt0, pt1, pt2, pt3, pt4, pt5, pt6, pt7]; rfl) ?_) | (refine WT.big rfl rfl (by intro; simp (disch := omega) only [go_sem, d2, d3, k7]; rfl) (by simp (disch := omega) only [go_sem, touch]; rfl) (by first | exact .inl rfl | exact .inr (apart_nil _) | exact .inr trivial | (right; apply apart_mk; simp only [apartL, List.nil_append, List.cons_append, List.getElem?_cons_succ, List.getElem?_cons_zero, Tch.free, and_true, true_and]; first | done | omega)) (by simp only [pt8, pt1, pt3, pt5]; rfl) ?_) | (refine WC.skip ?_) | (refine WC.block ?_) | (refine WC.em2 rfl (fun hp => ?_) (fun hp => ?_) <;> try (exfalso; first | omega | contradiction)))
      exact ⟨m2 - 1, by omega, _, k + 1, rfl, rfl, rfl, rfl, rfl, rfl, rfl, rfl, rfl, rfl, rfl, rfl, rfl, rfl, by omega⟩
    · have hke : k = s := by omega
      subst hke
      have hap := consRow (L := L) (y := sumN c (X.getD i []) d k) hRi (by omega) (by omega)
      rw [hil] at hap
      have hrow : RowM (G ++ [some ⟨0, [.int .i64 (sumN c (X.getD i []) d k)]⟩, some ⟨0, icells (narV X c d k i)⟩]) (.sref (G.length + 1) 0 0 1 (k + 1) none) (G.length + 1) (narV X c d k i) := by
        have := consRowM (G := G) (r := X.getD i []) (y := sumN c (X.getD i []) d k)
        rw [hil] at this
        exact this
      have hv : icells (sumN c (X.getD i []) d k :: X.getD i []) = icells (narV X c d k i) := rfl
      rw [hv] at hap
      have hlw1 : LatM (G ++ [some ⟨0, [.int .i64 (sumN c (X.getD i []) d k)]⟩, some ⟨0, icells (narV X c d k i)⟩]) rvw qw xsw bsw (narA X c d k i) := hlw.keep (List.getElem?_append_left (by omega)) fun b hb => List.getElem?_append_left (hlw.blt hb)
      have hbv : G.length + 1 ∉ qw :: bsw := fun hm => by
        rcases List.mem_cons.1 hm with h | h
        · omega
        · have := hbwl _ h; omega
      have hVC : VC (narV X c d k i) (k + 1) := (narV_VB hd hX his).toC hd9
      have hs : narA X c d k (i + 1) = (addI (k + 1) (narA X c d k i) (narV X c d k i) d (k + 1)).1 := rfl
      repeat' (first | (refine WO.opE (by intro; simp (disch := omega) only [go_sem]; rfl) (by simp only [pt8, pt7]; rfl) ?_) | (refine WC.seq ?_) | (refine WC.region ?_) | (refine WO.nil ?_) | (simp only [fl1, fl3, fl4, fl6, fl9]) | (refine WC.drawT ?_) | (refine WT.free rfl (by intro; simp (disch := omega) only [go_sem, zeros, ov_one0, k7]; rfl) rfl (by simp only [pt8, pt2, pt3, pt5]; rfl) ?_) | (refine WT.big rfl rfl (by intro; simp (disch := omega) only [go_sem, zeros, ov_one0, k7]; rfl) (by simp (disch := omega) only [go_sem, touch]; rfl) (by first | exact .inl rfl | exact .inr (apart_nil _) | exact .inr trivial | (right; apply apart_mk; simp only [apartL, List.nil_append, List.cons_append, List.getElem?_cons_succ, List.getElem?_cons_zero, Tch.free, and_true, true_and]; first | done | omega)) (by simp only [pt8, pt2, pt4]; rfl) ?_) | (refine WC.exit ?_) | (refine WC.em2 rfl (fun hp => ?_) (fun hp => ?_) <;> try (exfalso; first | omega | contradiction)))
      refine WT.append (sv := .sref G.length 0 0 1 1 (some 1)) (xv := x) rfl rfl hap (apart_mk (by
        simp only [apartL, List.nil_append, List.cons_append, List.getElem?_cons_zero, Tch.free, and_true]
        omega)) (by
        obtain ⟨g, off, cap, c, rfl, _⟩ := hRi
        refine apart_mk ?_
        simp only [apartL, List.nil_append, List.cons_append, List.getElem?_cons_zero, Tch.free, and_true]
        omega) (by simp only [pt8, pt6]; rfl) ?_
      generalize hG2 : G ++ [some ⟨0, [.int .i64 (sumN c (X.getD i []) d k)]⟩, some ⟨0, icells (narV X c d k i)⟩] = G2 at *
      have hG2l : G2.length = G.length + 2 := by rw [← hG2]; simp
      have hE2 : Ext G G2 := by rw [← hG2]; exact Ext.app _ _
      refine WT.callM (fun _ H' => LatM H' rvw qw xsw bsw (narA X c d k (i + 1)) ∧ G2.length ≤ H'.length ∧ ∀ b, b < G2.length → b ∉ bsw → b ≠ G.length + 1 → H'[b]? = G2[b]?) rfl rfl ?_ ?_
      · refine (f85 (E := E19) rfl (fn_of Tryd.func45 cir45) rfl (by omega) hd hd9 hlw1 hlb (by omega) hrow hVC hbv).mono ?_
        rintro y m' ⟨H', rfl, hlat2, _, hlen2, hkeep⟩
        refine ⟨rfl, ⟨hlen2, fun b hb => ?_⟩, by rw [hs]; exact hlat2, hlen2, hkeep⟩
        by_cases h1 : b ∈ bsw
        · exact .inr (hlw1.bk h1)
        · by_cases h2 : b = G.length + 1
          · subst h2; exact .inr hrow.bk
          · exact .inl (hkeep b hb h1 h2)
      · rintro v H' _ ⟨hlat2, hlen2, hkeep⟩
        simp only [pt8, pt7]
        have hk5 : ∀ b, b < G.length → b ∉ bsw → H'[b]? = G[b]? := fun b hb h1 => by rw [hkeep b (by omega) h1 (by omega), hE2.2 b hb]
        have nb : ∀ b, b < N + 2 → b ∉ bsw := fun b hb h => by have := hbwl b h; omega
        have nb7 : N7 ∉ bsw := fun h => by have := hbwl N7 h; omega
        have hHG := hE.1
        repeat' (first | (refine WO.opE (by intro; simp (disch := omega) only [go_sem]; rfl) (by simp only [pt8, pt0]; rfl) ?_) | (refine WC.region ?_) | (refine WO.nil ?_) | (simp only [fl10]) | (refine WT.nil ?_))
        exact ⟨m - 1, by omega, _, H', i + 1, rfl, rfl, rfl, rfl, rfl, rfl, rfl, rfl, rfl, by omega, ⟨by omega, fun j hj => by rw [hk5 j (by omega) (nb j (by omega)), hE.2 j hj]⟩, by omega, (look_of_get (hk5 (N + 1) (by omega) (nb _ (by omega)))).trans k6, (look_of_get (hk5 N7 (by omega) nb7)).trans k7, hlat2⟩
  · have hie : s = i := by omega
    subst hie
    have hqG : qw < G.length := by omega
    repeat' (first | (refine WO.opE (by intro; simp (disch := omega) only [go_sem, k7]; rfl) (by simp only [pt8, pt1]; rfl) ?_) | (refine WC.seq ?_) | (refine WC.region ?_) | (refine WO.nil ?_) | (simp only [fl1]) | (refine WC.exit ?_) | (refine WC.em2 rfl (fun hp => ?_) (fun hp => ?_) <;> try (exfalso; first | omega | contradiction)))
    refine WO.call rfl rfl ((f86 (E := E19) rfl (fn_of Tryd.func46 cir46) rfl (by omega) hd hd9 hlw hlb hqG).mono ?_)
    rintro _ m' ⟨H2, rfl, hlat2, hlen2, hkeep⟩
    simp only [pt8, pt2]
    have hW : narW X c d s = redI (s + 1) (narA X c d s s) d (s + 1) := rfl
    rw [← hW] at hlat2
    have hWB : LB (narW X c d s) (s + 1) d := by rw [hW]; exact LB.redI hd hlb (Nat.le_refl _)
    generalize narW X c d s = W at *
    have hWl := hWB.len
    have nb : ∀ b, b < N + 2 → b ∉ bsw := fun b hb h => by have := hbwl b h; omega
    have nb7 : N7 ∉ bsw := fun h => by have := hbwl N7 h; omega
    have hHG := hE.1
    have hE2 : Ext H H2 := ⟨by omega, fun j hj => by rw [hkeep j (by omega) (nb j (by omega)), hE.2 j hj]⟩
    have k6' : Zz.look H2 (N + 1) 0 = some [.int .i64 0, .snil] := (look_of_get (hkeep (N + 1) (by omega) (nb _ (by omega)))).trans k6
    have k7' : Zz.look H2 N7 0 = some [.int .i64 d, rvw] := (look_of_get (hkeep N7 (by omega) nb7)).trans k7
    obtain ⟨yv, hy1, hyl, hyt⟩ := hlat2.tail (by omega)
    rw [hWl, Nat.add_sub_cancel] at hyl
    have l7 := look_lt k7'
    have l6 := look_lt k6'
    repeat' (first | (refine WO.opE (by intro; simp (disch := omega) only [go_sem, fillP, Option.bind_eq_bind, ov_one0, k7', look_left, hy1, Option.map_none, Option.map_some]; rfl) (by simp only [pt8, pt1, pt3, pt4, pt5, pt6, pt7]; rfl) ?_) | (refine WO.opN (by intro; simp (disch := omega) only [go_sem, Option.bind_eq_bind, app_s0, ov_all2, Nat.reduceAdd, lk0, Option.map_some]; rfl) ?_) | (refine WO.opE (by intro; exact ev_lenS (by simp only [go_sem]; first | rfl | assumption)) (by simp only [pt8, pt0]; rfl) ?_) | (refine WC.seq ?_) | (refine WC.region ?_) | (refine WO.nil ?_) | (simp only [fl1]) | (refine WC.block ?_))
    obtain ⟨N13, hN13⟩ : ∃ N13, N13 = H2.length := ⟨_, rfl⟩
    have hWb := hWB.behind
    have hbl := hWb.len
    have hxsl : ∀ i, i < s → bsw.getD (i + 1) 0 < N13 ∧ bsw.getD (i + 1) 0 ∈ bsw := fun i hi => by
      have h1 := hlat2.bl
      have h2 : bsw.getD (i + 1) 0 ∈ bsw := by
        rw [List.getD_eq_getElem?_getD, List.getElem?_eq_getElem (by omega), Option.getD_some]
        exact List.getElem_mem _
      exact ⟨by rw [hN13]; exact hlat2.blt h2, h2⟩
    refine WC.loopI (fun m st => ∃ T G ov qo xo bo i, st = ⟨T, G, L⟩ ∧ T.length = 79 ∧ gt T 6 = .pref (N + 1) 0 0 ∧ gt T 13 = .pref N13 0 0 ∧ gt T 63 = yv ∧ gt T 64 = .int .i64 (s : Nat) ∧ gt T 65 = .int .i64 (i : Nat) ∧ m + i = s ∧ N13 + 1 ≤ G.length ∧ (∀ b, b < N13 → G[b]? = H2[b]?) ∧ Zz.look G N13 0 = some [.int .i64 d, ov] ∧ LatM G ov qo xo bo ((behind W).take i) ∧ (∀ b ∈ bo, N13 + 1 ≤ b) ∧ N13 + 1 ≤ qo) ?_ s _ ⟨_, _, .snil, H2.length + 1, [], [], 0, rfl, rfl, rfl, by rw [hN13]; rfl, rfl, rfl, rfl, by omega, by rw [hN13]; simp, fun b hb => List.getElem?_append_left (by omega), by rw [hN13]; exact lk0 rfl, LatM.nil _ _, fun b hb => by simp at hb, by omega⟩
    clear g1 g2 g6 g7 g22 g23 g24 f k7 k6 k7'
    rintro m _ ⟨T, G, ov, qo, xo, bo, i, rfl, hT, g6, g13, g63, g64, g65, hm, hGl, hkp, k13, hlo, hbo, hqo⟩
    obtain ⟨f, rfl⟩ := ex79 hT
    clear hT
    replace g6 : f 6 = .pref (N + 1) 0 0 := g6
    replace g13 : f 13 = .pref N13 0 0 := g13
    replace g63 : f 63 = yv := g63
    replace g64 : f 64 = .int .i64 (s : Nat) := g64
    replace g65 : f 65 = .int .i64 (i : Nat) := g65
    simp only [g6, g13, g63, g64, g65]
    have hovc : ov.cells = some [ov] := by
      rcases hlo.gs with ⟨rfl, _⟩ | ⟨g, rfl, _⟩ | ⟨g, n, rfl, _⟩ <;> rfl
    unfold AV.cells at hovc
    by_cases his : i < s
    · obtain ⟨gi, ai1, ai2, ai3, hRi⟩ := hyt i (by omega)
      obtain ⟨hb1, _⟩ := hxsl i his
      have hRG := hRi.same (hkp _ hb1)
      have hai2 : Zz.look G qw gi = some xsw := (look_of_get (hkp qw (by have := look_lt ai2; omega))).trans ai2
      have hxc := hRi.cell
      unfold AV.cells at hxc
      have hil := hWB.row (i + 1) (by omega)
      obtain ⟨zv, hz1, hzr⟩ := hRi.tail (by rw [hil]; omega)
      have hbe := behind_at (W := W) (i := i) (by omega)
      rw [← hbe] at hzr
      have hzl : ((behind W).getD i []).length = s := hWb.row i his
      have hzc := hzr.cell
      unfold AV.cells at hzc
      generalize hxe : xsw.getD (i + 1) und = x at *
      repeat' (first | (refine WO.opE (by intro; simp (disch := omega) only [go_sem, ai1, hai2, ai3, Option.map_some]; rfl) (by simp only [pt8, pt2, pt3, pt4, pt7]; rfl) ?_) | (refine WC.seq ?_) | (refine WC.region ?_) | (refine WO.nil ?_) | (simp only [fl1, fl4]) | (refine WC.drawT ?_) | (refine WT.free rfl (by intro; simp (disch := omega) only [go_sem, k13, hz1, Option.map_none, Option.map_some]; rfl) rfl (by simp only [pt8, pt0, pt5, pt6, pt7]; rfl) ?_) | (refine WT.big rfl rfl (by intro; simp (disch := omega) only [go_sem, k13, hz1, Option.map_none, Option.map_some]; rfl) (by simp (disch := omega) only [go_sem, touch]; rfl) (by first | exact .inl rfl | exact .inr (apart_nil _) | exact .inr trivial | (right; apply apart_mk; simp only [apartL, List.nil_append, List.cons_append, List.getElem?_cons_succ, List.getElem?_cons_zero, Tch.free, and_true, true_and]; first | done | omega)) (by simp only [pt8, pt0, pt6]; rfl) ?_) | (refine WC.skip ?_) | (refine WC.block ?_) | (refine WC.em2 rfl (fun hp => ?_) (fun hp => ?_) <;> try (exfalso; first | omega | contradiction)))
      refine WT.callR (fun v R => ∃ q2, G.length ≤ q2 ∧ RowM (G ++ R) v q2 ((behind W).getD i [])) [bsw.getD (i + 1) 0] rfl rfl (fun j hj => by
        rw [List.mem_singleton] at hj
        subst hj
        refine apart_mk ?_
        simp only [apartL, List.nil_append, List.cons_append, List.getElem?_cons_succ, List.getElem?_cons_zero, Tch.free, and_true]
        omega) ?_ ?_
      · intro V hV hVb
        have hrV : RowM V zv (bsw.getD (i + 1) 0) ((behind W).getD i []) := (hzr.same (hkp _ hb1)).same (hVb _ (by simp))
        refine (f131r (E := E19) rfl (fn_of Tryd.func40 cir40) hrV (by omega) (by omega)).mono ?_
        rintro v m' ⟨q2, H', rfl, hr2, hext2, hq2⟩
        obtain ⟨R, rfl⟩ := hext2.split
        refine ⟨rfl, R, rfl, q2, by omega, hr2.same ?_⟩
        rw [List.getElem?_append_right (by omega), List.getElem?_append_right (by omega), hV]
      rintro v R ⟨q2, hq2, hr2⟩
      simp only [pt8, pt1]
      have hvc := hr2.cell
      unfold AV.cells at hvc
      have hext2 : Ext G (G ++ R) := Ext.app _ _
      obtain ⟨ov', qo', H', a1, hlo', hqo', hlen', hsame⟩ := hlo.push (L := L) hext2 hq2 hr2 (by simp; omega)
      rw [← take_succ (by omega)] at hlo'
      have hkR : Zz.look (G ++ R) N13 0 = some [.int .i64 d, ov] := (look_left (by omega)).trans k13
      have hk13' : Zz.look H' N13 0 = some [.int .i64 d, ov] := (look_of_get (hsame N13 (by simp; omega) (.inl (by omega)))).trans hkR
      have hovc' : ov'.cells = some [ov'] := by
        rcases hlo'.gs with ⟨rfl, _⟩ | ⟨g, rfl, _⟩ | ⟨g, n, rfl, _⟩ <;> rfl
      unfold AV.cells at hovc'
      have hl13 := look_lt hk13'
      rw [List.length_append, List.append_assoc] at a1
      rw [List.length_append] at hlen' hsame hqo'
      have hbo' : ∀ b ∈ bo ++ [q2], N13 + 1 ≤ b := fun b hb => by
        rcases List.mem_append.1 hb with hb | hb
        · exact hbo b hb
        · simp only [List.mem_singleton] at hb; omega
      have hqo2 : N13 + 1 ≤ qo' := by rcases hqo' with ⟨h, _⟩ | h <;> omega
      repeat' (first | (refine WT.big rfl rfl (by intro; simp (disch := omega) only [go_sem, fillP, Option.bind_eq_bind, List.append_assoc, zeros, List.length_append, ov_one0, hvc]; rfl) (by simp (disch := omega) only [go_sem, List.length_append, touch]; rfl) (by first | exact .inl rfl | exact .inr (apart_nil _) | exact .inr trivial | (right; apply apart_mk; simp only [apartL, List.nil_append, List.cons_append, List.getElem?_cons_succ, List.getElem?_cons_zero, Tch.free, and_true, true_and]; first | done | omega)) (by simp only [pt8, pt2]; rfl) ?_))
      refine WT.append (sv := ov) (xv := .sref (G.length + R.length) 0 0 1 1 (some 1)) rfl rfl a1 (apart_nil _) (apart_nil _) (by simp only [pt8, pt3]; rfl) ?_
      repeat' (first | (refine WO.opE (by intro; simp (disch := omega) only [go_sem]; rfl) (by simp only [pt8, pt1, pt5]; rfl) ?_) | (refine WC.region ?_) | (refine WO.nil ?_) | (simp only [fl10]) | (refine WT.nil ?_) | (refine WT.free rfl (by intro; simp (disch := omega) only [go_sem]; rfl) rfl (by simp only [pt8, pt4]; rfl) ?_) | (refine WT.bigN rfl rfl (by intro; simp (disch := omega) only [go_sem, Option.bind_eq_bind, ov_one1, hk13', hovc']; rfl) (by simp (disch := omega) only [go_sem, touch]; rfl) (by first | exact .inl rfl | exact .inr (apart_nil _) | exact .inr trivial | (right; apply apart_mk; simp only [apartL, List.nil_append, List.cons_append, List.getElem?_cons_succ, List.getElem?_cons_zero, Tch.free, and_true, true_and]; first | done | omega)) ?_))
      exact ⟨m - 1, by omega, _, H'.set N13 (some ⟨0, [.int .i64 d, ov']⟩), ov', qo', _, _, i + 1, rfl, rfl, rfl, rfl, rfl, rfl, rfl, by omega, by rw [List.length_set]; omega, fun b hb => by
        rw [List.getElem?_set_ne (by omega), hsame b (by omega) (.inl (by omega)), List.getElem?_append_left (by omega), hkp b hb], look_set hl13, hlo'.keep (List.getElem?_set_ne (by omega)) fun b hb => List.getElem?_set_ne (by have := hbo' b hb; omega), hbo', hqo2⟩
    · have hie : s = i := by omega
      subst hie
      rw [List.take_of_length_le (by omega)] at hlo
      have k6g : Zz.look G (N + 1) 0 = some [.int .i64 0, .snil] := (look_of_get (hkp _ (by omega))).trans k6'
      have l6g := look_lt k6g
      obtain ⟨qo, hlo, hqo, hqoG⟩ := hlo.fit (a := N13) (by omega) (by omega)
      repeat' (first | (refine WO.opE (by intro; simp (disch := omega) only [go_sem, k13]; rfl) (by simp only [pt8, pt2, pt6]; rfl) ?_) | (refine WO.opN (by intro; simp (disch := omega) only [go_sem, Option.bind_eq_bind, ov_all2, Nat.reduceAdd, k6g]; rfl) ?_) | (refine WC.seq ?_) | (refine WC.region ?_) | (refine WO.nil ?_) | (simp only [fl1]) | (refine WC.exit ?_) | (refine WC.ret ?_) | (refine WC.em2 rfl (fun hp => ?_) (fun hp => ?_) <;> try (exfalso; first | omega | contradiction)))
      have hk6s : ∀ c : List AV, Zz.look (G.set (N + 1) (some ⟨0, c⟩)) (N + 1) 0 = some c := fun c => look_set l6g
      have cut2z : ∀ a b : AV, Zz.cut [a, b] 0 2 = some [a, b] := fun a b => by simp [Zz.cut]
      refine ⟨_, by simp only [evRes, gt6, loadCs, hk6s, cut2z, if_true, Option.bind_some, Option.map_some]; rfl, ov, qo, xo, bo, _, rfl, rfl, hlo.keep (List.getElem?_set_ne (by omega)) fun b hb => List.getElem?_set_ne (by have := hbo b hb; omega), ⟨by have := hE2.1; simp; omega, fun j hj => ?_⟩, fun b hb => by have := hbo b hb; have := hE2.1; omega, by have := hE2.1; omega, by rw [List.length_set]; omega⟩
      rw [List.getElem?_set_ne (by omega), hkp j (by have := hE2.1; omega), hE2.2 j hj]
set_option maxRecDepth 100000
set_option maxHeartbeats 8000000
theorem f135 {x : AV} {l : List Nat} (hx : NatS x l) (v : Nat) (hl : l.length < 1000000) {H : Hp} {L : List (Option ALoop)} : WF E19 (.func 43 [] []) [x, .int .i64 (v : Nat)] ⟨H, L⟩ fun y m' => (∃ r : Int, y = .int .i64 r ∧ -1 ≤ r ∧ (0 ≤ r ↔ v ∈ l) ∧ r < 1000000) ∧ m' = ⟨H, L⟩ := by
  have hxl := hx.len
  refine WF.fnE rfl (fn_of Tryd.func43 cir43) (by show 2 ≤ 19; decide) ?_
  unfold ir43; dsimp only [k0, kI, mV, oO, oG]
  simp only [padTo, List.replicate, List.nil_append, List.append_nil]
  repeat' (first | (refine WO.opE (by intro; simp (disch := omega) only [go_sem]; rfl) (by simp only [pt8, pt0, pt4, pt6]; rfl) ?_) | (refine WO.opE (by intro; exact ev_lenS (by simp only [go_sem]; first | rfl | assumption)) (by simp only [pt7]; rfl) ?_) | (refine WC.seq ?_) | (refine WC.region ?_) | (refine WO.nil ?_) | (simp only [fl1]) | (refine WC.block ?_))
  refine WC.loopI (fun m s => ∃ T i, s = ⟨T, H, L⟩ ∧ T.length = 19 ∧ gt T 0 = x ∧ gt T 1 = .int .i64 (v : Nat) ∧ gt T 6 = x ∧ gt T 7 = .int .i64 (l.length : Nat) ∧ gt T 8 = .int .i64 (i : Nat) ∧ m + i = l.length ∧ ∀ t, t < i → l.getD t 0 ≠ v) ?_ l.length _ ⟨_, 0, rfl, rfl, rfl, rfl, rfl, rfl, rfl, by omega, fun t ht => by omega⟩
  rintro m _ ⟨T, i, rfl, hT, g0, g1, g6, g7, g8, hm, hi⟩
  obtain ⟨f, rfl⟩ := ex19 hT
  clear hT
  replace g0 : f 0 = x := g0
  replace g1 : f 1 = .int .i64 (v : Nat) := g1
  replace g6 : f 6 = x := g6
  replace g7 : f 7 = .int .i64 (l.length : Nat) := g7
  replace g8 : f 8 = .int .i64 (i : Nat) := g8
  simp only [g0, g1, g6, g7, g8]
  by_cases hin : i < l.length
  · obtain ⟨t, hat⟩ := hx.at hin
    by_cases he : v = l.getD i 0
    · have he1 : ((v : Nat) : Int) = ((l.getD i 0 : Nat) : Int) := by rw [he]
      have he2 : (((l.getD i 0 : Nat) : Int) == ((l.getD i 0 : Nat) : Int)) = true := by simp
      repeat' (first | (refine WO.opE (by intro; simp (disch := omega) only [go_sem, hat, he1, he2]; rfl) (by simp only [pt8, pt0, pt1, pt2, pt3, pt4, pt5, pt6, pt7]; rfl) ?_) | (refine WC.seq ?_) | (refine WC.region ?_) | (refine WO.nil ?_) | (simp only [fl1, fl2, fl5, fl8]) | (refine WC.yes rfl ?_) | (refine WC.skip ?_) | (refine WC.ret ?_) | (refine WC.block ?_) | (refine WC.em2 rfl (fun hp => ?_) (fun hp => ?_) <;> try (exfalso; first | omega | contradiction)))
      refine ⟨_, rfl, ⟨(i : Int), rfl, by omega, ⟨fun _ => ?_, fun _ => by omega⟩, by omega⟩, rfl⟩
      rw [he, List.getD_eq_getElem?_getD, List.getElem?_eq_getElem hin]
      exact List.getElem_mem hin
    · have he1 : ¬ ((v : Nat) : Int) = ((l.getD i 0 : Nat) : Int) := by omega
      repeat' (first | (refine WO.opE (by intro; simp (disch := omega) only [go_sem, hat]; rfl) (by simp only [pt8, pt0, pt1, pt2, pt3, pt4, pt5, pt6, pt7]; rfl) ?_) | (refine WC.seq ?_) | (refine WC.region ?_) | (refine WO.nil ?_) | (simp only [fl1, fl10]) | (refine WC.skip ?_) | (refine WC.block ?_) | (refine WC.em2 rfl (fun hp => ?_) (fun hp => ?_) <;> try (exfalso; first | omega | contradiction)))
      exact ⟨m - 1, by omega, _, i + 1, rfl, rfl, rfl, rfl, rfl, rfl, rfl, by omega, fun t ht => by
        by_cases e : t = i
        · subst e; exact fun h => he h.symm
        · exact hi t (by omega)⟩
  · have hie : i = l.length := by omega
    subst hie
    repeat' (first | (refine WO.opE (by intro; simp (disch := omega) only [go_sem, Int.reduceNeg, Int.reduceAdd]; rfl) (by simp only [pt8, pt1, pt4]; rfl) ?_) | (refine WC.seq ?_) | (refine WC.region ?_) | (refine WO.nil ?_) | (simp only [fl1]) | (refine WC.exit ?_) | (refine WC.ret ?_) | (refine WC.em2 rfl (fun hp => ?_) (fun hp => ?_) <;> try (exfalso; first | omega | contradiction)))
    refine ⟨_, rfl, ⟨-1, rfl, by omega, ⟨fun h => by omega, fun h => ?_⟩, by omega⟩, rfl⟩
    obtain ⟨t, ht, rfl⟩ := List.mem_iff_getElem.1 h
    exact absurd (by rw [List.getD_eq_getElem?_getD, List.getElem?_eq_getElem ht]; rfl) (hi t ht)
theorem f98 {x : AV} {l : List Nat} (hx : NatS x l) (v : Nat) (hl : l.length < 1000000) {H : Hp} {L : List (Option ALoop)} : WF E19 (.func 35 [] []) [x, .int .i64 (v : Nat)] ⟨H, L⟩ fun y m' => y = .bool (decide (v ∈ l)) ∧ m' = ⟨H, L⟩ := by
  refine WF.fnE rfl (fn_of Tryd.func35 cir35) (by show 2 ≤ 9; decide) ?_
  unfold ir35; dsimp only [k0, kI, mV, oO, oG]
  simp only [padTo, List.replicate, List.nil_append, List.append_nil]
  repeat' (first | (refine WO.opE (by intro; simp (disch := omega) only [go_sem]; rfl) (by simp only [pt4, pt5, pt6]; rfl) ?_) | (refine WC.seq ?_) | (refine WC.region ?_) | (refine WO.nil ?_) | (simp only [fl1]))
  refine WO.call rfl rfl ((f135 hx v hl).mono ?_)
  rintro y m' ⟨⟨r, rfl, h1, h2, h3⟩, rfl⟩
  simp only [pt7]
  repeat' (first | (refine WO.opE (by intro; simp (disch := omega) only [go_sem]; rfl) (by simp only [pt8, pt0, pt4]; rfl) ?_) | (refine WO.nil ?_) | (refine WC.ret ?_))
  refine ⟨_, rfl, ?_, rfl⟩
  simp only [oneRes, gt4]
  congr 1
  rw [decide_eq_decide]
  exact h2
theorem f97 {l iv jv : AV} {js : List Nat} {d : Int} (hjv : NatS jv js) (hjl : js.length < 1000000) (v : Nat) {H : Hp} {L : List (Option ALoop)} (h0 : Zz.look H 0 0 = some [l, iv, jv, .int .i64 d]) : WF E19 (.func 34 [] [.pref 0 0 0]) [.int .i64 (v : Nat)] ⟨H, L⟩ fun y m' => y = .bool (decide (v ∈ js)) ∧ m' = ⟨H, L⟩ := by
  refine WF.fnE rfl (fn_of Tryd.func34 cir34) (by show 2 ≤ 8; decide) ?_
  unfold ir34; dsimp only [k0, kI, mV, oO, oG]
  simp only [padTo, List.replicate, List.nil_append, List.cons_append]
  repeat' (first | (refine WO.opE (by intro; simp (disch := omega) only [go_sem, h0]; rfl) (by simp only [pt3, pt4, pt5, pt6]; rfl) ?_) | (refine WC.seq ?_) | (refine WC.region ?_) | (refine WO.nil ?_) | (simp only [fl1]))
  refine WO.call rfl rfl ((f98 hjv v hjl).mono ?_)
  rintro y m' ⟨rfl, rfl⟩
  simp only [pt7]
  repeat' (first | (refine WO.opE (by intro; simp (disch := omega) only [go_sem]; rfl) (by simp only [pt3]; rfl) ?_) | (refine WO.nil ?_) | (refine WC.ret ?_))
  exact ⟨_, rfl, rfl, rfl⟩
theorem f134 {fv : AV} {p : Nat → Bool} {b g : Nat} {l : List Nat} (hl : l.length < 1000000) {H : Hp} {L : List (Option ALoop)} (hk : Zz.look H b g = some (ncells l)) (hfv : ∀ v : Nat, WF E19 fv [.int .i64 (v : Nat)] ⟨H, L⟩ fun y m' => y = .bool (p v) ∧ m' = ⟨H, L⟩) :
    WF E19 (.func 42 [] []) [.sref b g 0 1 l.length (some l.length), fv] ⟨H, L⟩ fun y m' => (y = .int .i64 (-1) ∧ (∀ t, t < l.length → p (l.getD t 0) = false) ∨ ∃ i : Nat, i < l.length ∧ y = .int .i64 (i : Int) ∧ p (l.getD i 0) = true ∧ ∀ t, t < i → p (l.getD t 0) = false) ∧ m' = ⟨H, L⟩ := by
  refine WF.fnE rfl (fn_of Tryd.func42 cir42) (by show 2 ≤ 19; decide) ?_
  unfold ir42; dsimp only [k0, kI, mV, oO, oG]
  simp only [padTo, List.replicate, List.nil_append, List.append_nil]
  repeat' (first | (refine WO.opE (by intro; simp (disch := omega) only [go_sem]; rfl) (by simp only [pt8, pt0, pt4, pt6]; rfl) ?_) | (refine WO.opE (by intro; exact ev_lenS (by simp only [go_sem]; first | rfl | assumption)) (by simp only [pt7]; rfl) ?_) | (refine WC.seq ?_) | (refine WC.region ?_) | (refine WO.nil ?_) | (simp only [fl1]) | (refine WC.block ?_))
  refine WC.loopI (fun m s => ∃ T i, s = ⟨T, H, L⟩ ∧ T.length = 19 ∧ gt T 0 = .sref b g 0 1 l.length (some l.length) ∧ gt T 1 = fv ∧ gt T 6 = .sref b g 0 1 l.length (some l.length) ∧ gt T 7 = .int .i64 (l.length : Nat) ∧ gt T 8 = .int .i64 (i : Nat) ∧ m + i = l.length ∧ ∀ t, t < i → p (l.getD t 0) = false) ?_ l.length _ ⟨_, 0, rfl, rfl, rfl, rfl, rfl, rfl, rfl, by omega, fun t ht => by omega⟩
  rintro m _ ⟨T, i, rfl, hT, g0, g1, g6, g7, g8, hm, hi⟩
  obtain ⟨f, rfl⟩ := ex19 hT
  clear hT
  replace g0 : f 0 = .sref b g 0 1 l.length (some l.length) := g0
  replace g1 : f 1 = fv := g1
  replace g6 : f 6 = .sref b g 0 1 l.length (some l.length) := g6
  replace g7 : f 7 = .int .i64 (l.length : Nat) := g7
  replace g8 : f 8 = .int .i64 (i : Nat) := g8
  simp only [g0, g1, g6, g7, g8]
  by_cases hin : i < l.length
  · have hat := ncells_get hin
    have hix : indexAddrAV 1 (.sref b g 0 1 l.length (some l.length)) (.int .i64 (i : Int)) = some (.pref b g i) := by rw [ia_sref, idx_nat hin]; simp
    repeat' (first | (refine WO.opE (by intro; simp (disch := omega) only [go_sem, hix, hk, hat]; rfl) (by simp only [pt8, pt1, pt2, pt3, pt4, pt5, pt6, pt7]; rfl) ?_) | (refine WC.seq ?_) | (refine WC.region ?_) | (refine WO.nil ?_) | (simp only [fl1]) | (refine WC.skip ?_) | (refine WC.block ?_) | (refine WC.em2 rfl (fun hp => ?_) (fun hp => ?_) <;> try (exfalso; first | omega | contradiction)))
    refine WO.call rfl rfl ((hfv _).mono ?_)
    rintro y m' ⟨rfl, rfl⟩
    simp only [pt8, pt0]
    cases hp : p (l.getD i 0)
    · skip
      repeat' (first | (refine WO.opE (by intro; simp (disch := omega) only [go_sem]; rfl) (by simp only [pt8, pt0, pt2]; rfl) ?_) | (refine WC.region ?_) | (refine WO.nil ?_) | (simp only [fl10]) | (refine WC.no rfl ?_) | (refine WC.skip ?_))
      exact ⟨m - 1, by omega, _, i + 1, rfl, rfl, rfl, rfl, rfl, rfl, rfl, by omega, fun t ht => by
        by_cases e : t = i
        · subst e; exact hp
        · exact hi t (by omega)⟩
    · skip
      repeat' (first | (refine WO.opE (by intro; simp (disch := omega) only [go_sem]; rfl) (by simp only [pt8, pt1, pt4]; rfl) ?_) | (refine WC.seq ?_) | (refine WC.region ?_) | (refine WO.nil ?_) | (simp only [fl1, fl2, fl5, fl8]) | (refine WC.yes rfl ?_) | (refine WC.ret ?_))
      exact ⟨_, rfl, .inr ⟨i, hin, rfl, hp, hi⟩, rfl⟩
  · have hie : i = l.length := by omega
    subst hie
    repeat' (first | (refine WO.opE (by intro; simp (disch := omega) only [go_sem, Int.reduceNeg, Int.reduceAdd]; rfl) (by simp only [pt8, pt1, pt4]; rfl) ?_) | (refine WC.seq ?_) | (refine WC.region ?_) | (refine WO.nil ?_) | (simp only [fl1]) | (refine WC.exit ?_) | (refine WC.ret ?_) | (refine WC.em2 rfl (fun hp => ?_) (fun hp => ?_) <;> try (exfalso; first | omega | contradiction)))
    exact ⟨_, rfl, .inl ⟨rfl, hi⟩, rfl⟩
theorem take_succN' {l : List Nat} {j : Nat} (h : j < l.length) : l.take (j + 1) = l.take j ++ [l.getD j 0] := take_succN h
theorem f96 {fv : AV} {p : Nat → Bool} {b g : Nat} {l : List Nat} (hl : l.length < 1000000) {H : Hp} {L : List (Option ALoop)} (hk : Zz.look H b g = some (ncells l)) (hfvc : fv.cells = some [fv]) (hfv : ∀ G : Hp, (∀ j, j ≠ b → G[j]? = H[j]?) → ∀ v : Nat, WF E19 fv [.int .i64 (v : Nat)] ⟨G, L⟩ fun y m' => y = .bool (p v) ∧ m' = ⟨G, L⟩) :
    WF E19 (.func 32 [] []) [.sref b g 0 1 l.length (some l.length), fv] ⟨H, L⟩ fun y m' => ∃ G c, y = .sref b g 0 1 (l.filter fun v => !p v).length (some l.length) ∧ m' = ⟨G, L⟩ ∧ Zz.look G b g = some c ∧ c.length = l.length ∧ c.take (l.filter fun v => !p v).length = ncells (l.filter fun v => !p v) ∧ G.length = H.length ∧ ∀ j, j ≠ b → G[j]? = H[j]? := by
  refine WF.fnE rfl (fn_of Tryd.func32 cir32) (by show 2 ≤ 42; decide) ?_
  unfold ir32; dsimp only [k0, kI, mV, oO, oG]
  simp only [padTo, List.replicate, List.nil_append, List.append_nil]
  repeat' (first | (refine WO.opE (by intro; simp (disch := omega) only [go_sem]; rfl) (by simp only [pt8, pt0, pt1, pt4]; rfl) ?_) | (refine WC.seq ?_) | (refine WC.region ?_) | (refine WO.nil ?_) | (simp only [fl1]))
  refine WO.call rfl rfl ((f134 hl hk (hfv H fun j _ => rfl)).mono ?_)
  rintro y m' ⟨h, rfl⟩
  simp only [pt8, pt2]
  rcases h with ⟨rfl, hno⟩ | ⟨r, hr, rfl, hpr, hlo⟩
  · have hfe : (l.filter fun v => !p v) = l := List.filter_eq_self.2 fun v hv => by
      obtain ⟨t, ht, rfl⟩ := List.mem_iff_getElem.1 hv
      have := hno t ht
      rw [List.getD_eq_getElem?_getD, List.getElem?_eq_getElem ht] at this
      simpa using this
    repeat' (first | (refine WO.opE (by intro; simp (disch := omega) only [go_sem, Int.reduceNeg, Int.reduceAdd]; rfl) (by simp only [pt8, pt3, pt4, pt5]; rfl) ?_) | (refine WC.seq ?_) | (refine WC.region ?_) | (refine WO.nil ?_) | (simp only [fl1, fl2]) | (refine WC.yes rfl ?_) | (refine WC.ret ?_))
    rw [hfe]
    exact ⟨_, rfl, H, ncells l, rfl, rfl, hk, ncells_len l, by rw [List.take_of_length_le (by rw [ncells_len]; exact Nat.le_refl _)], rfl, fun j _ => rfl⟩
  · have hr1 : ¬ (r : Int) = -1 := by omega
    have hlk := look_lt hk
    have hF0 : ((l.take (r + 1)).filter fun v => !p v) = l.take r := by
      rw [take_succN' hr, List.filter_append]
      have h1 : ((l.take r).filter fun v => !p v) = l.take r := List.filter_eq_self.2 fun v hv => by
        obtain ⟨t, ht, rfl⟩ := List.mem_iff_getElem.1 hv
        rw [List.length_take] at ht
        have := hlo t (by omega)
        rw [List.getD_eq_getElem?_getD, List.getElem?_eq_getElem (by omega)] at this
        simpa using this
      have h2 : (([l.getD r 0]).filter fun v => !p v) = [] := List.filter_eq_nil_iff.2 fun v hv => by
        rw [List.mem_singleton] at hv
        subst hv
        simp only [hpr]
        decide
      rw [h1, h2, List.append_nil]
    have hr2 : ((r : Nat) : Int) + 1 = ((r + 1 : Nat) : Int) := by omega
    repeat' (first | (refine WO.opE (by intro; simp (disch := omega) only [go_sem, Int.reduceNeg, Int.reduceAdd, reduceCtorEq]; rfl) (by simp only [pt8, pt3, pt4, pt5, pt6, pt7]; rfl) ?_) | (refine WC.seq ?_) | (refine WC.region ?_) | (refine WO.nil ?_) | (simp only [fl1]) | (refine WC.no rfl ?_) | (refine WC.skip ?_) | (refine WC.block ?_))
    refine WC.loopI (fun m s => ∃ T G c i j, s = ⟨T, G, L⟩ ∧ T.length = 42 ∧ gt T 0 = .sref b g 0 1 l.length (some l.length) ∧ gt T 1 = fv ∧ gt T 5 = .int .i64 (i : Nat) ∧ gt T 6 = .int .i64 (j : Nat) ∧ m + j = l.length ∧ i < j ∧ G.length = H.length ∧ Zz.look G b g = some c ∧ c.length = l.length ∧ i = ((l.take j).filter fun v => !p v).length ∧ c.take i = ncells ((l.take j).filter fun v => !p v) ∧ (∀ t, j ≤ t → t < l.length → c[t]? = (ncells l)[t]?) ∧ ∀ j, j ≠ b → G[j]? = H[j]?) ?_ (l.length - (r + 1)) _ ⟨_, H, ncells l, r, r + 1, rfl, rfl, rfl, rfl, rfl, by first | rfl | (show AV.int .i64 ((r : Int) + 1) = _; rw [hr2]), by omega, by omega, rfl, hk, ncells_len l, by rw [hF0, List.length_take]; omega, by rw [hF0, ncells_take], fun t _ _ => rfl, fun j _ => rfl⟩
    rintro m _ ⟨T, G, c, i, j, rfl, hT, g0, g1, g5, g6, hm, hij, hGl, hkG, hcl, hi, hct, hcr, hkeep⟩
    obtain ⟨f, rfl⟩ := ex42 hT
    clear hT
    replace g0 : f 0 = .sref b g 0 1 l.length (some l.length) := g0
    replace g1 : f 1 = fv := g1
    replace g5 : f 5 = .int .i64 (i : Nat) := g5
    replace g6 : f 6 = .int .i64 (j : Nat) := g6
    simp only [g0, g1, g5, g6]
    have hlG := look_lt hkG
    by_cases hjn : j < l.length
    · have hat := (hcr j (Nat.le_refl _) hjn).trans (ncells_get hjn)
      have hix : indexAddrAV 1 (.sref b g 0 1 l.length (some l.length)) (.int .i64 (j : Int)) = some (.pref b g j) := by rw [ia_sref, idx_nat hjn]; simp
      have hixi : indexAddrAV 1 (.sref b g 0 1 l.length (some l.length)) (.int .i64 (i : Int)) = some (.pref b g i) := by rw [ia_sref, idx_nat (by omega)]; simp
      have hov := over_one (c := c) (k := i) (x := .int .i64 ((l.getD j 0 : Nat) : Int)) (by omega)
      have hts := take_succN' hjn
      repeat' (first | (refine WO.opE (by intro; simp (disch := omega) only [go_sem, hix, hkG, hat]; rfl) (by simp only [pt8, pt0, pt1, pt2, pt3, pt6, pt7]; rfl) ?_) | (refine WO.opE (by intro; exact ev_lenS (by simp only [go_sem]; first | rfl | assumption)) (by simp only [pt8, pt2]; rfl) ?_) | (refine WC.seq ?_) | (refine WC.region ?_) | (refine WO.nil ?_) | (simp only [fl1]) | (refine WC.skip ?_) | (refine WC.block ?_) | (refine WC.em2 rfl (fun hp => ?_) (fun hp => ?_) <;> try (exfalso; first | omega | contradiction)))
      refine WO.call rfl rfl ((hfv G hkeep _).mono ?_)
      rintro y m' ⟨rfl, rfl⟩
      simp only [pt8, pt4]
      cases hp : p (l.getD j 0)
      · have hf : ((l.take (j + 1)).filter fun v => !p v) = ((l.take j).filter fun v => !p v) ++ [l.getD j 0] := by
          rw [hts, List.filter_append]
          congr 1
          rw [List.filter_cons_of_pos (by simp only [hp]; decide), List.filter_nil]
        repeat' (first | (refine WO.opE (by intro; simp (disch := omega) only [go_sem, hixi]; rfl) (by simp only [pt8, pt0, pt1, pt2, pt3, pt4, pt5, pt6, pt7]; rfl) ?_) | (refine WO.opN (by intro; simp (disch := omega) only [go_sem, hkG, hov]; rfl) ?_) | (refine WC.seq ?_) | (refine WC.region ?_) | (refine WO.nil ?_) | (simp only [fl10]) | (refine WC.yes rfl ?_))
        exact ⟨m - 1, by omega, _, G.set b (some ⟨g, c.set i (.int .i64 ((l.getD j 0 : Nat) : Int))⟩), c.set i (.int .i64 ((l.getD j 0 : Nat) : Int)), i + 1, j + 1, rfl, rfl, rfl, rfl, rfl, rfl, by omega, by omega, by rw [List.length_set]; exact hGl, look_set hlG, by rw [List.length_set]; exact hcl, by rw [hf, List.length_append, List.length_singleton, ← hi], by
          rw [hf, ncells_app, ← hct, List.take_add_one, List.take_set_of_le (Nat.le_refl _), List.getElem?_set_self (by omega)]
          rfl, fun t h1 h2 => by rw [List.getElem?_set_ne (by omega)]; exact hcr t (by omega) h2, fun k hk => by rw [List.getElem?_set_ne (Ne.symm hk)]; exact hkeep k hk⟩
      · have hf : ((l.take (j + 1)).filter fun v => !p v) = ((l.take j).filter fun v => !p v) := by
          rw [hts, List.filter_append]
          have : (([l.getD j 0]).filter fun v => !p v) = [] := by rw [List.filter_cons_of_neg (by simp only [hp]; decide), List.filter_nil]
          rw [this, List.append_nil]
        repeat' (first | (refine WO.opE (by intro; simp (disch := omega) only [go_sem]; rfl) (by simp only [pt8, pt4, pt5, pt6]; rfl) ?_) | (refine WC.region ?_) | (refine WO.nil ?_) | (simp only [fl10]) | (refine WC.no rfl ?_) | (refine WC.skip ?_))
        exact ⟨m - 1, by omega, _, G, c, i, j + 1, rfl, rfl, rfl, rfl, rfl, rfl, by omega, by omega, hGl, hkG, hcl, by rw [hf]; exact hi, by rw [hf]; exact hct, fun t h1 h2 => hcr t (by omega) h2, hkeep⟩
    · have hje : j = l.length := by omega
      subst hje
      rw [List.take_length] at hi hct
      have hs1 : ∀ G : Hp, sliceAV G 1 (.sref b g 0 1 l.length (some l.length)) (some (.int .i64 (i : Int))) none none = some (.sref b g i 1 (l.length - i) (some (l.length - i))) := fun G => by
        simp only [sliceAV, if_true, Option.isNone, Bool.false_and, Bool.false_eq_true, if_false, bnds, bndO, bnd]
        rw [if_pos ⟨by omega, by omega⟩]
        simp only [Option.bind_some, Int.toNat_natCast]
        rw [if_neg (by omega), Nat.mul_one, Nat.zero_add]
      have hs2 : ∀ G : Hp, sliceAV G 1 (.sref b g 0 1 l.length (some l.length)) none (some (.int .i64 (i : Int))) none = some (.sref b g 0 1 i (some l.length)) := fun G => by
        simp only [sliceAV, if_true, Option.isNone, Bool.false_and, Bool.false_eq_true, if_false, bnds, bndO, bnd, Option.getD_some]
        rw [if_pos ⟨by omega, by omega⟩]
        simp
      have hzl : ∀ n, (zeros [AV.int .i64 0] n).length = n := fun n => by rw [zeros_row, icells_len, List.length_replicate]
      have hov : Zz.over c i (zeros [.int .i64 0] (l.length - i)) = some (c.take i ++ zeros [.int .i64 0] (l.length - i)) := by
        unfold Zz.over
        rw [if_pos (by rw [hzl]; omega), hzl, List.drop_of_length_le (by omega), List.append_nil]
      have hcle : ∀ L : List (Option ALoop), clearAV [.int .i64 0] ⟨G, L⟩ (.sref b g i 1 (l.length - i) (some (l.length - i))) = some ⟨G.set b (some ⟨g, c.take i ++ zeros [.int .i64 0] (l.length - i)⟩), L⟩ := fun L => by
        simp only [clearAV]
        rw [if_neg (by omega)]
        simp only [storeAt, hkG, Option.bind_eq_bind, Option.bind_some, hov, setBlk, Option.map_some]
      repeat' (first | (refine WO.opE (by intro; simp (disch := omega) only [go_sem, hs1, hs2, Option.map_none, Option.map_some]; rfl) (by simp only [pt8, pt0, pt1, pt3, pt4, pt5, pt6, pt7]; rfl) ?_) | (refine WO.opN (by intro; simp (disch := omega) only [go_sem, Option.map_some, hcle]; rfl) ?_) | (refine WO.opE (by intro; exact ev_lenS (by simp only [go_sem]; first | rfl | assumption)) (by simp only [pt8, pt2]; rfl) ?_) | (refine WC.seq ?_) | (refine WC.region ?_) | (refine WO.nil ?_) | (simp only [fl1]) | (refine WC.exit ?_) | (refine WC.ret ?_) | (refine WC.em2 rfl (fun hp => ?_) (fun hp => ?_) <;> try (exfalso; first | omega | contradiction)))
      rw [← hi]
      exact ⟨_, rfl, _, _, rfl, rfl, look_set hlG, by rw [List.length_append, List.length_take, hzl]; omega, by rw [List.take_append_of_le_length (by rw [List.length_take]; omega), List.take_take, Nat.min_self]; exact hct, by rw [List.length_set]; exact hGl, fun k hk => by rw [List.getElem?_set_ne (Ne.symm hk)]; exact hkeep k hk⟩
def bwdF (rows : List (List Int)) : Fr := frame rows [5, 4, 3, 2, 1, 0] 6
def freeF (js : List Nat) : List Nat := [0, 1, 2, 3, 4, 5].filter fun v => !decide (v ∈ js)
def tabF (rows : List (List Int)) (S : Fr) (k : Nat) : List Int := (freeF S.js).map fun j => minorF (ent rows) S.is (S.js.set k j)
def kerX (rows : List (List Int)) (S : Fr) : Nat → List (List Int)
  | 0 => multF (freeF S.js).length (freeF S.js).length 1
  | k + 1 => behind (narW (kerX rows S k) (tabF rows S k) (absI S.d) (freeF S.js).length)
def kerXR (rows : List (List Int)) (S : Fr) : Nat → List (List Int)
  | 0 => multF (freeF S.js).length (freeF S.js).length 1
  | k + 1 => behind (divW (kerXR rows S k) (tabF rows S k) (absI S.d) (freeF S.js).length)
def sumK (rows : List (List Int)) (S : Fr) (x : List Int) (k n : Nat) : Int := psumF (fun n => (tabF rows S k).getD n 0 * x.getD n 0) n
def kerE (rows : List (List Int)) (S : Fr) (x : List Int) (j : Nat) : Int := if j ∈ S.js then (-sumK rows S x (S.js.idxOf j) (freeF S.js).length).tdiv S.d else x.getD ((freeF S.js).idxOf j) 0
def kerR (rows : List (List Int)) (S : Fr) (x : List Int) : List Int := (List.range 6).map (kerE rows S x)
def kerF (rows : List (List Int)) : List (List Int) := (kerX rows (bwdF rows) (bwdF rows).js.length).map (kerR rows (bwdF rows))
def kerFR (rows : List (List Int)) : List (List Int) := (kerXR rows (bwdF rows) (bwdF rows).js.length).map (kerR rows (bwdF rows))
def kernR (rows : List (List Int)) : List (List Int) := if VM rows then kerF rows else []
def kernRR (rows : List (List Int)) : List (List Int) := if VM rows then kerFR rows else []
theorem free_nodup (js : List Nat) : (freeF js).Nodup := List.Nodup.sublist List.filter_sublist (by decide)
theorem free_mem {js : List Nat} {j : Nat} : j ∈ freeF js ↔ j < 6 ∧ j ∉ js := by
  unfold freeF
  rw [List.mem_filter]
  constructor
  · rintro ⟨h1, h2⟩
    refine ⟨?_, by simpa using h2⟩
    simp only [List.mem_cons, List.not_mem_nil, or_false] at h1
    omega
  · rintro ⟨h1, h2⟩
    refine ⟨?_, by simpa using h2⟩
    simp only [List.mem_cons, List.not_mem_nil, or_false]
    omega
theorem free_len (js : List Nat) : (freeF js).length ≤ 6 := List.Sublist.length_le List.filter_sublist
theorem getD_mem {l : List Nat} {k : Nat} (h : k < l.length) : l.getD k 0 ∈ l := by
  rw [List.getD_eq_getElem?_getD, List.getElem?_eq_getElem h]
  exact List.getElem_mem h
theorem idx_getD {l : List Nat} (hn : l.Nodup) {k : Nat} (h : k < l.length) : l.idxOf (l.getD k 0) = k := by
  rw [List.getD_eq_getElem?_getD, List.getElem?_eq_getElem h]
  exact List.Nodup.idxOf_getElem hn k h
theorem getD_inj {l : List Nat} (hn : l.Nodup) {i k : Nat} (hi : i < l.length) (hk : k < l.length) (h : l.getD i 0 = l.getD k 0) : i = k := by
  rw [← idx_getD hn hi, h, idx_getD hn hk]
theorem tab_len (rows : List (List Int)) (S : Fr) (k : Nat) : (tabF rows S k).length = (freeF S.js).length := by simp [tabF]
theorem tab_at {rows : List (List Int)} {S : Fr} {k n : Nat} (h : n < (freeF S.js).length) : (tabF rows S k).getD n 0 = minorF (ent rows) S.is (S.js.set k ((freeF S.js).getD n 0)) := by
  simp [tabF, List.getD_eq_getElem?_getD, h]
theorem tab_bd {rows : List (List Int)} {S : Fr} (hB : FrB rows S) (hv : VM rows) (h6 : ∀ i, i < rows.length → (rw_ rows i).length = 6) {k n : Nat} (hk : k < S.js.length) (h : n < (freeF S.js).length) : -1000000000 ≤ (tabF rows S k).getD n 0 ∧ (tabF rows S k).getD n 0 ≤ 1000000000 := by
  rw [tab_at h]
  have h1 := rep_bnd (rows := rows) h6 hB.i hB.j hB.len hk (free_mem.1 (getD_mem h)).1
  have h2 := prodB_vol hv hB.nd hB.i
  omega
theorem kerX_LB {rows : List (List Int)} {S : Fr} (hB : FrB rows S) : ∀ k, LB (kerX rows S k) (freeF S.js).length (absI S.d)
  | 0 => (LB.mult (by decide)).mono (by have := hB.abs; omega)
  | k + 1 => by
    have h := kerX_LB hB k
    obtain ⟨h1, h2⟩ := hB.abs
    exact (LB.redI h1 (narA_LB h1 h2 h (Nat.le_refl _)) (Nat.le_refl _)).behind
theorem sumK_bd {rows : List (List Int)} {S : Fr} {x : List Int} {k : Nat} (hx : ∀ n, n < (freeF S.js).length → 0 ≤ x.getD n 0 ∧ x.getD n 0 ≤ 1000000000) (ht : ∀ n, n < (freeF S.js).length → -1000000000 ≤ (tabF rows S k).getD n 0 ∧ (tabF rows S k).getD n 0 ≤ 1000000000) :
    ∀ n, n ≤ (freeF S.js).length → -(n * 1000000000000000000 : Int) ≤ sumK rows S x k n ∧ sumK rows S x k n ≤ n * 1000000000000000000
  | 0, _ => by simp [sumK, psumF]
  | n + 1, hn => by
    obtain ⟨h1, h2⟩ := sumK_bd hx ht n (by omega)
    have h3 := mul_bd (ht n (by omega)) (hx n (by omega))
    have e : sumK rows S x k (n + 1) = sumK rows S x k n + (tabF rows S k).getD n 0 * x.getD n 0 := rfl
    rw [e]
    omega
theorem kerE_js {rows : List (List Int)} {S : Fr} {x : List Int} (hn : S.js.Nodup) {k : Nat} (hk : k < S.js.length) : kerE rows S x (S.js.getD k 0) = (-sumK rows S x k (freeF S.js).length).tdiv S.d := by
  unfold kerE
  rw [if_pos (getD_mem hk), idx_getD hn hk]
theorem kerE_free {rows : List (List Int)} {S : Fr} {x : List Int} {n : Nat} (hn : n < (freeF S.js).length) : kerE rows S x ((freeF S.js).getD n 0) = x.getD n 0 := by
  unfold kerE
  rw [if_neg (free_mem.1 (getD_mem hn)).2, idx_getD (free_nodup _) hn]
theorem kerR_of {rows : List (List Int)} {S : Fr} {x w : List Int} (hw : w.length = 6) (hn : S.js.Nodup) (h1 : ∀ k, k < S.js.length → w.getD (S.js.getD k 0) 0 = (-sumK rows S x k (freeF S.js).length).tdiv S.d) (h2 : ∀ n, n < (freeF S.js).length → w.getD ((freeF S.js).getD n 0) 0 = x.getD n 0) : w = kerR rows S x := by
  refine getD_ext (by simp [kerR, hw]) fun t ht => ?_
  have e : (kerR rows S x).getD t 0 = kerE rows S x t := by simp [kerR, List.getD_eq_getElem?_getD, show t < 6 by omega]
  rw [e]
  by_cases hj : t ∈ S.js
  · obtain ⟨k, hk, rfl⟩ := List.mem_iff_getElem.1 hj
    have e2 : S.js[k] = S.js.getD k 0 := by simp [List.getD_eq_getElem?_getD, hk]
    rw [e2, kerE_js hn hk, h1 k hk]
  · have hf : t ∈ freeF S.js := free_mem.2 ⟨by omega, hj⟩
    obtain ⟨n, hn', rfl⟩ := List.mem_iff_getElem.1 hf
    have e2 : (freeF S.js)[n] = (freeF S.js).getD n 0 := by simp [List.getD_eq_getElem?_getD, hn']
    rw [e2, kerE_free hn', h2 n hn']
theorem js_ne {js : List Nat} {k n : Nat} (hk : k < js.length) (hn : n < (freeF js).length) : js.getD k 0 ≠ (freeF js).getD n 0 := fun h => (free_mem.1 (getD_mem hn)).2 (by rw [← h]; exact getD_mem hk)
theorem zero_at (n j : Nat) : (List.replicate n (0 : Int)).getD j 0 = 0 := by
  by_cases h : j < n <;> simp [List.getD_eq_getElem?_getD, h]
theorem kerR_six {rows X : List (List Int)} {S : Fr} : ∀ r ∈ X.map (kerR rows S), r.length = 6 := fun r hr => by
  obtain ⟨x, _, rfl⟩ := List.mem_map.1 hr
  simp [kerR]
set_option maxRecDepth 100000
set_option maxHeartbeats 8000000
def IX (G : Hp) (N7 : Nat) (x : AV) (r : List Int) : Prop := (x = .snil ∧ r = []) ∨ ∃ b, 3 ≤ b ∧ b ≠ N7 ∧ b < G.length ∧ RowM G x b r
theorem IX.im {G : Hp} {N7 : Nat} {x : AV} {r : List Int} (h : IX G N7 x r) (hG : 0 < G.length) : ∃ b, b < G.length ∧ IM G x b r := by
  rcases h with h | ⟨b, _, _, h1, h2⟩
  · exact ⟨0, hG, .inl h⟩
  · exact ⟨b, h1, .inr h2⟩
theorem IX.of_gs {G : Hp} {N7 q : Nat} {v : AV} {r : List Int} (h : GS 1 G v q (icells r)) (h3 : 3 ≤ q) (h7 : q ≠ N7) : IX G N7 v r := by
  by_cases hr : 0 < r.length
  · have := RowM.of_gs h hr
    exact .inr ⟨q, h3, h7, this.lt, this⟩
  · have hr0 : r = [] := List.length_eq_zero_iff.1 (by omega)
    subst hr0
    rcases h with ⟨rfl, _⟩ | ⟨g, rfl, _, h2⟩ | ⟨g, n, _, h1, h2, _⟩
    · exact .inl ⟨rfl, rfl⟩
    · exact .inr ⟨q, h3, h7, look_lt h2, g, 0, some 0, [], rfl, h2, by simp, rfl, .inr rfl⟩
    · simp [icells] at h1; omega
structure KM (G : Hp) (fr fc tc : List AV) (rows : List (List Int)) (S : Fr) (N7 k : Nat) : Prop where
  k0 : Zz.look G 0 0 = some fr
  k1 : Zz.look G 1 0 = some fc
  k2 : Zz.look G 2 0 = some tc
  tl : tc.length = S.js.length
  tn : ∀ t, k ≤ t → t < S.js.length → tc.getD t und = .snil
  td : ∀ t, t < k → IX G N7 (tc.getD t und) (tabF rows S t)
theorem KM.keep {G G' : Hp} {fr fc tc : List AV} {rows : List (List Int)} {S : Fr} {N7 k : Nat} (h : KM G fr fc tc rows S N7 k) (hN : 3 ≤ N7) (hl : G.length ≤ G'.length) (hk : ∀ b, b < G.length → b ≠ N7 → G'[b]? = G[b]?) : KM G' fr fc tc rows S N7 k := by
  refine ⟨(look_of_get (hk 0 (look_lt h.k0) (by omega))).trans h.k0, (look_of_get (hk 1 (look_lt h.k1) (by omega))).trans h.k1, (look_of_get (hk 2 (look_lt h.k2) (by omega))).trans h.k2, h.tl, h.tn, fun t ht => ?_⟩
  rcases h.td t ht with h | ⟨b, h1, h2, h3, h4⟩
  · exact .inl h
  · exact .inr ⟨b, h1, h2, by omega, h4.same (hk b h3 h2)⟩
theorem zeros_nil (n : Nat) : zeros [AV.snil] n = List.replicate n .snil := by
  induction n with
  | zero => rfl
  | succ n ih => rw [zeros, ih]; rfl
theorem mk_tab {call : AV → List AV → Mem → Option (AV × Mem)} {T : List AV} {G : Hp} {L : List (Option ALoop)} {n : Nat} {l c : Opd} (hn : n ≤ 8) (h1 : l.ev T = .int .i64 (n : Int)) (h2 : c.ev T = .int .i64 (n : Int)) :
    evOp call T ⟨G, L⟩ (.makeSlice 1 24 [.snil] l c) = some (.sref G.length 0 0 1 n (some n), ⟨G ++ [some ⟨0, List.replicate n .snil⟩], L⟩) := by
  rw [ev_makeSlice, h1, h2]
  show (if _ then _ else _) = _
  rw [if_pos ⟨by omega, by omega, by omega, by omega⟩, ← zeros_nil]
  rfl
theorem ncells_of_take {c : List AV} {l : List Nat} {k : Nat} (h : c.take k = ncells l) (hk : k = l.length) {n : Nat} (hn : n < l.length) : c[n]? = some (.int .i64 ((l.getD n 0 : Nat) : Int)) := by
  have := congrArg (fun l => l[n]?) h
  simp only [List.getElem?_take, if_pos (show n < k by omega)] at this
  rw [this, ncells_get hn]
theorem f30 {l : AV} {rows : List (List Int)} (hl : RwL l rows) (hv : VM rows) : WF E19 (.func 25 [] []) [l] ⟨[], []⟩ fun y m' => ∃ v q, y = .tuple [v, .int .i64 0] ∧ GS 6 m'.heap v q (flatR (kerF rows)) := by
  have hr8 := hv.1
  have hlen := hl.len
  have c25 := fun m => s25 (m := m) hl (by omega)
  rw [decide_eq_true hv] at c25
  obtain ⟨ov, hov, c95⟩ := s95
  obtain ⟨hok, iv, jv, hiv, hjv, c82⟩ := s82 hl hv hov okJ_bwd (by decide)
  have hF : frame rows [5, 4, 3, 2, 1, 0] ([5, 4, 3, 2, 1, 0] : List Nat).length = bwdF rows := rfl
  rw [hF] at hok hiv hjv c82
  have hB := hok.toB hv (fun i hi => hl.six hi) okJ_bwd (by decide)
  clear hok hF
  have hker : kerF rows = (kerX rows (bwdF rows) (bwdF rows).js.length).map (kerR rows (bwdF rows)) := rfl
  generalize bwdF rows = S at *
  obtain ⟨hd0, hd9⟩ := hB.abs
  have hn6 := hB.six
  have hjl := hjv.len
  have hil6 := hB.len
  have hs6 := free_len S.js
  have hbd := hB.bd
  have c81 := fun m => s81 (m := m) (x := S.d) (by omega)
  have hlc := hl.cells
  have hic := hiv.cells
  have hjc := hjv.cells
  unfold AV.cells at hlc hic hjc
  have c83 := fun m => s83r (m := m)
  refine WF.fnE rfl (fn_of Tryd.func25 cir25) (by show 1 ≤ 138; decide) ?_
  unfold ir25; dsimp only [k0, kI, mV, oO, oG]
  simp only [padTo, List.replicate, List.nil_append, List.append_nil]
  repeat' (first | (refine WO.opE (by intro; simp (disch := omega) only [go_sem]; rfl) (by simp only [pt8, pt2, pt3, pt4, pt6, pt7]; rfl) ?_) | (refine WO.opN (by intro; simp (disch := omega) only [go_sem, Zz.look, Option.bind_eq_bind, ov_all4, Nat.reduceAdd]; rfl) ?_) | (refine WO.specE rfl rfl (c25 _) (by simp only [pt8, pt4, pt5]; rfl) ?_) | (refine WO.specE rfl rfl (c95 _) (by simp only [pt8, pt0, pt4]; rfl) ?_) | (refine WO.specE rfl rfl (c82 _) (by simp only [pt8, pt1, pt4]; rfl) ?_) | (refine WO.specE rfl rfl (c83 _) (by simp only [pt8, pt2, pt4]; rfl) ?_) | (refine WC.seq ?_) | (refine WC.region ?_) | (refine WO.nil ?_) | (simp only [fl1]) | (refine WC.no rfl ?_) | (refine WC.skip ?_))
  refine WO.call rfl rfl ((f96 (fv := .func 34 [] [.pref 0 0 0]) (p := fun v => decide (v ∈ S.js)) (b := 1) (g := 0) (l := [0, 1, 2, 3, 4, 5]) (by decide) rfl rfl (fun G hG v => f97 (l := l) (iv := iv) (d := S.d) hjv (by omega) v ((look_of_get (hG 0 (by decide))).trans rfl))).mono ?_)
  rintro y m' ⟨G0, fc, rfl, rfl, k1, hfl, hft, hG0l, hG0k⟩
  simp only [pt8, pt4]
  have hfr : ([0, 1, 2, 3, 4, 5].filter fun v => !decide (v ∈ S.js)) = freeF S.js := rfl
  rw [hfr] at hft ⊢
  have k0 : Zz.look G0 0 0 = some [l, iv, jv, .int .i64 S.d] := (look_of_get (hG0k 0 (by decide))).trans rfl
  have hG0l' : G0.length = 2 := hG0l
  clear hG0k hfr hG0l
  have hfc : ∀ n, n < (freeF S.js).length → fc[n]? = some (.int .i64 (((freeF S.js).getD n 0 : Nat) : Int)) := fun n hn => ncells_of_take hft rfl hn
  repeat' (first | (refine WO.opE (by intro; simp (disch := omega) only [go_sem, Nat.reduceAdd, k0, hG0l']; rfl) (by simp only [pt8, pt1, pt2, pt5, pt6]; rfl) ?_) | (refine WO.opE (by intro; exact ev_lenS (by simp only [go_sem]; first | rfl | assumption)) (by simp only [pt8, pt7]; rfl) ?_) | (refine WO.opE (by intro; exact mk_tab (by omega) rfl rfl) (by simp only [pt8, pt0]; rfl) ?_) | (refine WC.seq ?_) | (refine WC.region ?_) | (refine WO.nil ?_) | (simp only [fl1]))
  refine WO.call rfl rfl ((f84 (E := E19) rfl (fn_of Tryd.func36 cir36) (n := (freeF S.js).length) (d := 1) (by omega)).mono ?_)
  rintro _ m' ⟨rv0, q0, xs0, bs0, H1, rfl, rfl, hlat0, hext, hbs0, hq0, hqH0⟩
  simp only [pt8, pt3]
  have hrc0 : rv0.cells = some [rv0] := by
    rcases hlat0.gs with ⟨rfl, _⟩ | ⟨g, rfl, _⟩ | ⟨g, n, rfl, _⟩ <;> rfl
  unfold AV.cells at hrc0
  have k0' : Zz.look H1 0 0 = some [l, iv, jv, .int .i64 S.d] := hext.look ((look_left (look_lt k0)).trans k0)
  have k1' : Zz.look H1 1 0 = some fc := hext.look ((look_left (look_lt k1)).trans k1)
  have k2' : Zz.look H1 2 0 = some (List.replicate S.js.length .snil) := by
    refine hext.look ?_
    have : (2 : Nat) = G0.length := by omega
    rw [this]
    exact lk0 rfl
  have hH1 : 3 ≤ H1.length := by have := hext.1; simp at this; omega
  have hq03 : 3 ≤ q0 := by simp at hq0; omega
  have hbs03 : ∀ b ∈ bs0, 3 ≤ b := fun b hb => by have := hbs0 b hb; simp at this; omega
  repeat' (first | (refine WO.opE (by intro; simp (disch := omega) only [go_sem, Nat.reduceAdd, k0', look_left]; rfl) (by simp only [pt8, pt4, pt5, pt7]; rfl) ?_) | (refine WO.opN (by intro; simp (disch := omega) only [go_sem, Option.bind_eq_bind, app_s0, ov_all2, Nat.reduceAdd, lk0]; rfl) ?_) | (refine WO.opE (by intro; exact ev_lenS (by simp only [go_sem]; first | rfl | assumption)) (by simp only [pt8, pt6]; rfl) ?_) | (refine WC.seq ?_) | (refine WC.region ?_) | (refine WO.nil ?_) | (simp only [fl1]) | (refine WC.block ?_))
  obtain ⟨N7, hN7⟩ : ∃ N7, N7 = H1.length := ⟨_, rfl⟩
  have hKM0 : KM (H1 ++ [some ⟨0, [.int .i64 1, rv0]⟩]) [l, iv, jv, .int .i64 S.d] fc (List.replicate S.js.length .snil) rows S N7 0 :=
    ⟨(look_left (by omega)).trans k0', (look_left (by omega)).trans k1', (look_left (by omega)).trans k2', List.length_replicate, fun t _ ht => by simp [List.getD_eq_getElem?_getD, ht], fun t ht => by omega⟩
  have hlat1 : LatM (H1 ++ [some ⟨0, [.int .i64 1, rv0]⟩]) rv0 q0 xs0 bs0 (kerX rows S 0) := hlat0.keep (List.getElem?_append_left hqH0) fun b hb => List.getElem?_append_left (hlat0.blt hb)
  have k7' : Zz.look (H1 ++ [some ⟨0, [.int .i64 1, rv0]⟩]) N7 0 = some [.int .i64 1, rv0] := by rw [hN7]; exact lk0 rfl
  refine WC.loopI (fun m st => ∃ T G tc dl rv q xs bs k, st = ⟨T, G, []⟩ ∧ T.length = 138 ∧ gt T 4 = .pref 0 0 0 ∧ gt T 5 = .sref 1 0 0 1 (freeF S.js).length (some 6) ∧ gt T 6 = .sref 2 0 0 1 S.js.length (some S.js.length) ∧ gt T 7 = .pref N7 0 0 ∧ gt T 37 = jv ∧ gt T 38 = .int .i64 (S.js.length : Nat) ∧ gt T 39 = .int .i64 (k : Nat) ∧ m + k = S.js.length ∧ KM G [l, iv, jv, .int .i64 S.d] fc tc rows S N7 k ∧ Zz.look G N7 0 = some [.int .i64 dl, rv] ∧ LatM G rv q xs bs (kerX rows S k) ∧ q < G.length ∧ 3 ≤ q ∧ ∀ b ∈ bs, 3 ≤ b) ?_ S.js.length _ ⟨_, _, _, 1, rv0, q0, xs0, bs0, 0, rfl, rfl, rfl, rfl, by first | rfl | (rw [hG0l']; rfl), by rw [hN7]; rfl, rfl, rfl, rfl, by omega, hKM0, k7', hlat1, by rw [List.length_append]; omega, hq03, hbs03⟩
  have hN3 : 3 ≤ N7 := by omega
  clear hKM0 hlat1 k7' hlat0 k0' k1' k2' hext hbs0 hq0 hqH0 hrc0 hH1 hN7 k0 k1 hG0l' hbs03 hq03
  rintro m _ ⟨T, G, tc, dl, rv, q, xs, bs, k, rfl, hT, g4, g5, g6, g7, g37, g38, g39, hm, hKM, k7, hlat, hqG, hq3, hbs3⟩
  obtain ⟨f, rfl⟩ := ex138 hT
  clear hT
  replace g4 : f 4 = .pref 0 0 0 := g4
  replace g5 : f 5 = .sref 1 0 0 1 (freeF S.js).length (some 6) := g5
  replace g6 : f 6 = .sref 2 0 0 1 S.js.length (some S.js.length) := g6
  replace g7 : f 7 = .pref N7 0 0 := g7
  replace g37 : f 37 = jv := g37
  replace g38 : f 38 = .int .i64 (S.js.length : Nat) := g38
  replace g39 : f 39 = .int .i64 (k : Nat) := g39
  simp only [g4, g5, g6, g7, g37, g38, g39]
  have k0 := hKM.k0
  have k1 := hKM.k1
  have hXB := kerX_LB hB k
  by_cases hk : k < S.js.length
  · have htn := hKM.tn k (Nat.le_refl _) hk
    have htl := hKM.tl
    have hgs0 : GS 1 G (tc.getD k und) G.length (icells ((tabF rows S k).take 0)) := by rw [htn]; exact .inl ⟨rfl, rfl⟩
    have hix2 : indexAddrAV 1 (.sref 2 0 0 1 S.js.length (some S.js.length)) (.int .i64 (k : Int)) = some (.pref 2 0 k) := by rw [ia_sref, idx_nat hk]; simp
    have htab := tab_len rows S k
    have h7l := look_lt k7
    repeat' (first | (refine WO.opE (by intro; simp (disch := omega) only [go_sem]; rfl) (by simp only [pt8, pt0, pt1, pt2, pt4]; rfl) ?_) | (refine WO.opE (by intro; exact ev_lenS (by simp only [go_sem]; first | rfl | assumption)) (by simp only [pt8, pt3]; rfl) ?_) | (refine WC.seq ?_) | (refine WC.region ?_) | (refine WO.nil ?_) | (simp only [fl1]) | (refine WC.skip ?_) | (refine WC.block ?_) | (refine WC.em2 rfl (fun hp => ?_) (fun hp => ?_) <;> try (exfalso; first | omega | contradiction)))
    refine WC.loopI (fun m2 st => ∃ T G2 v q2 n, st = ⟨T, G2, []⟩ ∧ T.length = 138 ∧ gt T 4 = .pref 0 0 0 ∧ gt T 5 = .sref 1 0 0 1 (freeF S.js).length (some 6) ∧ gt T 6 = .sref 2 0 0 1 S.js.length (some S.js.length) ∧ gt T 7 = .pref N7 0 0 ∧ gt T 8 = .int .i64 (k : Nat) ∧ gt T 37 = jv ∧ gt T 38 = .int .i64 (S.js.length : Nat) ∧ gt T 39 = .int .i64 (k : Nat) ∧ gt T 42 = .sref 1 0 0 1 (freeF S.js).length (some 6) ∧ gt T 43 = .int .i64 ((freeF S.js).length : Nat) ∧ gt T 44 = .int .i64 (n : Nat) ∧ m2 + n = (freeF S.js).length ∧ G.length ≤ G2.length ∧ GS 1 G2 v q2 (icells ((tabF rows S k).take n)) ∧ G.length ≤ q2 ∧ Zz.look G2 2 0 = some (tc.set k v) ∧ ∀ b, b < G.length → b ≠ 2 → G2[b]? = G[b]?) ?_ (freeF S.js).length _ ⟨_, G, tc.getD k und, G.length, 0, rfl, rfl, rfl, rfl, rfl, rfl, rfl, rfl, rfl, rfl, rfl, rfl, rfl, by omega, Nat.le_refl _, hgs0, Nat.le_refl _, by
      have e : tc.set k (tc.getD k und) = tc := by
        apply List.ext_getElem (by simp)
        intro i h1 h2
        by_cases e : k = i
        · subst e; rw [List.getElem_set_self]; simp [List.getD_eq_getElem?_getD, h2]
        · rw [List.getElem_set_ne e]
      rw [e]; exact hKM.k2, fun b _ _ => rfl⟩
    clear g4 g5 g6 g7 g37 g38 g39 f hgs0
    rintro m2 _ ⟨T, G2, v, q2, n, rfl, hT, g4, g5, g6, g7, g8, g37, g38, g39, g42, g43, g44, hm2, hG2, hgs, hq2, k22, hkp⟩
    obtain ⟨f, rfl⟩ := ex138 hT
    clear hT
    replace g4 : f 4 = .pref 0 0 0 := g4
    replace g5 : f 5 = .sref 1 0 0 1 (freeF S.js).length (some 6) := g5
    replace g6 : f 6 = .sref 2 0 0 1 S.js.length (some S.js.length) := g6
    replace g7 : f 7 = .pref N7 0 0 := g7
    replace g8 : f 8 = .int .i64 (k : Nat) := g8
    replace g37 : f 37 = jv := g37
    replace g38 : f 38 = .int .i64 (S.js.length : Nat) := g38
    replace g39 : f 39 = .int .i64 (k : Nat) := g39
    replace g42 : f 42 = .sref 1 0 0 1 (freeF S.js).length (some 6) := g42
    replace g43 : f 43 = .int .i64 ((freeF S.js).length : Nat) := g43
    replace g44 : f 44 = .int .i64 (n : Nat) := g44
    simp only [g4, g5, g6, g7, g8, g37, g38, g39, g42, g43, g44]
    have k02 : Zz.look G2 0 0 = some [l, iv, jv, .int .i64 S.d] := (look_of_get (hkp 0 (look_lt k0) (by omega))).trans k0
    have k12 : Zz.look G2 1 0 = some fc := (look_of_get (hkp 1 (look_lt k1) (by omega))).trans k1
    have htg : (tc.set k v)[k]? = some v := by rw [List.getElem?_set_self (by omega)]
    have hvc : v.cells = some [v] := by
      rcases hgs with ⟨rfl, _⟩ | ⟨g, rfl, _⟩ | ⟨g, n, rfl, _⟩ <;> rfl
    unfold AV.cells at hvc
    have l22 := look_lt k22
    by_cases hn : n < (freeF S.js).length
    · have hfn := hfc n hn
      have hixn : indexAddrAV 1 (.sref 1 0 0 1 (freeF S.js).length (some 6)) (.int .i64 (n : Int)) = some (.pref 1 0 n) := by rw [ia_sref, idx_nat hn]; simp
      have hj6 := (free_mem.1 (getD_mem hn)).1
      have c87 := fun m => s87 (m := m) (d := S.d) (k := k) (j := (freeF S.js).getD n 0) hl hv hiv hjv hB.i hB.nd hB.j (by omega) hn6 hk hj6
      rw [← tab_at hn] at c87
      have htb := tab_bd hB hv (fun i hi => hl.six hi) hk hn
      have hts : (tabF rows S k).take n ++ [(tabF rows S k).getD n 0] = (tabF rows S k).take (n + 1) := by
        rw [List.take_add_one, List.getD_eq_getElem?_getD, List.getElem?_eq_getElem (by omega)]
        rfl
      obtain ⟨v', q', H2, a1, a2, a3, a4, a5⟩ := intPush (L := []) hgs (by rw [List.length_take]; omega) ((tabF rows S k).getD n 0) [some ⟨0, [.int .i64 ((tabF rows S k).getD n 0)]⟩] (lk0 rfl)
      rw [hts] at a2
      simp only [List.length_cons, List.length_nil, Nat.zero_add] at a3 a4 a5
      have k23 : Zz.look H2 2 0 = some (tc.set k v) := (look_of_get ((a5 2 (by omega) (by have := look_lt hKM.k2; omega)).trans (List.getElem?_append_left l22))).trans k22
      have hov := over_one (c := tc.set k v) (k := k) (x := v') (by simp; omega)
      rw [List.set_set] at hov
      have hvc' : v'.cells = some [v'] := by
        rcases a2 with ⟨rfl, _⟩ | ⟨g, rfl, _⟩ | ⟨g, n, rfl, _⟩ <;> rfl
      unfold AV.cells at hvc'
      have l23 := look_lt k23
      have h2G := look_lt hKM.k2
      repeat' (first | (refine WO.opE (by intro; simp (disch := omega) only [go_sem, hixn, hfn, k12]; rfl) (by simp only [pt8, pt2, pt5, pt6, pt7]; rfl) ?_) | (refine WT.spec rfl rfl (fun V => c87 _) (by simp only [pt8, pt1]; rfl) ?_) | (refine WC.seq ?_) | (refine WC.region ?_) | (refine WO.nil ?_) | (simp only [fl1, fl4]) | (refine WC.drawT ?_) | (refine WT.free rfl (by intro; simp (disch := omega) only [go_sem, fillP, Option.bind_eq_bind, zeros, ov_one0, k02, hix2, k22, htg, cut4z]; rfl) rfl (by simp only [pt8, pt0, pt1, pt2, pt3, pt4, pt5, pt6, pt7]; rfl) ?_) | (refine WT.big rfl rfl (by intro; simp (disch := omega) only [go_sem, fillP, Option.bind_eq_bind, zeros, ov_one0, k02, k22, htg, cut4z]; rfl) (by simp (disch := omega) only [go_sem, touch]; rfl) (by first | exact .inl rfl | exact .inr (apart_nil _) | exact .inr trivial | (right; apply apart_mk; simp only [apartL, List.nil_append, List.cons_append, List.getElem?_cons_succ, List.getElem?_cons_zero, Tch.free, and_true, true_and]; first | done | omega)) (by simp only [pt8, pt2, pt5, pt6]; rfl) ?_) | (refine WC.skip ?_) | (refine WC.block ?_) | (refine WC.em2 rfl (fun hp => ?_) (fun hp => ?_) <;> try (exfalso; first | omega | contradiction)))
      refine WT.append (sv := v) (xv := .sref G2.length 0 0 1 1 (some 1)) rfl rfl a1 (apart_nil _) (apart_nil _) (by simp only [pt8, pt3]; rfl) ?_
      repeat' (first | (refine WO.opE (by intro; simp (disch := omega) only [go_sem]; rfl) (by simp only [pt8, pt4, pt5]; rfl) ?_) | (refine WC.region ?_) | (refine WO.nil ?_) | (simp only [fl10]) | (refine WT.nil ?_) | (refine WT.free rfl (by intro; simp (disch := omega) only [go_sem, hix2]; rfl) rfl (by simp only [pt8, pt4]; rfl) ?_) | (refine WT.bigN rfl rfl (by intro; simp (disch := omega) only [go_sem, Option.bind_eq_bind, k23, hov, hvc']; rfl) (by simp (disch := omega) only [go_sem, touch]; rfl) (by first | exact .inl rfl | exact .inr (apart_nil _) | exact .inr trivial | (right; apply apart_mk; simp only [apartL, List.nil_append, List.cons_append, List.getElem?_cons_succ, List.getElem?_cons_zero, Tch.free, and_true, true_and]; first | done | omega)) ?_))
      exact ⟨m2 - 1, by omega, _, H2.set 2 (some ⟨0, tc.set k v'⟩), v', q', n + 1, rfl, rfl, rfl, rfl, rfl, rfl, rfl, rfl, rfl, rfl, rfl, rfl, rfl, by omega, by rw [List.length_set]; omega, by
        rcases a2 with h | ⟨g, h1, h2, h3⟩ | ⟨g, n, h1, h2, h3, h4⟩
        · exact .inl h
        · exact .inr (.inl ⟨g, h1, h2, (look_of_get (List.getElem?_set_ne (by omega))).trans h3⟩)
        · exact .inr (.inr ⟨g, n, h1, h2, h3, (look_of_get (List.getElem?_set_ne (by omega))).trans h4⟩), by omega, look_set l23, fun b hb hb2 => by
        rw [List.getElem?_set_ne (Ne.symm hb2), a5 b (by omega) (by omega), List.getElem?_append_left (by omega), hkp b hb hb2]⟩
    · have hne : n = (freeF S.js).length := by omega
      subst hne
      rw [List.take_of_length_le (by omega)] at hgs
      have k72 : Zz.look G2 N7 0 = some [.int .i64 dl, rv] := (look_of_get (hkp N7 h7l (by omega))).trans k7
      have hlat2 : LatM G2 rv q xs bs (kerX rows S k) := hlat.keep (hkp q hqG (by omega)) fun b hb => hkp b (hlat.blt hb) (by have := hbs3 b hb; omega)
      have hIX : IX G2 N7 v (tabF rows S k) := IX.of_gs hgs (by have := look_lt hKM.k2; omega) (by omega)
      have hKM2 : KM G2 [l, iv, jv, .int .i64 S.d] fc (tc.set k v) rows S N7 (k + 1) := by
        refine ⟨k02, k12, k22, by rw [List.length_set]; exact htl, fun t h1 h2 => ?_, fun t ht => ?_⟩
        · have := hKM.tn t (by omega) h2
          rw [List.getD_eq_getElem?_getD, List.getElem?_set_ne (by omega), ← List.getD_eq_getElem?_getD]
          exact this
        · by_cases e : t = k
          · subst e
            rw [List.getD_eq_getElem?_getD, htg]
            exact hIX
          · have e2 : (tc.set k v).getD t und = tc.getD t und := by rw [List.getD_eq_getElem?_getD, List.getElem?_set_ne (by omega), ← List.getD_eq_getElem?_getD]
            rw [e2]
            rcases hKM.td t (by omega) with h | ⟨b, h1, h2, h3, h4⟩
            · exact .inl h
            · exact .inr ⟨b, h1, h2, by omega, h4.same (hkp b h3 (by omega))⟩
      obtain ⟨bc, hbc, hIM⟩ := hIX.im (by omega)
      have hsk : kerX rows S (k + 1) = behind (narW (kerX rows S k) (tabF rows S k) (absI S.d) (freeF S.js).length) := rfl
      repeat' (first | (refine WO.opE (by intro; simp (disch := omega) only [go_sem]; rfl) (by simp only [pt8, pt5]; rfl) ?_) | (refine WT.spec rfl rfl (fun V => c81 _) (by simp only [pt8, pt5, pt6]; rfl) ?_) | (refine WC.seq ?_) | (refine WC.region ?_) | (refine WO.nil ?_) | (simp only [fl1, fl3, fl4, fl6, fl9]) | (refine WC.drawT ?_) | (refine WT.free rfl (by intro; simp (disch := omega) only [go_sem, k72, hix2, k22, htg, k02]; rfl) rfl (by simp only [pt8, pt0, pt1, pt2, pt3, pt4, pt6, pt7]; rfl) ?_) | (refine WT.big rfl rfl (by intro; simp (disch := omega) only [go_sem, k72, k22, htg, k02]; rfl) (by simp (disch := omega) only [go_sem, touch]; rfl) (by first | exact .inl rfl | exact .inr (apart_nil _) | exact .inr trivial | (right; apply apart_mk; simp only [apartL, List.nil_append, List.cons_append, List.getElem?_cons_succ, List.getElem?_cons_zero, Tch.free, and_true, true_and]; first | done | omega)) (by simp only [pt8, pt2, pt4, pt6]; rfl) ?_) | (refine WC.exit ?_) | (refine WC.em2 rfl (fun hp => ?_) (fun hp => ?_) <;> try (exfalso; first | omega | contradiction)))
      refine WT.callM (fun y H' => ∃ rv' q' xs' bs', y = .agg [.int .i64 (absI S.d), rv'] ∧ LatM H' rv' q' xs' bs' (kerX rows S (k + 1)) ∧ Ext G2 H' ∧ (∀ b ∈ bs', G2.length ≤ b) ∧ G2.length ≤ q' ∧ q' < H'.length) rfl rfl ?_ ?_
      · refine (f99 hs6 hd0 hd9 hlat2 hXB (by omega) hIM htab (fun t ht => tab_bd hB hv (fun i hi => hl.six hi) hk ht) hbc).mono ?_
        rintro y m' ⟨rv', q', xs', bs', H', rfl, rfl, e1, e2, e3, e4, e5⟩
        exact ⟨rfl, ⟨e2.1, fun b hb => .inl (e2.2 b hb)⟩, rv', q', xs', bs', rfl, by rw [hsk]; exact e1, e2, e3, e4, e5⟩
      · rintro _ H' _ ⟨rv', q', xs', bs', rfl, e1, e2, e3, e4, e5⟩
        simp only [pt8, pt6]
        have k7H : Zz.look H' N7 0 = some [.int .i64 dl, rv] := e2.look k72
        have l7H := look_lt k7H
        have hrc' : rv'.cells = some [rv'] := by
          rcases e1.gs with ⟨rfl, _⟩ | ⟨g, rfl, _⟩ | ⟨g, n, rfl, _⟩ <;> rfl
        unfold AV.cells at hrc'
        have hsetN : ∀ b, b ≠ N7 → (H'.set N7 (some ⟨0, [.int .i64 (absI S.d), rv']⟩))[b]? = H'[b]? := fun b hb => List.getElem?_set_ne (Ne.symm hb)
        repeat' (first | (refine WO.opE (by intro; simp (disch := omega) only [go_sem]; rfl) (by simp only [pt8, pt7]; rfl) ?_) | (refine WC.region ?_) | (refine WO.nil ?_) | (simp only [fl10]) | (refine WT.nil ?_) | (refine WT.bigN rfl rfl (by intro; simp (disch := omega) only [go_sem, ov_all2, Nat.reduceAdd, k7H]; rfl) (by simp (disch := omega) only [go_sem, touch]; rfl) (by first | exact .inl rfl | exact .inr (apart_nil _) | exact .inr trivial | (right; apply apart_mk; simp only [apartL, List.nil_append, List.cons_append, List.getElem?_cons_succ, List.getElem?_cons_zero, Tch.free, and_true, true_and]; first | done | omega)) ?_))
        exact ⟨m - 1, by omega, _, H'.set N7 (some ⟨0, [.int .i64 (absI S.d), rv']⟩), tc.set k v, absI S.d, rv', q', xs', bs', k + 1, rfl, rfl, rfl, rfl, rfl, rfl, rfl, rfl, rfl, by omega, hKM2.keep hN3 (by rw [List.length_set]; exact e2.1) fun b h1 h2 => by rw [hsetN b h2, e2.2 b h1], look_set l7H, e1.keep (hsetN _ (by omega)) fun b hb => hsetN _ (by have := e3 b hb; omega), by rw [List.length_set]; exact e5, by omega, fun b hb => by have := e3 b hb; omega⟩
  · have hke : k = S.js.length := by omega
    subst hke
    have hrl := hlat.len
    rw [hXB.len] at hrl
    generalize hXe : kerX rows S S.js.length = X at *
    repeat' (first | (refine WO.opE (by intro; simp (disch := omega) only [go_sem, k7]; rfl) (by simp only [pt8, pt0, pt1, pt3]; rfl) ?_) | (refine WO.opE (by intro; exact ev_lenS (by simp only [go_sem]; first | rfl | assumption)) (by simp only [pt8, pt2]; rfl) ?_) | (refine WC.seq ?_) | (refine WC.region ?_) | (refine WO.nil ?_) | (simp only [fl1]) | (refine WC.exit ?_) | (refine WC.block ?_) | (refine WC.em2 rfl (fun hp => ?_) (fun hp => ?_) <;> try (exfalso; first | omega | contradiction)))
    have hXl := hXB.len
    have hflat0 : flatR ((X.take 0).map (kerR rows S)) = [] := rfl
    obtain ⟨GL, hGL⟩ : ∃ GL, GL = G.length := ⟨_, rfl⟩
    have h2G := look_lt hKM.k2
    refine WC.loopI (fun m st => ∃ T G' ov qo i, st = ⟨T, G', []⟩ ∧ T.length = 138 ∧ gt T 4 = .pref 0 0 0 ∧ gt T 5 = .sref 1 0 0 1 (freeF S.js).length (some 6) ∧ gt T 6 = .sref 2 0 0 1 S.js.length (some S.js.length) ∧ gt T 11 = ov ∧ gt T 73 = rv ∧ gt T 74 = .int .i64 ((freeF S.js).length : Nat) ∧ gt T 75 = .int .i64 (i : Nat) ∧ m + i = (freeF S.js).length ∧ GL ≤ G'.length ∧ (∀ b, b < GL → G'[b]? = G[b]?) ∧ GS 6 G' ov qo (flatR ((X.take i).map (kerR rows S))) ∧ GL ≤ qo) ?_ (freeF S.js).length _ ⟨_, G, .snil, GL, 0, rfl, rfl, rfl, rfl, rfl, rfl, rfl, rfl, rfl, by omega, by omega, fun b _ => rfl, .inl ⟨rfl, hflat0⟩, Nat.le_refl _⟩
    obtain ⟨Gs, hGs⟩ : ∃ Gs, Gs = G := ⟨_, rfl⟩
    rw [← hGs] at hKM k0 k1 k7 hlat hqG hGL h2G ⊢
    clear hGs G g4 g5 g6 g7 g37 g38 g39 f k7
    rintro m _ ⟨T, G, ov, qo, i, rfl, hT, g4, g5, g6, g11, g73, g74, g75, hm, hGl, hkp, hgs, hqo⟩
    obtain ⟨f, rfl⟩ := ex138 hT
    clear hT
    replace g4 : f 4 = .pref 0 0 0 := g4
    replace g5 : f 5 = .sref 1 0 0 1 (freeF S.js).length (some 6) := g5
    replace g6 : f 6 = .sref 2 0 0 1 S.js.length (some S.js.length) := g6
    replace g11 : f 11 = ov := g11
    replace g73 : f 73 = rv := g73
    replace g74 : f 74 = .int .i64 ((freeF S.js).length : Nat) := g74
    replace g75 : f 75 = .int .i64 (i : Nat) := g75
    simp only [g4, g5, g6, g11, g73, g74, g75]
    by_cases hin : i < (freeF S.js).length
    · obtain ⟨gi, ai1, ai2, ai3, hRi⟩ := hlat.at (i := i) (by omega)
      have hai2 : Zz.look G q gi = some xs := (look_of_get (hkp q (by omega))).trans ai2
      have hxc := hRi.cell
      unfold AV.cells at hxc
      have hil := hXB.row i hin
      have hRl := hRi.lt
      generalize hxe : xs.getD i und = x at *
      have hz6 : ([.int .i64 0, .int .i64 0, .int .i64 0, .int .i64 0, .int .i64 0, .int .i64 0] : List AV) = icells (List.replicate 6 0) := rfl
      have k0G : ∀ c : List AV, Zz.look (G ++ [some ⟨0, c⟩]) 0 0 = some [l, iv, jv, .int .i64 S.d] := fun c => (look_left (by omega)).trans ((look_of_get (hkp 0 (by omega))).trans k0)
      have k1G : ∀ c : List AV, Zz.look (G ++ [some ⟨0, c⟩]) 1 0 = some fc := fun c => (look_left (by omega)).trans ((look_of_get (hkp 1 (by omega))).trans k1)
      have k2G : ∀ c : List AV, Zz.look (G ++ [some ⟨0, c⟩]) 2 0 = some tc := fun c => (look_left (by omega)).trans ((look_of_get (hkp 2 (by omega))).trans hKM.k2)
      have hxB : ∀ k, k < (freeF S.js).length → 0 ≤ (X.getD i []).getD k 0 ∧ (X.getD i []).getD k 0 ≤ 1000000000 := fun k hk => by
        have := hXB.el i k hin hk
        have e : ent X i k = (X.getD i []).getD k 0 := rfl
        rw [e] at this
        omega
      repeat' (first | (refine WO.opE (by intro; simp (disch := omega) only [go_sem, ai1, hai2, ai3, hz6]; rfl) (by simp only [pt8, pt1, pt4, pt5, pt6, pt7]; rfl) ?_) | (refine WO.opE (by intro; exact ev_lenS (by simp only [go_sem]; first | rfl | assumption)) (by simp only [pt8, pt0]; rfl) ?_) | (refine WC.seq ?_) | (refine WC.region ?_) | (refine WO.nil ?_) | (simp only [fl1]) | (refine WC.skip ?_) | (refine WC.block ?_) | (refine WC.em2 rfl (fun hp => ?_) (fun hp => ?_) <;> try (exfalso; first | omega | contradiction)))
      refine WC.loopI (fun m2 s => ∃ T w n, s = ⟨T, G ++ [some ⟨0, icells w⟩], []⟩ ∧ T.length = 138 ∧ gt T 4 = .pref 0 0 0 ∧ gt T 5 = .sref 1 0 0 1 (freeF S.js).length (some 6) ∧ gt T 6 = .sref 2 0 0 1 S.js.length (some S.js.length) ∧ gt T 11 = ov ∧ gt T 13 = x ∧ gt T 14 = .pref G.length 0 0 ∧ gt T 73 = rv ∧ gt T 74 = .int .i64 ((freeF S.js).length : Nat) ∧ gt T 75 = .int .i64 (i : Nat) ∧ gt T 79 = .sref 1 0 0 1 (freeF S.js).length (some 6) ∧ gt T 80 = .int .i64 ((freeF S.js).length : Nat) ∧ gt T 81 = .int .i64 (n : Nat) ∧ m2 + n = (freeF S.js).length ∧ w.length = 6 ∧ (∀ t, t < n → w.getD ((freeF S.js).getD t 0) 0 = (X.getD i []).getD t 0) ∧ ∀ t, t < S.js.length → w.getD (S.js.getD t 0) 0 = 0) ?_ (freeF S.js).length _ ⟨_, List.replicate 6 0, 0, rfl, rfl, rfl, rfl, rfl, rfl, rfl, rfl, rfl, rfl, rfl, rfl, rfl, rfl, by omega, rfl, fun t ht => by omega, fun t ht => zero_at 6 _⟩
      clear g4 g5 g6 g11 g73 g74 g75 f ai1 ai3
      rintro m2 _ ⟨T, w, n, rfl, hT, g4, g5, g6, g11, g13, g14, g73, g74, g75, g79, g80, g81, hm2, hwl, hw1, hw2⟩
      obtain ⟨f, rfl⟩ := ex138 hT
      clear hT
      replace g4 : f 4 = .pref 0 0 0 := g4
      replace g5 : f 5 = .sref 1 0 0 1 (freeF S.js).length (some 6) := g5
      replace g6 : f 6 = .sref 2 0 0 1 S.js.length (some S.js.length) := g6
      replace g11 : f 11 = ov := g11
      replace g13 : f 13 = x := g13
      replace g14 : f 14 = .pref G.length 0 0 := g14
      replace g73 : f 73 = rv := g73
      replace g74 : f 74 = .int .i64 ((freeF S.js).length : Nat) := g74
      replace g75 : f 75 = .int .i64 (i : Nat) := g75
      replace g79 : f 79 = .sref 1 0 0 1 (freeF S.js).length (some 6) := g79
      replace g80 : f 80 = .int .i64 ((freeF S.js).length : Nat) := g80
      replace g81 : f 81 = .int .i64 (n : Nat) := g81
      simp only [g4, g5, g6, g11, g13, g14, g73, g74, g75, g79, g80, g81]
      by_cases hn : n < (freeF S.js).length
      · have hfn := hfc n hn
        have hixn : indexAddrAV 1 (.sref 1 0 0 1 (freeF S.js).length (some 6)) (.int .i64 (n : Int)) = some (.pref 1 0 n) := by rw [ia_sref, idx_nat hn]; simp
        have hj6 := (free_mem.1 (getD_mem hn)).1
        have hjn := (free_mem.1 (getD_mem hn)).2
        obtain ⟨g1', o1, c1, b1, b2, b3, _⟩ := hRi.at (i := n) (by omega)
        have b2G : ∀ c : List AV, Zz.look (G ++ [some ⟨0, c⟩]) (bs.getD i 0) g1' = some c1 := fun c => (look_left (by omega)).trans ((look_of_get (hkp _ (by omega))).trans b2)
        have hovw := icells_over (r := w) (j := (freeF S.js).getD n 0) (by omega) ((X.getD i []).getD n 0)
        repeat' (first | (refine WO.opE (by intro; simp (disch := omega) only [go_sem, hixn, hfn, k1G, b1, b2G, b3, Nat.mul_one]; rfl) (by simp only [pt8, pt0, pt1, pt2, pt3, pt4, pt5, pt6, pt7]; rfl) ?_) | (refine WO.opN (by intro; simp (disch := omega) only [go_sem, Option.bind_eq_bind, app_s0, hovw, lk0]; rfl) ?_) | (refine WC.seq ?_) | (refine WC.region ?_) | (refine WO.nil ?_) | (simp only [fl10]) | (refine WC.skip ?_) | (refine WC.block ?_) | (refine WC.em2 rfl (fun hp => ?_) (fun hp => ?_) <;> try (exfalso; first | omega | contradiction)))
        exact ⟨m2 - 1, by omega, _, w.set ((freeF S.js).getD n 0) ((X.getD i []).getD n 0), n + 1, rfl, rfl, rfl, rfl, rfl, rfl, rfl, rfl, rfl, rfl, rfl, rfl, rfl, rfl, by omega, by simpa using hwl, fun t ht => by
          by_cases e : t = n
          · subst e; rw [getD_set_self (by omega)]
          · rw [getD_set_ne fun h => e (getD_inj (free_nodup _) hn (by omega) h).symm]
            exact hw1 t (by omega), fun t ht => by
          rw [getD_set_ne (js_ne ht hn).symm]
          exact hw2 t ht⟩
      · have hne : n = (freeF S.js).length := by omega
        subst hne
        repeat' (first | (refine WO.opE (by intro; simp (disch := omega) only [go_sem, k0G]; rfl) (by simp only [pt8, pt0, pt2, pt5, pt6]; rfl) ?_) | (refine WO.opE (by intro; exact ev_lenS (by simp only [go_sem]; first | rfl | assumption)) (by simp only [pt8, pt7]; rfl) ?_) | (refine WC.seq ?_) | (refine WC.region ?_) | (refine WO.nil ?_) | (simp only [fl1]) | (refine WC.exit ?_) | (refine WC.block ?_) | (refine WC.em2 rfl (fun hp => ?_) (fun hp => ?_) <;> try (exfalso; first | omega | contradiction)))
        refine WC.loopI (fun m3 s => ∃ T w k, s = ⟨T, G ++ [some ⟨0, icells w⟩], []⟩ ∧ T.length = 138 ∧ gt T 4 = .pref 0 0 0 ∧ gt T 5 = .sref 1 0 0 1 (freeF S.js).length (some 6) ∧ gt T 6 = .sref 2 0 0 1 S.js.length (some S.js.length) ∧ gt T 11 = ov ∧ gt T 13 = x ∧ gt T 14 = .pref G.length 0 0 ∧ gt T 73 = rv ∧ gt T 74 = .int .i64 ((freeF S.js).length : Nat) ∧ gt T 75 = .int .i64 (i : Nat) ∧ gt T 94 = jv ∧ gt T 95 = .int .i64 (S.js.length : Nat) ∧ gt T 96 = .int .i64 (k : Nat) ∧ m3 + k = S.js.length ∧ w.length = 6 ∧ (∀ t, t < (freeF S.js).length → w.getD ((freeF S.js).getD t 0) 0 = (X.getD i []).getD t 0) ∧ (∀ t, t < k → w.getD (S.js.getD t 0) 0 = (-sumK rows S (X.getD i []) t (freeF S.js).length).tdiv S.d) ∧ ∀ t, k ≤ t → t < S.js.length → w.getD (S.js.getD t 0) 0 = 0) ?_ S.js.length _ ⟨_, w, 0, rfl, rfl, rfl, rfl, rfl, rfl, rfl, rfl, rfl, rfl, rfl, rfl, rfl, rfl, by omega, hwl, hw1, fun t ht => by omega, fun t _ ht => hw2 t ht⟩
        clear g4 g5 g6 g11 g13 g14 g73 g74 g75 g79 g80 g81 f hwl hw1 hw2
        rintro m3 _ ⟨T, w, k, rfl, hT, g4, g5, g6, g11, g13, g14, g73, g74, g75, g94, g95, g96, hm3, hwl, hw0, hw1, hw2⟩
        obtain ⟨f, rfl⟩ := ex138 hT
        clear hT
        replace g4 : f 4 = .pref 0 0 0 := g4
        replace g5 : f 5 = .sref 1 0 0 1 (freeF S.js).length (some 6) := g5
        replace g6 : f 6 = .sref 2 0 0 1 S.js.length (some S.js.length) := g6
        replace g11 : f 11 = ov := g11
        replace g13 : f 13 = x := g13
        replace g14 : f 14 = .pref G.length 0 0 := g14
        replace g73 : f 73 = rv := g73
        replace g74 : f 74 = .int .i64 ((freeF S.js).length : Nat) := g74
        replace g75 : f 75 = .int .i64 (i : Nat) := g75
        replace g94 : f 94 = jv := g94
        replace g95 : f 95 = .int .i64 (S.js.length : Nat) := g95
        replace g96 : f 96 = .int .i64 (k : Nat) := g96
        simp only [g4, g5, g6, g11, g13, g14, g73, g74, g75, g94, g95, g96]
        by_cases hk : k < S.js.length
        · obtain ⟨t2, hat2⟩ := hjv.at hk
          have hj6 : S.js.getD k 0 < 6 := hB.j.2 _ (getD_mem hk)
          have htb := fun n (hn : n < (freeF S.js).length) => tab_bd hB hv (fun i hi => hl.six hi) hk hn
          have hsb := sumK_bd (k := k) hxB htb
          have hs0 : sumK rows S (X.getD i []) k 0 = 0 := rfl
          repeat' (first | (refine WO.opE (by intro; simp (disch := omega) only [go_sem, hat2]; rfl) (by simp only [pt8, pt1, pt2, pt3, pt4, pt5, pt7]; rfl) ?_) | (refine WO.opE (by intro; exact ev_lenS (by simp only [go_sem]; first | rfl | assumption)) (by simp only [pt8, pt6]; rfl) ?_) | (refine WC.seq ?_) | (refine WC.region ?_) | (refine WO.nil ?_) | (simp only [fl1]) | (refine WC.skip ?_) | (refine WC.block ?_) | (refine WC.em2 rfl (fun hp => ?_) (fun hp => ?_) <;> try (exfalso; first | omega | contradiction)))
          refine WC.loopI (fun m4 s => ∃ T w n, s = ⟨T, G ++ [some ⟨0, icells w⟩], []⟩ ∧ T.length = 138 ∧ gt T 4 = .pref 0 0 0 ∧ gt T 5 = .sref 1 0 0 1 (freeF S.js).length (some 6) ∧ gt T 6 = .sref 2 0 0 1 S.js.length (some S.js.length) ∧ gt T 11 = ov ∧ gt T 13 = x ∧ gt T 14 = .pref G.length 0 0 ∧ gt T 17 = .int .i64 (k : Nat) ∧ gt T 18 = .int .i64 ((S.js.getD k 0 : Nat) : Int) ∧ gt T 73 = rv ∧ gt T 74 = .int .i64 ((freeF S.js).length : Nat) ∧ gt T 75 = .int .i64 (i : Nat) ∧ gt T 94 = jv ∧ gt T 95 = .int .i64 (S.js.length : Nat) ∧ gt T 96 = .int .i64 (k : Nat) ∧ gt T 101 = .sref 1 0 0 1 (freeF S.js).length (some 6) ∧ gt T 102 = .int .i64 ((freeF S.js).length : Nat) ∧ gt T 103 = .int .i64 (n : Nat) ∧ m4 + n = (freeF S.js).length ∧ w.length = 6 ∧ (∀ t, t < (freeF S.js).length → w.getD ((freeF S.js).getD t 0) 0 = (X.getD i []).getD t 0) ∧ (∀ t, t < k → w.getD (S.js.getD t 0) 0 = (-sumK rows S (X.getD i []) t (freeF S.js).length).tdiv S.d) ∧ (w.getD (S.js.getD k 0) 0 = -sumK rows S (X.getD i []) k n) ∧ ∀ t, k + 1 ≤ t → t < S.js.length → w.getD (S.js.getD t 0) 0 = 0) ?_ (freeF S.js).length _ ⟨_, w, 0, rfl, rfl, rfl, rfl, rfl, rfl, rfl, rfl, rfl, rfl, rfl, rfl, rfl, rfl, rfl, rfl, rfl, rfl, rfl, by omega, hwl, hw0, hw1, by rw [hs0]; exact hw2 k (Nat.le_refl _) hk, fun t h1 h2 => hw2 t (by omega) h2⟩
          clear g4 g5 g6 g11 g13 g14 g73 g74 g75 g94 g95 g96 f hwl hw0 hw1 hw2
          rintro m4 _ ⟨T, w, n, rfl, hT, g4, g5, g6, g11, g13, g14, g17, g18, g73, g74, g75, g94, g95, g96, g101, g102, g103, hm4, hwl, hw0, hw1, hwk, hw2⟩
          obtain ⟨f, rfl⟩ := ex138 hT
          clear hT
          replace g4 : f 4 = .pref 0 0 0 := g4
          replace g5 : f 5 = .sref 1 0 0 1 (freeF S.js).length (some 6) := g5
          replace g6 : f 6 = .sref 2 0 0 1 S.js.length (some S.js.length) := g6
          replace g11 : f 11 = ov := g11
          replace g13 : f 13 = x := g13
          replace g14 : f 14 = .pref G.length 0 0 := g14
          replace g17 : f 17 = .int .i64 (k : Nat) := g17
          replace g18 : f 18 = .int .i64 ((S.js.getD k 0 : Nat) : Int) := g18
          replace g73 : f 73 = rv := g73
          replace g74 : f 74 = .int .i64 ((freeF S.js).length : Nat) := g74
          replace g75 : f 75 = .int .i64 (i : Nat) := g75
          replace g94 : f 94 = jv := g94
          replace g95 : f 95 = .int .i64 (S.js.length : Nat) := g95
          replace g96 : f 96 = .int .i64 (k : Nat) := g96
          replace g101 : f 101 = .sref 1 0 0 1 (freeF S.js).length (some 6) := g101
          replace g102 : f 102 = .int .i64 ((freeF S.js).length : Nat) := g102
          replace g103 : f 103 = .int .i64 (n : Nat) := g103
          simp only [g4, g5, g6, g11, g13, g14, g17, g18, g73, g74, g75, g94, g95, g96, g101, g102, g103]
          have hia := icells_at (r := w) (j := S.js.getD k 0) (by omega)
          rw [hwk] at hia
          have hovw := fun y => icells_over (r := w) (j := S.js.getD k 0) (by omega) y
          by_cases hn : n < (freeF S.js).length
          · obtain ⟨g1', o1, c1, b1, b2, b3, _⟩ := hRi.at (i := n) (by omega)
            have b2G : ∀ c : List AV, Zz.look (G ++ [some ⟨0, c⟩]) (bs.getD i 0) g1' = some c1 := fun c => (look_left (by omega)).trans ((look_of_get (hkp _ (by omega))).trans b2)
            have htl := tab_len rows S k
            obtain ⟨bt, hbt1, hbt2⟩ : ∃ bt, bt < Gs.length ∧ RowM Gs (tc.getD k und) bt (tabF rows S k) := by
              rcases hKM.td k hk with ⟨_, h⟩ | ⟨b, _, _, h1, h2⟩
              · rw [h] at htl; simp at htl; omega
              · exact ⟨b, h1, h2⟩
            have htc : tc[k]? = some (tc.getD k und) := by
              rw [List.getD_eq_getElem?_getD, List.getElem?_eq_getElem (by rw [hKM.tl]; exact hk), Option.getD_some]
            have htcc := hbt2.cell
            unfold AV.cells at htcc
            obtain ⟨g2', o2, c2, d1, d2, d3, _⟩ := hbt2.at (i := n) (by omega)
            have d2G : ∀ c : List AV, Zz.look (G ++ [some ⟨0, c⟩]) bt g2' = some c2 := fun c => (look_left (by omega)).trans ((look_of_get (hkp _ (by omega))).trans d2)
            generalize tc.getD k und = tv at *
            have hix2 : indexAddrAV 1 (.sref 2 0 0 1 S.js.length (some S.js.length)) (.int .i64 (k : Int)) = some (.pref 2 0 k) := by rw [ia_sref, idx_nat hk]; simp
            have hse : sumK rows S (X.getD i []) k (n + 1) = sumK rows S (X.getD i []) k n + (tabF rows S k).getD n 0 * (X.getD i []).getD n 0 := rfl
            have hmul := mul_bd (htb n hn) (hxB n hn)
            have hsk := hsb n (by omega)
            have hsk1 := hsb (n + 1) (by omega)
            have hse2 : -sumK rows S (X.getD i []) k n - (tabF rows S k).getD n 0 * (X.getD i []).getD n 0 = -sumK rows S (X.getD i []) k (n + 1) := by omega
            repeat' (first | (refine WO.opE (by intro; simp (disch := omega) only [go_sem, hia, hix2, k2G, htc, d1, d2G, d3, b1, b2G, b3, lk0, hse2, Nat.mul_one]; rfl) (by simp only [pt8, pt0, pt1, pt2, pt3, pt4, pt5, pt6, pt7]; rfl) ?_) | (refine WO.opN (by intro; simp (disch := omega) only [go_sem, Option.bind_eq_bind, app_s0, hovw, lk0]; rfl) ?_) | (refine WC.seq ?_) | (refine WC.region ?_) | (refine WO.nil ?_) | (simp only [fl1, fl10]) | (refine WC.calm rfl ?_) | (refine WC.skip ?_) | (refine WC.block ?_) | (refine WC.em2 rfl (fun hp => ?_) (fun hp => ?_) <;> try (exfalso; first | omega | contradiction)))
            exact ⟨m4 - 1, by omega, _, w.set (S.js.getD k 0) (-sumK rows S (X.getD i []) k (n + 1)), n + 1, rfl, rfl, rfl, rfl, rfl, rfl, rfl, rfl, rfl, rfl, rfl, rfl, rfl, rfl, rfl, rfl, rfl, rfl, rfl, by omega, by simpa using hwl, fun t ht => by
              rw [getD_set_ne (js_ne hk ht)]
              exact hw0 t ht, fun t ht => by
              rw [getD_set_ne fun h => by have := getD_inj hB.j.1 hk (by omega) h; omega]
              exact hw1 t ht, by rw [getD_set_self (by omega)], fun t h1 h2 => by
              rw [getD_set_ne fun h => by have := getD_inj hB.j.1 hk (by omega) h; omega]
              exact hw2 t h1 h2⟩
          · have hne : n = (freeF S.js).length := by omega
            subst hne
            have hd0' : ¬ S.d = 0 := hB.ne
            have hsk := hsb (freeF S.js).length (Nat.le_refl _)
            have htdb := tdiv_bd (a := -sumK rows S (X.getD i []) k (freeF S.js).length) (M := 9000000000000000000) hd0' (by omega)
            repeat' (first | (refine WO.opE (by intro; simp (disch := omega) only [go_sem, k0G, hia, lk0, hd0', if_false, Nat.mul_one]; rfl) (by simp only [pt8, pt0, pt1, pt2, pt3, pt4, pt5, pt6, pt7]; rfl) ?_) | (refine WO.opN (by intro; simp (disch := omega) only [go_sem, Option.bind_eq_bind, app_s0, hovw, lk0]; rfl) ?_) | (refine WC.seq ?_) | (refine WC.region ?_) | (refine WO.nil ?_) | (simp only [fl1, fl3, fl6, fl9, fl10]) | (refine WC.calm rfl ?_) | (refine WC.exit ?_) | (refine WC.em2 rfl (fun hp => ?_) (fun hp => ?_) <;> try (exfalso; first | omega | contradiction)))
            exact ⟨m3 - 1, by omega, _, w.set (S.js.getD k 0) ((-sumK rows S (X.getD i []) k (freeF S.js).length).tdiv S.d), k + 1, rfl, rfl, rfl, rfl, rfl, rfl, rfl, rfl, rfl, rfl, rfl, rfl, rfl, rfl, by omega, by simpa using hwl, fun t ht => by
              rw [getD_set_ne (js_ne hk ht)]
              exact hw0 t ht, fun t ht => by
              by_cases e : t = k
              · subst e; rw [getD_set_self (by omega)]
              · rw [getD_set_ne fun h => by have := getD_inj hB.j.1 hk (by omega) h; omega]
                exact hw1 t (by omega), fun t h1 h2 => by
              rw [getD_set_ne fun h => by have := getD_inj hB.j.1 hk (by omega) h; omega]
              exact hw2 t h1 h2⟩
        · have hke : k = S.js.length := by omega
          subst hke
          have hwe : w = kerR rows S (X.getD i []) := kerR_of hwl hB.j.1 hw1 hw0
          have hnext : (X.take i).map (kerR rows S) ++ [w] = (X.take (i + 1)).map (kerR rows S) := by
            rw [hwe, List.take_add_one, List.map_append, List.getElem?_eq_getElem (by omega), List.getD_eq_getElem?_getD, List.getElem?_eq_getElem (by omega)]
            rfl
          have hmlw : (icells w).length = 6 := by rw [icells_len, hwl]
          have hcutw := icells_cut hwl
          have hovw := fun x0 x1 x2 x3 x4 x5 => icells_over6 hwl (x0 := x0) (x1 := x1) (x2 := x2) (x3 := x3) (x4 := x4) (x5 := x5)
          obtain ⟨ov', q', H2, a1, a2, a3, a4, a5⟩ := rowPush (L := []) hgs kerR_six hwl (by simp; omega) [some ⟨0, icells w⟩, some ⟨0, icells w⟩] (lk1 rfl)
          rw [hnext] at a2
          simp only [List.length_cons, List.length_nil, Nat.zero_add, Nat.reduceAdd] at a3 a4
          have hk5 : ∀ j, j < G.length → j ≠ qo → H2[j]? = G[j]? := fun j h1 h2 => by rw [a5 j (by simp; omega) h2, List.getElem?_append_left h1]
          repeat' (first | (refine WO.opE (by intro; simp (disch := omega) only [go_sem, fillP, Option.bind_eq_bind, List.append_assoc, zeros, List.length_append, hcutw, hovw, hmlw, lk0]; rfl) (by simp only [pt8, pt0, pt1, pt3, pt4, pt5, pt6]; rfl) ?_) | (refine WO.opE (by intro; rw [ev_append]; exact a1) (by simp only [pt8, pt7]; rfl) ?_) | (refine WC.seq ?_) | (refine WC.region ?_) | (refine WO.nil ?_) | (simp only [fl10]) | (refine WC.exit ?_) | (refine WC.em2 rfl (fun hp => ?_) (fun hp => ?_) <;> try (exfalso; first | omega | contradiction)))
          exact ⟨m - 1, by omega, _, H2, ov', q', i + 1, rfl, rfl, rfl, rfl, rfl, rfl, rfl, rfl, rfl, by omega, by omega, fun b hb => by rw [hk5 b (by omega) (by omega), hkp b hb], a2, by omega⟩
    · have hie : i = (freeF S.js).length := by omega
      subst hie
      rw [List.take_of_length_le (by omega), ← hker] at hgs
      repeat' (first | (refine WO.opE (by intro; simp (disch := omega) only [go_sem]; rfl) (by simp only [pt8, pt1, pt2, pt3, pt4]; rfl) ?_) | (refine WC.seq ?_) | (refine WC.region ?_) | (refine WO.nil ?_) | (simp only [fl1]) | (refine WC.exit ?_) | (refine WC.ret ?_) | (refine WC.em2 rfl (fun hp => ?_) (fun hp => ?_) <;> try (exfalso; first | omega | contradiction)))
      exact ⟨_, rfl, ov, qo, rfl, hgs⟩
noncomputable def E20 : Env := E19.put 25 (borrowE E19 25)
theorem E20_ok : EnvOk Tryd.prog E20 := Env.put_ok E19_ok (borrowE_ok E19_ok (callable Tryd.func25 (by kernel_rfl)))
set_option maxRecDepth 100000
set_option maxHeartbeats 8000000
noncomputable def E21 : Env := E20
theorem E21_ok : EnvOk Tryd.prog E21 := E20_ok
noncomputable def E22 : Env := E21
def run (s : Nat) : Nat → List Nat
  | 0 => []
  | k + 1 => s :: run (s + 1) k
def nextC (n : Nat) : List Nat → Option (List Nat)
  | [] => none
  | a :: t => match nextC n t with
    | some t' => some (a :: t')
    | none => if a + (t.length + 1) < n then some (run (a + 1) (t.length + 1)) else none
def iterC (n : Nat) : Nat → List Nat → List (List Nat)
  | 0, _ => []
  | f + 1, at_ => at_ :: match nextC n at_ with
    | some a' => iterC n f a'
    | none => []
def combos (n k : Nat) : List (List Nat) := iterC n 531441 (run 0 k)
def Inc (n : Nat) : Nat → List Nat → Prop
  | _, [] => True
  | s, a :: t => s ≤ a ∧ a < n ∧ Inc n (a + 1) t
theorem Inc.run {n : Nat} : ∀ {k s : Nat}, s + k ≤ n → Inc n s (run s k)
  | 0, _, _ => trivial
  | k + 1, s, h => ⟨Nat.le_refl _, by omega, Inc.run (by omega)⟩
def val (n : Nat) : List Nat → Nat
  | [] => 0
  | a :: t => a * (n + 1) ^ t.length + val n t
def lexLe : List Nat → List Nat → Prop
  | a :: t, c :: u => a < c ∨ a = c ∧ lexLe t u
  | _, _ => True
set_option maxRecDepth 100000
set_option maxHeartbeats 8000000
noncomputable def E23 : Env := E22
set_option maxRecDepth 100000
set_option maxHeartbeats 8000000
def gStep (rows : List (List Int)) (is : List Nat) (g : Nat) (js : List Nat) : Nat := Nat.gcd g (absI (minorF (ent rows) is js)).toNat
def gRow (rows : List (List Int)) (k : Nat) (g : Nat) (is : List Nat) : Nat := (combos 6 k).foldl (gStep rows is) g
def divK (rows : List (List Int)) (k : Nat) : Nat := (combos rows.length k).foldl (gRow rows k) 0
def divF (rows : List (List Int)) : List Int := (List.range (rankF rows)).map fun i => ((divK rows (i + 1) : Nat) : Int)
def divR (rows : List (List Int)) : List Int := if VM rows then divF rows else []
noncomputable def E24 : Env := E23
set_option maxRecDepth 100000
set_option maxHeartbeats 8000000
theorem newV_two {H : Hp} {v x : AV} {c : Int} (h : Zz.newA H v = some x) : newV H (.tuple [v, .int .i64 c]) = some (.tuple [x, .int .i64 c]) := by
  simp only [newV, newT, h]
  rfl
theorem GS.newA {sz : Nat} {H : Hp} {v : AV} {q : Nat} {c : List AV} (h : GS sz H v q c) : Zz.newA H v = Zz.resC H v := by
  rcases h with ⟨rfl, _⟩ | ⟨g, rfl, _⟩ | ⟨g, n, rfl, _⟩ <;> rfl
theorem intS_ne {a b : List Int} : (a = b) ↔ a.length = b.length ∧ ∀ i, i < a.length → a.getD i 0 = b.getD i 0 := ⟨fun h => by subst h; exact ⟨rfl, fun _ _ => rfl⟩, fun h => getD_ext h.1 h.2⟩
theorem cellsEq_int : ∀ {r r' : List Int}, r.length = r'.length → cellsEq (List.replicate r.length true) (r.map (.int .i64)) (r'.map (.int .i64)) = some (decide (r = r'))
  | [], [], _ => rfl
  | [], _ :: _, h => by simp at h
  | _ :: _, [], h => by simp at h
  | a :: r, b :: r', h => by
    have ih := cellsEq_int (r := r) (r' := r') (by simpa using h)
    simp only [List.map_cons, List.length_cons, List.replicate_succ, cellsEq, ih, cellEq, Option.map_some]
    by_cases e1 : a = b
    · subst e1
      by_cases e2 : r = r'
      · subst e2; simp
      · simp [e2]
    · simp [e1]
theorem x25 {l l' : AV} {rows : List (List Int)} (hl : RwL l rows) (hmax : rows.length < 9223372036854775807) {m : Mem} (h0 : Zz.byVal m.heap l' = some l) : borrowX E1 24 [l'] m = some (.bool (decide (VM rows)), m) :=
  borrowX_of (byVals_cons h0 rfl) ((f25 hl hmax).mono fun y m' h => by rw [h]; rfl)
theorem x35 {l l' : AV} {rows : List (List Int)} (hl : RwL l rows) (hmax : rows.length < 9223372036854775807) {m : Mem} (h0 : Zz.byVal m.heap l' = some l) : borrowX E8 39 [l'] m = some (.tuple [.int .i64 (if VM rows then (rankF rows : Int) else 0), .int .i64 (if VM rows then 0 else 1)], m) :=
  borrowX_of (byVals_cons h0 rfl) ((f35 hl hmax).mono fun y m' h => by rw [h]; rfl)
theorem rwl_nil : RwL .snil [] := ⟨fun c hc => (by cases hc), .inl ⟨rfl, rfl⟩⟩
noncomputable def E30 : Env := E24.put 24 (borrowX E1 24)
noncomputable def E31 : Env := E30
noncomputable def E32 : Env := E31
noncomputable def E33 : Env := E32
noncomputable def E34 : Env := E33
noncomputable def E35 : Env := E34.put 25 (borrowX E19 25)
noncomputable def E36 : Env := E35
noncomputable def E37 : Env := E36
noncomputable def E38 : Env := E37
noncomputable def E39 : Env := E38.put 39 (borrowX E8 39)
noncomputable def E40 : Env := E39
def lit (rows : List (List Int)) : AV := .sval true rows.length (flatR rows)
theorem lit_rw {rows : List (List Int)} (h : ∀ r ∈ rows, r.length = 6) : RwL (lit rows) rows := ⟨fun c hc => by
  obtain ⟨r, hr, rfl⟩ := List.mem_map.1 hc
  rw [icells_len]
  exact h r hr, .inr ⟨true, by rw [List.length_map]; rfl⟩⟩
theorem hd1 : hermR [[4,0,0,0,0,0],[6,0,0,0,0,0]] = [[2,0,0,0,0,0]] := by kernel_rfl
theorem hd2 : hermR [[12,19,28,0,0,0],[19,30,44,0,0,0]] = [[1,0,-4,0,0,0],[0,1,4,0,0,0]] := by kernel_rfl
theorem hv1 : VM [[-4,4,-1,0,0,0],[8,-8,2,0,0,0]] := by decide +kernel
theorem hv2 : ¬ VM [[1000000000,1,0,0,0,0]] := by decide +kernel
noncomputable def E41 : Env := E40
end Go.Proofs.YtnilimjkibimcaaDoor

