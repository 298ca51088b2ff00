import Derived.Test.YtnilimjkibimcaaME
import Derived.Test.YtnilimjkibimcaaIrN

set_option linter.unusedSimpArgs false
set_option linter.unusedVariables false

namespace Go.Proofs.Ytnilimjkibimcaa
open Go.Zz
def sumN (c x : List Int) (d : Int) : Nat → Int
 | 0 => 0
 | k + 1 => (sumN c x d k + c.getD k 0 % d * (x.getD k 0 % d)) % d
def narV (X : List (List Int)) (c : List Int) (d : Int) (s i : Nat) : List Int := sumN c (X.getD i []) d s :: X.getD i []
def narA (X : List (List Int)) (c : List Int) (d : Int) (s : Nat) : Nat → List (List Int)
 | 0 => multF (s + 1) (s + 1) d
 | i + 1 => (addI (s + 1) (narA X c d s i) (narV X c d s i) d (s + 1)).1
def divA (X : List (List Int)) (c : List Int) (d : Int) (s : Nat) : Nat → List (List Int)
 | 0 => multF (s + 1) (s + 1) d
 | i + 1 => (insI (s + 1) (divA X c d s i) (narV X c d s i) d (s + 1)).1
def narW (X : List (List Int)) (c : List Int) (d : Int) (s : Nat) : List (List Int) := redI (s + 1) (narA X c d s s) d (s + 1)
def divW (X : List (List Int)) (c : List Int) (d : Int) (s : Nat) : List (List Int) := redI (s + 1) (divA X c d s s) d (s + 1)
def behind (W : List (List Int)) : List (List Int) := (W.drop 1).map (·.drop 1)
def IM (H : Hp) (x : AV) (b : Nat) (r : List Int) : Prop := (x = .snil ∧ r = []) ∨ RowM H x b r
theorem IM.len {H : Hp} {x : AV} {b : Nat} {r : List Int} (h : IM H x b r) : slen x = some r.length := by
 rcases h with ⟨rfl, rfl⟩ | h
 ·rfl
 ·exact h.len
theorem IM.row {H : Hp} {x : AV} {b : Nat} {r : List Int} (h : IM H x b r) (hr : 0 < r.length) : RowM H x b r := by
 rcases h with ⟨rfl, rfl⟩ | h
 ·simp at hr
 ·exact h
theorem RowM.scells {H : Hp} {x : AV} {b : Nat} {r : List Int} (h : RowM H x b r) : Zz.scells H 1 x = some (icells r) := by
 obtain ⟨g, off, cap, c, rfl, h1, h2, h3, _⟩ := h
 simp only [Zz.scells, if_true, h1, Option.bind_some, Zz.cut]
 rw [if_pos (by omega), Nat.mul_one, h3]
set_option maxRecDepth 100000
set_option maxHeartbeats 8000000
noncomputable def E19 : Env := E18.put 83 (borrowR E6 83)
theorem E19_ok : EnvOk Try.prog E19 := Env.put_ok E18_ok (borrowR_ok E6_ok (callable Try.func83 (by kernel_rfl)))
set_option maxRecDepth 100000
set_option maxHeartbeats 8000000
theorem f134 {fv : AV} {p : Nat → Bool} {b g : Nat} {l : List Nat} (hl : l.length < 1000000) {H : Hp} {L : List (Option ALoop)} (hk : Zz.look H b g = some (ncells l)) (hfv : ∀ v : Nat, WF E19 fv [.int .i64 (v : Nat)] ⟨H, L⟩ fun y m' => y = .bool (p v) ∧ m' = ⟨H, L⟩) :
  WF E19 (.func 134 [] []) [.sref b g 0 1 l.length (some l.length), fv] ⟨H, L⟩ fun y m' => (y = .int .i64 (-1) ∧ (∀ t, t < l.length → p (l.getD t 0) = false) ∨ ∃ i : Nat, i < l.length ∧ y = .int .i64 (i : Int) ∧ p (l.getD i 0) = true ∧ ∀ t, t < i → p (l.getD t 0) = false) ∧ m' = ⟨H, L⟩ := by
 refine WF.fnE rfl (fn_of Try.func134 cir134) (by show 2 ≤ 19; decide) ?_
 unfold ir134
 simp only [padTo, List.replicate, zNA, zAN]
 repeat' (first | (refine WO.opE (by intro; simp (disch := omega) only [go_sem]; rfl) (by simp only [pt8, pt0, pt4, pt6]; rfl) ?_) | (refine WO.opE (by intro; exact ev_lenS (by simp only [go_sem]; first | rfl | assumption)) (by simp only [pt7]; rfl) ?_) | (refine WC.seq ?_) | (refine WC.region ?_) | (refine WO.nil ?_) | (simp only [fl1]) | (refine WC.block ?_))
 refine WC.loopI (fun m s => ∃ T i, s = ⟨T, H, L⟩ ∧ T.length = 19 ∧ gt T 0 = .sref b g 0 1 l.length (some l.length) ∧ gt T 1 = fv ∧ gt T 6 = .sref b g 0 1 l.length (some l.length) ∧ gt T 7 = .int .i64 (l.length : Nat) ∧ gt T 8 = .int .i64 (i : Nat) ∧ m + i = l.length ∧ ∀ t, t < i → p (l.getD t 0) = false) ?_ l.length _ ⟨_, 0, rfl, rfl, rfl, rfl, rfl, rfl, rfl, by omega, fun t ht => by omega⟩
 rintro m _ ⟨T, i, rfl, hT, g0, g1, g6, g7, g8, hm, hi⟩
 obtain ⟨f, rfl⟩ := ex19 hT
 clear hT
 replace g0 : f 0 = .sref b g 0 1 l.length (some l.length) := g0
 replace g1 : f 1 = fv := g1
 replace g6 : f 6 = .sref b g 0 1 l.length (some l.length) := g6
 replace g7 : f 7 = .int .i64 (l.length : Nat) := g7
 replace g8 : f 8 = .int .i64 (i : Nat) := g8
 simp only [g0, g1, g6, g7, g8]
 by_cases hin : i < l.length
 ·have hat := ncells_get hin
  have hix : indexAddrAV 1 (.sref b g 0 1 l.length (some l.length)) (.int .i64 (i : Int)) = some (.pref b g i) := by rw [ia_sref, idx_nat hin]; simp
  repeat' (first | (refine WO.opE (by intro; simp (disch := omega) only [go_sem, hix, hk, hat]; rfl) (by simp only [pt8, pt1, pt2, pt3, pt4, pt5, pt6, pt7]; rfl) ?_) | (refine WC.seq ?_) | (refine WC.region ?_) | (refine WO.nil ?_) | (simp only [fl1]) | (refine WC.skip ?_) | (refine WC.block ?_) | (refine WC.em2 rfl (fun hp => ?_) (fun hp => ?_) <;> try (exfalso; first | omega | contradiction)))
  refine WO.call rfl rfl ((hfv _).mono ?_)
  rintro y m' ⟨rfl, rfl⟩
  simp only [pt8, pt0]
  cases hp : p (l.getD i 0)
  ·skip
   repeat' (first | (refine WO.opE (by intro; simp (disch := omega) only [go_sem]; rfl) (by simp only [pt8, pt0, pt2]; rfl) ?_) | (refine WC.region ?_) | (refine WO.nil ?_) | (simp only [fl10]) | (refine WC.no rfl ?_) | (refine WC.skip ?_))
   exact ⟨m - 1, by omega, _, i + 1, rfl, rfl, rfl, rfl, rfl, rfl, rfl, by omega, fun t ht => by
    by_cases e : t = i
    ·subst e; exact hp
    ·exact hi t (by omega)⟩
  ·skip
   repeat' (first | (refine WO.opE (by intro; simp (disch := omega) only [go_sem]; rfl) (by simp only [pt8, pt1, pt4]; rfl) ?_) | (refine WC.seq ?_) | (refine WC.region ?_) | (refine WO.nil ?_) | (simp only [fl1, fl2, fl5, fl8]) | (refine WC.yes rfl ?_) | (refine WC.ret ?_))
   exact ⟨_, rfl, .inr ⟨i, hin, rfl, hp, hi⟩, rfl⟩
 ·have hie : i = l.length := by omega
  subst hie
  repeat' (first | (refine WO.opE (by intro; simp (disch := omega) only [go_sem, Int.reduceNeg, Int.reduceAdd]; rfl) (by simp only [pt8, pt1, pt4]; rfl) ?_) | (refine WC.seq ?_) | (refine WC.region ?_) | (refine WO.nil ?_) | (simp only [fl1]) | (refine WC.exit ?_) | (refine WC.ret ?_) | (refine WC.em2 rfl (fun hp => ?_) (fun hp => ?_) <;> try (exfalso; first | omega | contradiction)))
  exact ⟨_, rfl, .inl ⟨rfl, hi⟩, rfl⟩
def bwdF (rows : List (List Int)) : Fr := frame rows [5, 4, 3, 2, 1, 0] 6
def freeF (js : List Nat) : List Nat := [0, 1, 2, 3, 4, 5].filter fun v => !decide (v ∈ js)
def tabF (rows : List (List Int)) (S : Fr) (k : Nat) : List Int := (freeF S.js).map fun j => minorF (ent rows) S.is (S.js.set k j)
def kerX (rows : List (List Int)) (S : Fr) : Nat → List (List Int)
 | 0 => multF (freeF S.js).length (freeF S.js).length 1
 | k + 1 => behind (narW (kerX rows S k) (tabF rows S k) (absI S.d) (freeF S.js).length)
def kerXR (rows : List (List Int)) (S : Fr) : Nat → List (List Int)
 | 0 => multF (freeF S.js).length (freeF S.js).length 1
 | k + 1 => behind (divW (kerXR rows S k) (tabF rows S k) (absI S.d) (freeF S.js).length)
def sumK (rows : List (List Int)) (S : Fr) (x : List Int) (k n : Nat) : Int := psumF (fun n => (tabF rows S k).getD n 0 * x.getD n 0) n
def kerE (rows : List (List Int)) (S : Fr) (x : List Int) (j : Nat) : Int := if j ∈ S.js then (-sumK rows S x (S.js.idxOf j) (freeF S.js).length).tdiv S.d else x.getD ((freeF S.js).idxOf j) 0
def kerR (rows : List (List Int)) (S : Fr) (x : List Int) : List Int := (List.range 6).map (kerE rows S x)
def kerF (rows : List (List Int)) : List (List Int) := (kerX rows (bwdF rows) (bwdF rows).js.length).map (kerR rows (bwdF rows))
def kerFR (rows : List (List Int)) : List (List Int) := (kerXR rows (bwdF rows) (bwdF rows).js.length).map (kerR rows (bwdF rows))
def kernR (rows : List (List Int)) : List (List Int) := if VM rows then kerF rows else []
def kernRR (rows : List (List Int)) : List (List Int) := if VM rows then kerFR rows else []
theorem getD_mem {l : List Nat} {k : Nat} (h : k < l.length) : l.getD k 0 ∈ l := by
 rw [List.getD_eq_getElem?_getD, List.getElem?_eq_getElem h]
 exact List.getElem_mem h
set_option maxRecDepth 100000
set_option maxHeartbeats 8000000
def IX (G : Hp) (N7 : Nat) (x : AV) (r : List Int) : Prop := (x = .snil ∧ r = []) ∨ ∃ b, 3 ≤ b ∧ b ≠ N7 ∧ b < G.length ∧ RowM G x b r
structure KM (G : Hp) (fr fc tc : List AV) (rows : List (List Int)) (S : Fr) (N7 k : Nat) : Prop where
 k0 : Zz.look G 0 0 = some fr
 k1 : Zz.look G 1 0 = some fc
 k2 : Zz.look G 2 0 = some tc
 tl : tc.length = S.js.length
 tn : ∀ t, k ≤ t → t < S.js.length → tc.getD t und = .snil
 td : ∀ t, t < k → IX G N7 (tc.getD t und) (tabF rows S t)
noncomputable def E20 : Env := E19.put 30 (borrowE E19 30)
theorem E20_ok : EnvOk Try.prog E20 := Env.put_ok E19_ok (borrowE_ok E19_ok (callable Try.func30 (by kernel_rfl)))
set_option maxRecDepth 100000
set_option maxHeartbeats 8000000
theorem GS.nat {H : Hp} {v : AV} {q : Nat} {l : List Nat} (h : GS 1 H v q (ncells l)) : ∃ x, NatS x l ∧ Zz.resV H v = some x := by
 obtain ⟨x, e1, e2⟩ := (JS.of_gs h).resC
 refine ⟨x, e2, ?_⟩
 rcases h with ⟨rfl, _⟩ | ⟨g, rfl, _⟩ | ⟨g, n, rfl, _⟩ <;> exact e1
noncomputable def E21 : Env := E20.put 100 (borrowE E20 100)
theorem E21_ok : EnvOk Try.prog E21 := Env.put_ok E20_ok (borrowE_ok E20_ok (callable Try.func100 (by kernel_rfl)))
noncomputable def E22 : Env := E21.put 31 (borrowE E21 31)
theorem E22_ok : EnvOk Try.prog E22 := Env.put_ok E21_ok (borrowE_ok E21_ok (callable Try.func31 (by kernel_rfl)))
end Go.Proofs.Ytnilimjkibimcaa

