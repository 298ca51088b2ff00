import Derived.Test.YtgchabldcnmccacGreatDoorHKb
import Derived.Test.YtgchabldcnmccacGreatDoorAbsI

set_option linter.unusedSimpArgs false
set_option linter.unusedVariables false

namespace Go.Proofs.YtgchabldcnmccacGreatDoor
open Go.Zz
structure Mv where
 k : Int
 b : Int
 t : Int
 v : Tk
 deriving Inhabited, DecidableEq
structure RS where
 acs : List Ac
 pms : List Pm
 sts : List (Int × Tk)
 vos : List Vo
 deriving Inhabited
def vget (b : Int) : List (Int × Tk) → Option Tk
 | [] => none
 | x :: r => if b = x.1 then some x.2 else vget b r
def acAt (s : RS) (t : Int) : Ac := s.acs.getD t.toNat ac0
def stepM (n : Int) (s : RS) (m : Mv) : RS :=
 if m.k = 1 then
  let r := prep (acAt s m.t) m.t m.b
  if r.2.2 = 0 then { s with acs := s.acs.set m.t.toNat r.1, pms := s.pms ++ [r.2.1] } else s
 else if m.k = 2 then
  match vget m.b s.sts with
  | some _ => s
  | none => let c := chs n m.b s.pms m.v; if c.2 = 0 then { s with sts := s.sts ++ [(m.b, c.1)] } else s
 else
  match vget m.b s.sts with
  | none => s
  | some v => let r := acc (acAt s m.t) m.t m.b v; if r.2.2 = 0 then { s with acs := s.acs.set m.t.toNat r.1, vos := s.vos ++ [r.2.1] } else s
def MvOk (n : Int) (m : Mv) : Prop := BlOk m.b ∧ (m.k = 1 ∧ DkOk m.t n ∨ m.k = 2 ∧ TkOk m.v ∨ m.k = 3 ∧ DkOk m.t n)
instance (n : Int) (m : Mv) : Decidable (MvOk n m) := inferInstanceAs (Decidable (_ ∧ _))
def rs0 (n : Int) : RS := ⟨List.replicate n.toNat ac0, [], [], []⟩
def RunOk (n : Int) (ms : List Mv) : Prop := 1 ≤ n ∧ n ≤ 8 ∧ ms.length ≤ 200 ∧ ∀ m ∈ ms, MvOk n m
instance (n : Int) (ms : List Mv) : Decidable (RunOk n ms) := inferInstanceAs (Decidable (_ ∧ _))
def runM (n : Int) (ms : List Mv) : RS := ms.foldl (stepM n) (rs0 n)
theorem runM_snoc {n : Int} {ms : List Mv} {m : Mv} : runM n (ms ++ [m]) = stepM n (runM n ms) m := by simp [runM]
set_option maxRecDepth 100000
set_option maxHeartbeats 8000000
theorem f19 {n : Int} {m : Mv} : WF E9 (.func 35 [] []) [.int .i64 n, .agg [.int .i64 m.k, .int .i64 m.b, .int .i64 m.t, .int .i64 m.v.s, .int .i64 m.v.c, .int .i64 m.v.n, .int .i64 m.v.d]] ⟨[], []⟩ fun y m' => y = .bool (decide (DkOk m.t n)) := by
 refine WF.fnE rfl (fn_of Tryz.func35 cir35) (by show 2 ≤ 9; decide) ?_
 unfold ir35; dsimp only [k0, kI, mV, oO, oG]
 simp only [padTo, List.replicate, List.nil_append, List.append_nil]
 repeat' (first | (refine WO.opE (by intro; simp (disch := omega) only [go_sem, Zz.look]; rfl) (by simp only [pt3, pt4, pt5, pt6, pt7]; rfl) ?_) | (refine WO.specE rfl rfl (s20) (by simp only [pt8, pt0]; rfl) ?_) | (refine WC.seq ?_) | (refine WC.region ?_) | (refine WO.nil ?_) | (simp only [fl1]) | (refine WC.ret ?_))
 exact ⟨_, rfl, rfl⟩
theorem s19 {n : Int} {m : Mv} {mm : Mem} : borrowE E9 35 [.int .i64 n, .agg [.int .i64 m.k, .int .i64 m.b, .int .i64 m.t, .int .i64 m.v.s, .int .i64 m.v.c, .int .i64 m.v.n, .int .i64 m.v.d]] mm = some (.bool (decide (DkOk m.t n)), mm) :=
 borrowE_of rfl (f19.mono fun y m' h => by rw [h]; rfl)
noncomputable def E10 : Env := E9.put 35 (borrowE E9 35)
theorem E10_ok : EnvOk Tryz.prog E10 := Env.put_ok E9_ok (borrowE_ok E9_ok (callable Tryz.func35 (by kernel_rfl)))
theorem f22 {n : Int} {m : Mv} : WF E10 (.func 38 [] []) [.int .i64 n, .agg [.int .i64 m.k, .int .i64 m.b, .int .i64 m.t, .int .i64 m.v.s, .int .i64 m.v.c, .int .i64 m.v.n, .int .i64 m.v.d]] ⟨[], []⟩ fun y m' => y = .bool (decide (TkOk m.v)) := by
 refine WF.fnE rfl (fn_of Tryz.func38 cir38) (by show 2 ≤ 8; decide) ?_
 unfold ir38; dsimp only [k0, kI, mV, oO, oG]
 simp only [padTo, List.replicate, List.nil_append, List.append_nil]
 repeat' (first | (refine WO.opE (by intro; simp (disch := omega) only [go_sem, cut4b, Zz.look]; rfl) (by simp only [pt3, pt4, pt5, pt6]; rfl) ?_) | (refine WO.specE rfl rfl (s23) (by simp only [pt7]; rfl) ?_) | (refine WC.seq ?_) | (refine WC.region ?_) | (refine WO.nil ?_) | (simp only [fl1]) | (refine WC.ret ?_))
 exact ⟨_, rfl, rfl⟩
theorem s22 {n : Int} {m : Mv} {mm : Mem} : borrowE E10 38 [.int .i64 n, .agg [.int .i64 m.k, .int .i64 m.b, .int .i64 m.t, .int .i64 m.v.s, .int .i64 m.v.c, .int .i64 m.v.n, .int .i64 m.v.d]] mm = some (.bool (decide (TkOk m.v)), mm) :=
 borrowE_of rfl (f22.mono fun y m' h => by rw [h]; rfl)
noncomputable def E11 : Env := E10.put 38 (borrowE E10 38)
theorem E11_ok : EnvOk Tryz.prog E11 := Env.put_ok E10_ok (borrowE_ok E10_ok (callable Tryz.func38 (by kernel_rfl)))
def kindsEs : List AV := [.int .i64 1, .agg [.func 35 [] [], .func 37 [] []], .int .i64 2, .agg [.func 38 [] [], .func 40 [] []], .int .i64 3, .agg [.func 35 [] [], .func 41 [] []]]
theorem f10 {H : Hp} {L : List (Option ALoop)} : WF E11 (.func 14 [] []) [] ⟨H, L⟩ fun y m' => y = .mref L.length ∧ m' = ⟨H, L ++ [some (mapObj kindsEs)]⟩ := by
 have hm : ∀ x : Option ALoop, (L ++ [x])[L.length]? = some x := fun x => by simp
 have hset : ∀ x y : Option ALoop, (L ++ [x]).set L.length y = L ++ [y] := fun x y => by simp
 refine WF.fnE rfl (fn_of Tryz.func14 cir14) (by show 0 ≤ 9; decide) ?_
 unfold ir14; dsimp only [k0, kI, mV, oO, oG]
 simp only [padTo, List.replicate, List.append_nil]
 repeat' (first | (refine WO.opE (by intro; simp (disch := omega) only [go_sem, ov_one0, ov_one1, fillP, Option.bind_eq_bind]; rfl) (by simp only [pt8, pt0, pt1, pt2, pt3, pt4, pt5, pt6, pt7]; rfl) ?_) | (refine WO.opN (by intro; refine Eq.trans (ev_mapSet rfl rfl rfl (hm _) rfl) ?_; simp only [hset]; rfl) ?_) | (refine WC.seq ?_) | (refine WC.region ?_) | (refine WO.nil ?_) | (simp only [fl1]) | (refine WC.ret ?_))
 exact ⟨_, rfl, rfl, rfl⟩
end Go.Proofs.YtgchabldcnmccacGreatDoor


namespace Go.Proofs.YtgchabldcnmccacGreatDoor
open Go.Zz
def SlH (H : Hp) (z : AV) (k : Nat) (l : List AV) (len : Nat) : Prop := l.length = len * k ∧ (z = .snil ∧ len = 0 ∨ 0 < len ∧ ∃ id g, z = .sref id g 0 k len none ∧ Zz.look H id g = some l)
def inB (z : AV) (j : Nat) : Prop := match z with | .sref id _ _ _ _ _ => id = j | _ => False
theorem SlH.keep {H H' : Hp} {z : AV} {k len : Nat} {l : List AV} (h : SlH H z k l len) (hk : ∀ j, inB z j → H'[j]? = H[j]?) : SlH H' z k l len := by
 obtain ⟨h1, ⟨rfl, h2⟩ | ⟨h2, id, g, rfl, h3⟩⟩ := h
 ·exact ⟨h1, .inl ⟨rfl, h2⟩⟩
 ·exact ⟨h1, .inr ⟨h2, id, g, rfl, by rw [look_of_get (hk id rfl)]; exact h3⟩⟩
theorem SlH.push {H : Hp} {L : List (Option ALoop)} {z : AV} {k len bytes q : Nat} {l c : List AV} {cap : Option Nat} (h : SlH H z k l len) (hk : 0 < k) (hq : Zz.look H q 0 = some c) (hc : c.length = k) (hb : (len + 1) * bytes ≤ 140737488355328 ∧ len + 1 ≤ 140737488355328) :
  ∃ z' H', appendAV k bytes ⟨H, L⟩ z (.sref q 0 0 k 1 cap) = some (z', ⟨H', L⟩) ∧ SlH H' z' k (l ++ c) (len + 1) ∧ (∀ j, ¬ inB z j → j < H.length → H'[j]? = H[j]?) ∧ (∀ j, inB z' j → inB z j ∨ j = H.length) ∧ stillDead H H' = true := by
 have hcut : Zz.cut c 0 (1 * k) = some c := by
  unfold Zz.cut
  rw [if_pos (by omega)]
  simp [← hc]
 have hsc : scells H k (.sref q 0 0 k 1 cap) = some c := by simp only [scells, if_true, hq, Option.bind_some, hcut]
 obtain ⟨h1, ⟨rfl, rfl⟩ | ⟨h2, id, g, rfl, h3⟩⟩ := h
 ·have hl : l = [] := List.eq_nil_of_length_eq_zero (by omega)
  subst hl
  refine ⟨.sref H.length 0 0 k 1 none, H ++ [some ⟨0, c⟩], ?_, ?_, ?_, ?_, dead_app _ _⟩
  ·simp only [appendAV, hsc, slen, Option.bind_eq_bind, Option.bind_some, newBlk]
   rw [if_neg (by omega), if_pos (by omega)]
  ·exact ⟨by simp [hc], .inr ⟨by omega, H.length, 0, rfl, by simp [look_right0, Zz.look]⟩⟩
  ·intro j _ hj; exact List.getElem?_append_left hj
  ·intro j hj; exact .inr hj.symm
 ·have hold : Zz.cut l 0 (len * k) = some l := by
   unfold Zz.cut
   rw [if_pos (by omega)]
   simp [← h1]
  refine ⟨.sref id (g + 1) 0 k (len + 1) none, setBlk H id (g + 1) (l ++ c), ?_, ?_, ?_, ?_, ?_⟩
  ·simp only [appendAV, hsc, slen, Option.bind_eq_bind, Option.bind_some, if_true, h3, hold]
   rw [if_neg (by rw [Nat.add_mul]; omega), if_pos hb]
  ·exact ⟨by simp [hc, h1, Nat.add_mul], .inr ⟨by omega, id, g + 1, rfl, look_set (look_lt h3)⟩⟩
  ·intro j hj _; exact List.getElem?_set_ne hj
  ·intro j hj; exact .inl hj
  ·have := dead_setS (b := ⟨g + 1, l ++ c⟩) (look_eq_iff.1 h3) []
   simpa [setBlk] using this
structure RunMem (H : Hp) (L : List (Option ALoop)) (rb tb mb : Nat) (n : Nat) (s : RS) where
 ab : Nat
 zp : AV
 zs : AV
 zv : AV
 r : Zz.look H rb 0 = some [.sref ab 0 0 6 n (some n), zp, zs, zv, .int .i64 n, .mref mb]
end Go.Proofs.YtgchabldcnmccacGreatDoor


namespace Go.Proofs.YtgchabldcnmccacGreatDoor
open Go.Zz
def Tk.cells (t : Tk) : List AV := [.int .i64 t.s, .int .i64 t.c, .int .i64 t.n, .int .i64 t.d]
def Ac.cells (a : Ac) : List AV := .int .i64 a.p :: .int .i64 a.w :: a.v.cells
def Vo.cells (x : Vo) : List AV := .int .i64 x.d :: .int .i64 x.b :: x.v.cells
def stC (x : Int × Tk) : List AV := .int .i64 x.1 :: x.2.cells
def acF (l : List Ac) : List AV := (l.map Ac.cells).flatten
def pmF (l : List Pm) : List AV := (l.map Pm.cells).flatten
def voF (l : List Vo) : List AV := (l.map Vo.cells).flatten
def stF (l : List (Int × Tk)) : List AV := (l.map stC).flatten
def vfl : List (Int × Tk) → List AV
 | [] => []
 | x :: r => .int .i64 x.1 :: .agg x.2.cells :: vfl r
theorem vfl_keys : ∀ l : List (Int × Tk), mkeys (.int .i64) (vfl l) = true
 | [] => rfl
 | x :: r => by simp [vfl, mkeys, KK.of, vfl_keys r]
theorem vfl_find {b : Int} : ∀ l : List (Int × Tk), mfind (.int .i64 b) (vfl l) = (vget b l).map fun t => .agg t.cells
 | [] => rfl
 | x :: r => by
  simp only [vfl, mfind, keyEq, vget, decide_eq_true_eq]
  split
  ·rfl
  ·exact vfl_find r
theorem vfl_put {b : Int} {t : Tk} : ∀ {l : List (Int × Tk)}, vget b l = none → mput (.int .i64 b) (.agg t.cells) (vfl l) = vfl (l ++ [(b, t)])
 | [], _ => rfl
 | x :: r, h => by
  simp only [vget] at h
  split at h
  ·cases h
  ·rename_i hne
   simp only [vfl, mput, keyEq, hne, decide_false, Bool.false_eq_true, if_false, List.cons_append, vfl_put h]
structure RunAt (H : Hp) (L : List (Option ALoop)) (rb tb mb n : Nat) (s : RS) (ab : Nat) (zp zs zv : AV) : Prop where
 r : Zz.look H rb 0 = some [.sref ab 0 0 6 n (some n), zp, zs, zv, .int .i64 n, .mref mb]
 a : Zz.look H ab 0 = some (acF s.acs)
 n : s.acs.length = n
 p : SlH H zp 7 (pmF s.pms) s.pms.length
 t : SlH H zs 5 (stF s.sts) s.sts.length
 v : SlH H zv 6 (voF s.vos) s.vos.length
 z : Zz.look H 0 0 = some [.snil, .snil, .snil, .snil]
 m : L[mb]? = some (some (mapObj (vfl s.sts)))
 k : L[tb]? = some (some (mapObj kindsEs))
 d : rb ≠ ab ∧ rb ≠ 0 ∧ ab ≠ 0 ∧ tb ≠ mb
 dp : ∀ j, inB zp j → j ≠ rb ∧ j ≠ ab ∧ j ≠ 0 ∧ ¬ inB zs j ∧ ¬ inB zv j
 dt : ∀ j, inB zs j → j ≠ rb ∧ j ≠ ab ∧ j ≠ 0 ∧ ¬ inB zv j
 dv : ∀ j, inB zv j → j ≠ rb ∧ j ≠ ab ∧ j ≠ 0
set_option maxRecDepth 100000
set_option maxHeartbeats 8000000
theorem acF_cut : ∀ {l : List Ac} {i : Nat}, i < l.length → Zz.cut (acF l) (i * 6) 6 = some ((l.getD i ac0).cells)
 | [], _, h => by simp at h
 | a :: r, 0, _ => by simp [acF, Ac.cells, Tk.cells, Zz.cut]
 | a :: r, i + 1, h => by
  have := acF_cut (l := r) (i := i) (by simpa using h)
  unfold Zz.cut at this ⊢
  split at this
  ·rename_i hle
   have e : acF (a :: r) = a.cells ++ acF r := rfl
   have ea : a.cells.length = 6 := rfl
   rw [if_pos (by rw [e, List.length_append, ea]; omega), e, show (i + 1) * 6 = a.cells.length + i * 6 by rw [ea]; omega, List.drop_append, List.drop_eq_nil_of_le (by omega), List.nil_append]
   simpa using this
  ·cases this
theorem acF_over : ∀ {l : List Ac} {i : Nat} (a : Ac), i < l.length → Zz.over (acF l) (i * 6) a.cells = some (acF (l.set i a))
 | [], _, _, h => by simp at h
 | x :: r, 0, a, _ => by simp [acF, Ac.cells, Tk.cells, Zz.over]
 | x :: r, i + 1, a, h => by
  have := acF_over (l := r) (i := i) a (by simpa using h)
  unfold Zz.over at this ⊢
  split at this
  ·rename_i hle
   have e : acF (x :: r) = x.cells ++ acF r := rfl
   have ea : x.cells.length = 6 := rfl
   have e2 : acF ((x :: r).set (i + 1) a) = x.cells ++ acF (r.set i a) := rfl
   rw [if_pos (by rw [e, List.length_append, ea]; omega), e2, e, show (i + 1) * 6 = x.cells.length + i * 6 by rw [ea]; omega, List.take_length_add_append, show x.cells.length + i * 6 + a.cells.length = x.cells.length + (i * 6 + a.cells.length) by omega, List.drop_length_add_append]
   simp only [Option.some.injEq] at this ⊢
   rw [← this]
   simp
  ·cases this
theorem inB_lt {H : Hp} {z : AV} {k len : Nat} {l : List AV} (h : SlH H z k l len) {j : Nat} (hj : inB z j) : j < H.length := by
 obtain ⟨_, ⟨rfl, _⟩ | ⟨_, id, g, rfl, h3⟩⟩ := h
 ·exact hj.elim
 ·have : id = j := hj
  subst this
  exact look_lt h3
theorem RunAt.more {H H' : Hp} {L : List (Option ALoop)} {rb tb mb n ab : Nat} {s : RS} {zp zs zv : AV} (h : RunAt H L rb tb mb n s ab zp zs zv) (hk : ∀ j, j < H.length → H'[j]? = H[j]?) : RunAt H' L rb tb mb n s ab zp zs zv :=
  { h with
    r := by rw [look_of_get (hk _ (look_lt h.r))]; exact h.r
    a := by rw [look_of_get (hk _ (look_lt h.a))]; exact h.a
    z := by rw [look_of_get (hk _ (look_lt h.z))]; exact h.z
    p := h.p.keep fun j hj => hk j (inB_lt h.p hj)
    t := h.t.keep fun j hj => hk j (inB_lt h.t hj)
    v := h.v.keep fun j hj => hk j (inB_lt h.v hj) }
theorem RunAt.setA {H : Hp} {L : List (Option ALoop)} {rb tb mb n ab : Nat} {s : RS} {zp zs zv : AV} (h : RunAt H L rb tb mb n s ab zp zs zv) {a : List Ac} (ha : a.length = n) : RunAt (H.set ab (some ⟨0, acF a⟩)) L rb tb mb n { s with acs := a } ab zp zs zv := by
  have hk : ∀ j, ab ≠ j → (H.set ab (some ⟨0, acF a⟩))[j]? = H[j]? := fun j hj => List.getElem?_set_ne hj
  obtain ⟨d1, d2, d3, d4⟩ := h.d
  exact { r := by rw [look_of_get (hk _ (Ne.symm d1))]; exact h.r
          a := look_set (look_lt h.a)
          n := ha
          z := by rw [look_of_get (hk _ d3)]; exact h.z
          p := h.p.keep fun j hj => hk j (Ne.symm (h.dp j hj).2.1)
          t := h.t.keep fun j hj => hk j (Ne.symm (h.dt j hj).2.1)
          v := h.v.keep fun j hj => hk j (Ne.symm (h.dv j hj).2.1)
          m := h.m, k := h.k, d := h.d, dp := h.dp, dt := h.dt, dv := h.dv }
theorem RunAt.setP {H H3 : Hp} {L : List (Option ALoop)} {rb tb mb n ab N : Nat} {s : RS} {zp zs zv z' : AV} {x : Pm} (h : RunAt H L rb tb mb n s ab zp zs zv) (hN : H.length ≤ N) (hk : ∀ j, j < H.length → ¬ inB zp j → H3[j]? = H[j]?)
    (hp : SlH H3 z' 7 (pmF s.pms ++ x.cells) (s.pms.length + 1)) (hz : ∀ j, inB z' j → inB zp j ∨ j = N) :
    RunAt (setBlk H3 rb 0 [.sref ab 0 0 6 n (some n), z', zs, zv, .int .i64 n, .mref mb]) L rb tb mb n { s with pms := s.pms ++ [x] } ab z' zs zv := by
  obtain ⟨d1, d2, d3, d4⟩ := h.d
  have l1 := look_lt h.r
  have l2 := look_lt h.a
  have l3 := look_lt h.z
  have np : ∀ j, inB zp j → j < H.length := fun j hj => inB_lt h.p hj
  have n1 : ¬ inB zp rb := fun hj => (h.dp _ hj).1 rfl
  have n2 : ¬ inB zp ab := fun hj => (h.dp _ hj).2.1 rfl
  have n3 : ¬ inB zp 0 := fun hj => (h.dp _ hj).2.2.1 rfl
  have hs : ∀ j, rb ≠ j → (setBlk H3 rb 0 [.sref ab 0 0 6 n (some n), z', zs, zv, .int .i64 n, .mref mb])[j]? = H3[j]? := fun j hj => List.getElem?_set_ne hj
  have hl : rb < H3.length := by
    have := hk rb l1 n1
    rw [List.getElem?_eq_getElem l1] at this
    exact (List.getElem?_eq_some_iff.1 this).1
  exact { r := look_set hl
          a := by rw [look_of_get ((hs _ d1).trans (hk _ l2 n2))]; exact h.a
          n := h.n
          z := by rw [look_of_get ((hs _ d2).trans (hk _ l3 n3))]; exact h.z
          p := by
            have := hp.keep fun j hj => hs j fun e => by
              rcases hz j hj with g | g
              · exact n1 (e ▸ g)
              · omega
            simpa [pmF] using this
          t := h.t.keep fun j hj => (hs j (Ne.symm (h.dt j hj).1)).trans (hk j (inB_lt h.t hj) fun g => (h.dp j g).2.2.2.1 hj)
          v := h.v.keep fun j hj => (hs j (Ne.symm (h.dv j hj).1)).trans (hk j (inB_lt h.v hj) fun g => (h.dp j g).2.2.2.2 hj)
          m := h.m, k := h.k, d := h.d
          dp := fun j hj => by
            rcases hz j hj with g | g
            · exact h.dp j g
            · refine ⟨by omega, by omega, by omega, fun q => ?_, fun q => ?_⟩
              · have := inB_lt h.t q; omega
              · have := inB_lt h.v q; omega
          dt := h.dt, dv := h.dv }
theorem SlH.cells {H : Hp} {z : AV} {k len : Nat} {l : List AV} (h : SlH H z k l len) : z.cells = some [z] := by
 obtain ⟨_, ⟨rfl, _⟩ | ⟨_, id, g, rfl, h3⟩⟩ := h <;> rfl
theorem WT.appendSl {Γ : Env} {rd : List DOper} {tch : List Tch} {T : List AV} {H : Hp} {L : List (Option ALoop)} {Q : St → Prop} {d k bytes q len : Nat} {sx x : Opd} {z : AV} {l c : List AV} {cap : Option Nat} (hs : sx.ev T = z) (hx : x.ev T = .sref q 0 0 k 1 cap)
  (h : SlH H z k l len) (hk : 0 < k) (hq : Zz.look H q 0 = some c) (hc : c.length = k) (hb : (len + 1) * bytes ≤ 140737488355328 ∧ len + 1 ≤ 140737488355328)
  (K : ∀ z' H', SlH H' z' k (l ++ c) (len + 1) → (∀ j, ¬ inB z j → j < H.length → H'[j]? = H[j]?) → (∀ j, inB z' j → inB z j ∨ j = H.length) → WT Γ rd ⟨pt T d z', H', L⟩ (tch ++ [.all]) Q) :
  WT Γ (⟨⟨none, some d, .append k bytes sx x⟩, []⟩ :: rd) ⟨T, H, L⟩ tch Q := by
 obtain ⟨z', H', e1, e2, e3, e4, e5⟩ := SlH.push (L := L) (bytes := bytes) (cap := cap) h hk hq hc hb
 refine WT.whole rfl rfl (fun call => ?_) e5 rfl (K z' H' e2 e3 e4)
 simp only [ev_append, hs, hx, e1]
theorem f21 {H : Hp} {L : List (Option ALoop)} {rb tb mb n ab : Nat} {s : RS} {zp zs zv : AV} {m : Mv} (h : RunAt H L rb tb mb n s ab zp zs zv) (hk : m.k = 1) (hm : MvOk n m) (hn : n ≤ 8) (hl : s.pms.length ≤ 1000) :
  WF E11 (.func 37 [] []) [.pref rb 0 0, .agg [.int .i64 m.k, .int .i64 m.b, .int .i64 m.t, .int .i64 m.v.s, .int .i64 m.v.c, .int .i64 m.v.n, .int .i64 m.v.d]] ⟨H, L⟩ fun y m' => ∃ ab zp zs zv, RunAt m'.heap m'.loops rb tb mb n (stepM n s m) ab zp zs zv := by
 have hr := h.r
 have hrl := look_lt hr
 have hr2 : ∀ R, Zz.look (H ++ R) rb 0 = some [.sref ab 0 0 6 n (some n), zp, zs, zv, .int .i64 n, .mref mb] := fun R => by rw [look_left hrl]; exact hr
 have ha2 : ∀ R, Zz.look (H ++ R) ab 0 = some (acF s.acs) := fun R => by rw [look_left (look_lt h.a)]; exact h.a
 have hal := look_lt h.a
 have hdd := h.d
 have hnn := h.n
 obtain ⟨hbo, hdk | hdk | hdk⟩ := hm <;> first | (exfalso; omega) | skip
 obtain ⟨_, ht1, ht2⟩ := hdk
 have hca : Zz.cut (acF s.acs) (m.t.toNat * 6) 6 = some (acAt s m.t).cells := acF_cut (by omega)
 generalize hac : acAt s m.t = ac at *
 have hca2 : Zz.cut (acF s.acs) (m.t.toNat * 6) 6 = some [.int .i64 ac.p, .int .i64 ac.w, .int .i64 ac.v.s, .int .i64 ac.v.c, .int .i64 ac.v.n, .int .i64 ac.v.d] := hca
 refine WF.fnE rfl (fn_of Tryz.func37 cir37) (by show 2 ≤ 48; decide) ?_
 unfold ir37; dsimp only [k0, kI, mV, oO, oG]
 simp only [padTo, List.replicate, List.nil_append, List.append_nil]
 repeat' (first | (refine WO.opE (by intro; simp (disch := omega) only [go_sem, hr2, idx_toNat, lk0, lk1, ia_sref]; rfl) (by simp only [pt8, pt0, pt1, pt2, pt3, pt4, pt5, pt6, pt7]; rfl) ?_) | (refine WT.spec rfl rfl (fun V => s34) (by simp only [pt8, pt5]; rfl) ?_) | (refine WC.seq ?_) | (refine WC.region ?_) | (refine WO.nil ?_) | (simp only [fl1]) | (refine WC.calm rfl ?_) | (refine WC.drawT ?_) | (refine WT.nil ?_) | (refine WT.free rfl (by intro; simp (disch := omega) only [go_sem, List.length_append, Nat.reduceAdd, List.append_assoc, hr2, ha2, hca2, idx_toNat, lk0, ia_sref]; rfl) rfl (by simp only [pt8, pt0, pt1, pt2, pt3, pt4, pt5, pt6, pt7]; rfl) ?_) | (refine WT.big rfl rfl (by intro; simp (disch := omega) only [go_sem, List.length_append, Nat.reduceAdd, List.append_assoc, hr2, ha2, hca2, lk0]; rfl) (by simp (disch := omega) only [go_sem, List.length_append, Nat.reduceAdd, touch]; rfl) (by first | exact .inl rfl | exact .inr (apart_nil _) | exact .inr trivial | (right; apply apart_mk; simp only [apartL, List.nil_append, List.cons_append, List.getElem?_cons_succ, List.getElem?_cons_zero, Tch.free, and_true, true_and]; first | done | omega)) (by simp only [pt8, pt0, pt2, pt4, pt5, pt6]; rfl) ?_) | (refine WT.bigN rfl rfl (by intro; simp (disch := omega) only [go_sem, ov_all6, over7, Option.bind_eq_bind, Nat.reduceAdd, lk1, lk2, st1, st2, setBlk]; rfl) (by simp (disch := omega) only [go_sem, touch]; rfl) (by first | exact .inl rfl | exact .inr (apart_nil _) | exact .inr trivial | (right; apply apart_mk; simp only [apartL, List.nil_append, List.cons_append, List.getElem?_cons_succ, List.getElem?_cons_zero, Tch.free, and_true, true_and]; first | done | omega)) ?_) | (refine WC.skip ?_) | (refine WC.em2 rfl (fun hp => ?_) (fun hp => ?_) <;> try (exfalso; first | omega | contradiction)))
 ·have hov : Zz.over (acF s.acs) (m.t.toNat * 6) [.int .i64 (prep ac m.t m.b).1.p, .int .i64 (prep ac m.t m.b).1.w, .int .i64 (prep ac m.t m.b).1.v.s, .int .i64 (prep ac m.t m.b).1.v.c, .int .i64 (prep ac m.t m.b).1.v.n, .int .i64 (prep ac m.t m.b).1.v.d] = some (acF (s.acs.set m.t.toNat (prep ac m.t m.b).1)) := acF_over _ (by omega)
  refine WO.opN (by intro; simp (disch := omega) only [go_sem, ha2, hov, set_left, setBlk]; rfl) ?_
  have h2 := h.setA (a := s.acs.set m.t.toNat (prep ac m.t m.b).1) (by simpa using h.n)
  have hl2 : (H.set ab (some ⟨0, acF (s.acs.set m.t.toNat (prep ac m.t m.b).1)⟩)).length = H.length := by simp
  generalize hH2 : H.set ab (some ⟨0, acF (s.acs.set m.t.toNat (prep ac m.t m.b).1)⟩) = H2 at *
  have hr3 : ∀ R, Zz.look (H2 ++ R) rb 0 = some [.sref ab 0 0 6 n (some n), zp, zs, zv, .int .i64 n, .mref mb] := fun R => by rw [look_left (by omega)]; exact h2.r
  repeat' (first | (refine WO.nil ?_) | (refine WC.drawT ?_) | (refine WT.free rfl (by intro; simp (disch := omega) only [go_sem, zeros, List.length_append, over7, cut7, fillP, Option.bind_eq_bind, Nat.reduceAdd, List.append_assoc, hr3, lk2]; rfl) rfl (by simp only [pt8, pt0, pt1, pt2, pt4, pt5, pt6, pt7]; rfl) ?_) | (refine WT.big rfl rfl (by intro; simp (disch := omega) only [go_sem, zeros, List.length_append, over7, cut7, fillP, Option.bind_eq_bind, Nat.reduceAdd, List.append_assoc, hr3, lk2]; rfl) (by simp (disch := omega) only [go_sem, List.length_append, Nat.reduceAdd, touch]; rfl) (by first | exact .inl rfl | exact .inr (apart_nil _) | exact .inr trivial | (right; apply apart_mk; simp only [apartL, List.nil_append, List.cons_append, List.getElem?_cons_succ, List.getElem?_cons_zero, Tch.free, and_true, true_and]; first | done | omega)) (by simp only [pt8, pt1, pt2, pt3]; rfl) ?_) | fail)
  refine WT.appendSl (c := (prep ac m.t m.b).2.1.cells) (z := zp) rfl rfl (h2.p.keep fun j hj => List.getElem?_append_left (inB_lt h2.p hj)) (by decide) (lk3 rfl) rfl ⟨by show (s.pms.length + 1) * 56 ≤ _; omega, by show s.pms.length + 1 ≤ _; omega⟩ ?_
  intro z' H3 e2 e3 e4
  simp only [pt8, pt4]
  have hN : H2.length ≤ (H2.length + 4) := by omega
  have hk3 : ∀ j, j < H2.length → ¬ inB zp j → H3[j]? = H2[j]? := fun j hj hn => (e3 j hn (by simp; omega)).trans (List.getElem?_append_left hj)
  have hz3 : ∀ j, inB z' j → inB zp j ∨ j = H2.length + 4 := fun j hj => by simpa using e4 j hj
  have hfin := h2.setP (x := (prep ac m.t m.b).2.1) hN hk3 e2 hz3
  have hr4 : Zz.look H3 rb 0 = some [.sref ab 0 0 6 n (some n), zp, zs, zv, .int .i64 n, .mref mb] := by rw [look_of_get (hk3 _ (by omega) fun q => (h2.dp _ q).1 rfl)]; exact h2.r
  have hcz := e2.cells
  unfold AV.cells at hcz
  clear e2 e3 e4
  repeat' (first | (refine WT.nil ?_) | (refine WT.free rfl (by intro; simp (disch := omega) only [go_sem]; rfl) rfl (by simp only [pt8, pt5, pt6, pt7]; rfl) ?_) | (refine WT.bigN rfl rfl (by intro; simp (disch := omega) only [go_sem, ov_one1, Option.bind_eq_bind, hcz, hr4, ov_one1, setBlk]; rfl) (by simp (disch := omega) only [go_sem, touch]; rfl) (by first | exact .inl rfl | exact .inr (apart_nil _) | exact .inr trivial | (right; apply apart_mk; simp only [apartL, List.nil_append, List.cons_append, List.getElem?_cons_succ, List.getElem?_cons_zero, Tch.free, and_true, true_and]; first | done | omega)) ?_) | fail)
  refine ⟨_, rfl, ab, z', zs, zv, ?_⟩
  have hst : stepM n s m = { s with acs := s.acs.set m.t.toNat (prep ac m.t m.b).1, pms := s.pms ++ [(prep ac m.t m.b).2.1] } := by
   unfold stepM
   rw [if_pos hk]
   simp only [hac]
   rw [if_pos (by assumption)]
  rw [hst]
  exact hfin
 ·refine ⟨_, rfl, ab, zp, zs, zv, ?_⟩
  have hst : stepM n s m = s := by
   unfold stepM
   rw [if_pos hk]
   simp only [hac]
   rw [if_neg (by assumption)]
  rw [hst]
  exact h.more fun j hj => List.getElem?_append_left hj
end Go.Proofs.YtgchabldcnmccacGreatDoor

