import Derived.Test.YtgchabldcnmccacGreatDoorHA

set_option linter.unusedSimpArgs false
set_option linter.unusedVariables false

namespace Go.Proofs.YtgchabldcnmccacGreatDoor
open Go.Zz
def rc0 : Rc := ⟨0, 0, 0, tk0⟩
def pmL (l : List Pm) : Pm := l.getD (l.length - 1) default
def voL (l : List Vo) : Vo := l.getD (l.length - 1) default
def recP (k : Int) (s s' : RS) : Rc := if s.pms.length < s'.pms.length ∧ (pmL s'.pms).d = k then ⟨1, 1, (pmL s'.pms).b, tk0⟩ else rc0
def recX (k : Int) (s s' : RS) : Rc := if s.vos.length < s'.vos.length ∧ (voL s'.vos).d = k then ⟨2, 1, (voL s'.vos).b, (voL s'.vos).v⟩ else recP k s s'
def recs1 (x : Rc) : List Rc := if x.k = 0 then [] else [x]
def recs (n k : Int) (ms : List Mv) : Nat → List Rc
 | 0 => []
 | i + 1 => recs n k ms i ++ recs1 (recX k (runM n (ms.take i)) (runM n (ms.take (i + 1))))
def foldS (l : List Ac) (r : Rc) : Option (List Ac) :=
 let a := l.getD 0 ac0
 if r.k = 1 then (if (prep a 0 r.b).2.2 = 0 then some [(prep a 0 r.b).1] else none)
 else (if (acc a 0 r.b r.v).2.2 = 0 then some [(acc a 0 r.b r.v).1] else none)
def foldR : List Ac → List Rc → Option (List Ac)
 | l, [] => some l
 | l, r :: rs => (foldS l r).bind fun l' => foldR l' rs
def R1 (r : Rc) : Prop := RcOk r ∧ r.s = 1 ∧ (r.k = 1 ∨ r.k = 2)
structure Inv (n : Int) (s : RS) (i : Nat) : Prop where
 len : s.acs.length = n.toNat
 a : ∀ a ∈ s.acs, AcOk a ∧ (a.w ≠ 0 → a.v.s = 1)
 p : ∀ p ∈ s.pms, p.w ≠ 0 → p.v.s = 1
 t : ∀ x ∈ s.sts, TkOk x.2 ∧ x.2.s = 1
 k : s.pms.length + s.sts.length + s.vos.length ≤ i
theorem scan_one {n b : Int} : ∀ {ps : List Pm} {last : Int} {own v : Tk}, (∀ p ∈ ps, p.w ≠ 0 → p.v.s = 1) → 0 ≤ last → TkOk own ∧ own.s = 1 → scan n b ps last own = some v → TkOk v ∧ v.s = 1
 | [], last, own, v, _, _, ho, h => by
  simp only [scan, Option.some.injEq] at h
  exact h ▸ ho
 | p :: r, last, own, v, hp, hl, ho, h => by
  unfold scan at h
  split at h
  ·rename_i hok
   split at h
   ·rename_i hb
    have hw : p.w ≠ 0 := by omega
    obtain ⟨_, _, _, _, hv⟩ := hok
    rcases hv with ⟨h0, _⟩ | ⟨_, hv⟩
    ·exact absurd h0 hw
    ·exact scan_one (fun q hq => hp q (by simp [hq])) (by omega) ⟨hv, hp p (by simp) hw⟩ h
   ·exact scan_one (fun q hq => hp q (by simp [hq])) hl ho h
  ·cases h
theorem chs_one {n b : Int} {ps : List Pm} {own : Tk} (hp : ∀ p ∈ ps, p.w ≠ 0 → p.v.s = 1) (ho : TkOk own ∧ own.s = 1) (h : (chs n b ps own).2 = 0) : TkOk (chs n b ps own).1 ∧ (chs n b ps own).1.s = 1 := by
 unfold chs at h ⊢
 split
 ·rename_i hg
  rw [if_pos hg] at h
  split
  ·rename_i hs
   rw [hs] at h
   simp at h
  ·rename_i v hs
   rw [hs] at h
   simp only at h ⊢
   split
   ·exact scan_one hp (by omega) ho hs
   ·rename_i hq
    rw [if_neg hq] at h
    simp at h
 ·rename_i hg
  rw [if_neg hg] at h
  simp at h
theorem vget_mem {b : Int} {v : Tk} : ∀ {l : List (Int × Tk)}, vget b l = some v → ∃ x ∈ l, x.2 = v
 | [], h => by cases h
 | x :: r, h => by
  unfold vget at h
  split at h
  ·exact ⟨x, by simp, by simpa using h⟩
  ·obtain ⟨y, hy, e⟩ := vget_mem h
   exact ⟨y, by simp [hy], e⟩
theorem acAt_mem {s : RS} {t n : Int} (hl : s.acs.length = n.toNat) (ht : DkOk t n) : acAt s t ∈ s.acs := by
 unfold acAt
 obtain ⟨h1, h2⟩ := ht
 have : t.toNat < s.acs.length := by omega
 rw [List.getD_eq_getElem?_getD, List.getElem?_eq_getElem this]
 exact List.getElem_mem this
theorem mem_set_or {α : Type} {l : List α} {i : Nat} {x y : α} (h : y ∈ l.set i x) : y = x ∨ y ∈ l := by
 rcases List.mem_or_eq_of_mem_set h with h | h
 ·exact .inr h
 ·exact .inl h
theorem prep_ok {a : Ac} {d b : Int} (ha : AcOk a) (hd : DkOk d 8) (hb : BlOk b) : prep a d b = if b ≤ a.p then (ac0, pm0, 24) else (⟨b, a.w, a.v⟩, ⟨d, b, a.w, a.v⟩, 0) := by
 unfold prep
 rw [if_pos ⟨ha, hd, hb⟩]
theorem acc_ok {a : Ac} {d b : Int} {v : Tk} (ha : AcOk a) (hd : DkOk d 8) (hb : BlOk b) (hv : TkOk v) : acc a d b v = if b < a.p then (ac0, vo0, 24) else (⟨b, b, v⟩, ⟨d, b, v⟩, 0) := by
 unfold acc
 rw [if_pos ⟨ha, hd, hb, hv⟩]
theorem Inv.step {n k : Int} {s : RS} {i : Nat} {m : Mv} (h : Inv n s i) (hn : 1 ≤ n ∧ n ≤ 8) (hk : DkOk k n) (hm : MvOk n m) (h1 : m.k = 2 → m.v.s = 1) :
  Inv n (stepM n s m) (i + 1) ∧
   ((recX k s (stepM n s m)).k = 0 ∧ acAt (stepM n s m) k = acAt s k ∨ R1 (recX k s (stepM n s m)) ∧ ∀ l : List Ac, l.getD 0 ac0 = acAt s k → foldS l (recX k s (stepM n s m)) = some [acAt (stepM n s m) k]) := by
 obtain ⟨hb, hm⟩ := hm
 have hk8 : DkOk k 8 := ⟨hk.1, by have := hk.2; omega⟩
 have h08 : DkOk 0 8 := by decide
 have hkl : k.toNat < s.acs.length := by rw [h.len]; have := hk.1; have := hk.2; omega
 have same : Inv n s (i + 1) ∧ ((recX k s s).k = 0 ∧ acAt s k = acAt s k ∨ R1 (recX k s s) ∧ ∀ l : List Ac, l.getD 0 ac0 = acAt s k → foldS l (recX k s s) = some [acAt s k]) :=
  ⟨{ h with k := by have := h.k; omega }, .inl ⟨by simp [recX, recP, rc0], rfl⟩⟩
 rcases hm with ⟨e, ht⟩ | ⟨e, hv⟩ | ⟨e, ht⟩
 ·have ha := h.a _ (acAt_mem h.len ht)
  have ht8 : DkOk m.t 8 := ⟨ht.1, by have := ht.2; omega⟩
  have hs : stepM n s m = if m.b ≤ (acAt s m.t).p then s else { s with acs := s.acs.set m.t.toNat ⟨m.b, (acAt s m.t).w, (acAt s m.t).v⟩, pms := s.pms ++ [⟨m.t, m.b, (acAt s m.t).w, (acAt s m.t).v⟩] } := by
   unfold stepM
   rw [if_pos e]
   simp only [prep_ok ha.1 ht8 hb]
   split <;> simp
  rw [hs]
  split
  ·exact same
  ·rename_i hlt
   refine ⟨{ len := by simpa using h.len, a := ?_, p := ?_, t := h.t, k := by have := h.k; simp; omega }, ?_⟩
   ·intro x hx
    rcases mem_set_or hx with rfl | hx
    ·refine ⟨?_, ha.2⟩
     obtain ⟨a1, a2, a3, a4⟩ := ha.1
     exact ⟨a1, by simp only; omega, hb.2, a4⟩
    ·exact h.a _ hx
   ·intro x hx
    rcases List.mem_append.1 hx with hx | hx
    ·exact h.p _ hx
    ·rw [List.mem_singleton.1 hx]
     exact ha.2
   ·have hpl : ∀ x : Pm, pmL (s.pms ++ [x]) = x := fun x => by simp [pmL]
    simp only [recX, Nat.lt_irrefl, false_and, if_false, recP, hpl, List.length_append, List.length_singleton, Nat.lt_succ_self, true_and]
    by_cases hkt : m.t = k
    ·subst hkt
     rw [if_pos rfl]
     refine .inr ⟨⟨⟨by simp, by simp, .inl ⟨rfl, hb, rfl⟩⟩, rfl, .inl rfl⟩, ?_⟩
     intro l hl
     have e2 : acAt { s with acs := s.acs.set m.t.toNat ⟨m.b, (acAt s m.t).w, (acAt s m.t).v⟩, pms := s.pms ++ [⟨m.t, m.b, (acAt s m.t).w, (acAt s m.t).v⟩] } m.t = ⟨m.b, (acAt s m.t).w, (acAt s m.t).v⟩ := by
      simp [acAt, hkl]
     rw [e2]
     unfold foldS
     simp only [hl, if_true, prep_ok ha.1 h08 hb, if_neg hlt]
    ·rw [if_neg hkt]
     refine .inl ⟨rfl, ?_⟩
     unfold acAt
     simp only [List.getD_eq_getElem?_getD]
     rw [List.getElem?_set_ne (by have := ht.1; have := hk.1; omega)]
 ·have hs : stepM n s m = match vget m.b s.sts with
   | some _ => s
   | none => if (chs n m.b s.pms m.v).2 = 0 then { s with sts := s.sts ++ [(m.b, (chs n m.b s.pms m.v).1)] } else s := by
   unfold stepM
   rw [if_neg (by omega), if_pos e]
   cases vget m.b s.sts <;> rfl
  rw [hs]
  split
  ·exact same
  ·split
   ·rename_i hc
    have h2 := chs_one h.p ⟨hv, h1 e⟩ hc
    refine ⟨{ len := h.len, a := h.a, p := h.p, t := ?_, k := by have := h.k; simp; omega }, .inl ⟨by simp [recX, recP, rc0], rfl⟩⟩
    intro x hx
    rcases List.mem_append.1 hx with hx | hx
    ·exact h.t _ hx
    ·rw [List.mem_singleton.1 hx]
     exact h2
   ·exact same
 ·have ha := h.a _ (acAt_mem h.len ht)
  have ht8 : DkOk m.t 8 := ⟨ht.1, by have := ht.2; omega⟩
  cases hvg : vget m.b s.sts with
  | none =>
   have hs : stepM n s m = s := by
    unfold stepM
    rw [if_neg (by omega), if_neg (by omega), hvg]
   rw [hs]
   exact same
  | some v =>
   obtain ⟨x0, hx0, rfl⟩ := vget_mem hvg
   obtain ⟨hvo, hv1⟩ := h.t _ hx0
   generalize x0.2 = v at *
   have hs : stepM n s m = if m.b < (acAt s m.t).p then s else { s with acs := s.acs.set m.t.toNat ⟨m.b, m.b, v⟩, vos := s.vos ++ [⟨m.t, m.b, v⟩] } := by
    unfold stepM
    rw [if_neg (by omega), if_neg (by omega), hvg]
    simp only [acc_ok ha.1 ht8 hb hvo]
    split <;> simp
   rw [hs]
   split
   ·exact same
   ·rename_i hlt
    refine ⟨{ len := by simpa using h.len, a := ?_, p := h.p, t := h.t, k := by have := h.k; simp; omega }, ?_⟩
    ·intro x hx
     rcases mem_set_or hx with rfl | hx
     ·exact ⟨⟨by have := hb.1; simp only; omega, Int.le_refl _, hb.2, .inr ⟨by have := hb.1; simp only; omega, hvo⟩⟩, fun _ => hv1⟩
     ·exact h.a _ hx
    ·have hpl : ∀ x : Vo, voL (s.vos ++ [x]) = x := fun x => by simp [voL]
     simp only [recX, Nat.lt_irrefl, false_and, if_false, recP, hpl, List.length_append, List.length_singleton, Nat.lt_succ_self, true_and]
     by_cases hkt : m.t = k
     ·subst hkt
      rw [if_pos rfl]
      refine .inr ⟨⟨⟨by simp, by simp, .inr (.inl ⟨rfl, hb, hvo, hv1⟩)⟩, rfl, .inr rfl⟩, ?_⟩
      intro l hl
      have e2 : acAt { s with acs := s.acs.set m.t.toNat ⟨m.b, m.b, v⟩, vos := s.vos ++ [⟨m.t, m.b, v⟩] } m.t = ⟨m.b, m.b, v⟩ := by
       simp [acAt, hkl]
      rw [e2]
      unfold foldS
      simp only [hl, acc_ok ha.1 h08 hb hvo, if_neg hlt]
      simp
     ·rw [if_neg hkt]
      refine .inl ⟨rfl, ?_⟩
      unfold acAt
      simp only [List.getD_eq_getElem?_getD]
      rw [List.getElem?_set_ne (by have := ht.1; have := hk.1; omega)]
def comp (a : Ac) : List Rc := (if 0 < a.w then [⟨2, 1, a.w, a.v⟩] else []) ++ (if a.w < a.p then [⟨1, 1, a.p, tk0⟩] else [])
end Go.Proofs.YtgchabldcnmccacGreatDoor

