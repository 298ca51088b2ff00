import Derived.Test.YtgchabldcnmccaaDoorKb
set_option linter.unusedSimpArgs false
set_option linter.unusedVariables false

/-
  What a run of ballots computes (plain definitions).
-/
namespace Go.Proofs.YtgchabldcnmccaaDoor
open Go.Zz
structure Mv where
  k : Int
  b : Int
  t : Int
  v : Tk
  deriving Inhabited, DecidableEq
structure RS where
  acs : List Ac
  pms : List Pm
  sts : List (Int × Tk)
  vos : List Vo
  deriving Inhabited
def vget (b : Int) : List (Int × Tk) → Option Tk
  | [] => none
  | x :: r => if b = x.1 then some x.2 else vget b r
def acAt (s : RS) (t : Int) : Ac := s.acs.getD t.toNat ac0
def stepM (n : Int) (s : RS) (m : Mv) : RS :=
  if m.k = 1 then
    let r := prep (acAt s m.t) m.t m.b
    if r.2.2 = 0 then { s with acs := s.acs.set m.t.toNat r.1, pms := s.pms ++ [r.2.1] } else s
  else if m.k = 2 then
    match vget m.b s.sts with
    | some _ => s
    | none => let c := chs n m.b s.pms m.v; if c.2 = 0 then { s with sts := s.sts ++ [(m.b, c.1)] } else s
  else
    match vget m.b s.sts with
    | none => s
    | some v => let r := acc (acAt s m.t) m.t m.b v; if r.2.2 = 0 then { s with acs := s.acs.set m.t.toNat r.1, vos := s.vos ++ [r.2.1] } else s
def MvOk (n : Int) (m : Mv) : Prop := BlOk m.b ∧ (m.k = 1 ∧ DkOk m.t n ∨ m.k = 2 ∧ TkOk m.v ∨ m.k = 3 ∧ DkOk m.t n)
instance (n : Int) (m : Mv) : Decidable (MvOk n m) := inferInstanceAs (Decidable (_ ∧ _))
def rs0 (n : Int) : RS := ⟨List.replicate n.toNat ac0, [], [], []⟩
def RunOk (n : Int) (ms : List Mv) : Prop := 1 ≤ n ∧ n ≤ 8 ∧ ms.length ≤ 200 ∧ ∀ m ∈ ms, MvOk n m
instance (n : Int) (ms : List Mv) : Decidable (RunOk n ms) := inferInstanceAs (Decidable (_ ∧ _))
def runM (n : Int) (ms : List Mv) : RS := ms.foldl (stepM n) (rs0 n)
theorem runM_snoc {n : Int} {ms : List Mv} {m : Mv} : runM n (ms ++ [m]) = stepM n (runM n ms) m := by simp [runM]
end Go.Proofs.YtgchabldcnmccaaDoor

