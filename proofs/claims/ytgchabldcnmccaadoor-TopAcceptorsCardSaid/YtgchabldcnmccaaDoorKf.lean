import Derived.Test.YtgchabldcnmccaaDoorKe
set_option linter.unusedSimpArgs false
set_option linter.unusedVariables false

/-
  The state of a run in memory.
-/
namespace Go.Proofs.YtgchabldcnmccaaDoor
open Go.Zz
def Tk.cells (t : Tk) : List AV := [.int .i64 t.s, .int .i64 t.c, .int .i64 t.n, .int .i64 t.d]
def Ac.cells (a : Ac) : List AV := .int .i64 a.p :: .int .i64 a.w :: a.v.cells
def Vo.cells (x : Vo) : List AV := .int .i64 x.d :: .int .i64 x.b :: x.v.cells
def stC (x : Int × Tk) : List AV := .int .i64 x.1 :: x.2.cells
def acF (l : List Ac) : List AV := (l.map Ac.cells).flatten
def pmF (l : List Pm) : List AV := (l.map Pm.cells).flatten
def voF (l : List Vo) : List AV := (l.map Vo.cells).flatten
def stF (l : List (Int × Tk)) : List AV := (l.map stC).flatten
def vfl : List (Int × Tk) → List AV
  | [] => []
  | x :: r => .int .i64 x.1 :: .agg x.2.cells :: vfl r
theorem vfl_keys : ∀ l : List (Int × Tk), mkeys .i64 (vfl l) = true
  | [] => rfl
  | x :: r => by simp [vfl, mkeys, vfl_keys r]
theorem vfl_find {b : Int} : ∀ l : List (Int × Tk), mfind b (vfl l) = (vget b l).map fun t => .agg t.cells
  | [] => rfl
  | x :: r => by
    simp only [vfl, mfind, vget]
    split
    · rfl
    · exact vfl_find r
theorem vfl_put {b : Int} {t : Tk} : ∀ {l : List (Int × Tk)}, vget b l = none → mput .i64 b (.agg t.cells) (vfl l) = vfl (l ++ [(b, t)])
  | [], _ => rfl
  | x :: r, h => by
    simp only [vget] at h
    split at h
    · cases h
    · rename_i hne
      simp only [vfl, mput, hne, if_false, List.cons_append, vfl_put h]
structure RunAt (H : Hp) (L : List (Option ALoop)) (rb tb mb n : Nat) (s : RS) (ab : Nat) (zp zs zv : AV) : Prop where
  r : Zz.look H rb 0 = some [.sref ab 0 0 6 n (some n), zp, zs, zv, .int .i64 n, .mref mb]
  a : Zz.look H ab 0 = some (acF s.acs)
  n : s.acs.length = n
  p : SlH H zp 7 (pmF s.pms) s.pms.length
  t : SlH H zs 5 (stF s.sts) s.sts.length
  v : SlH H zv 6 (voF s.vos) s.vos.length
  z : Zz.look H 0 0 = some [.snil, .snil, .snil, .snil]
  m : L[mb]? = some (some (mapObj (vfl s.sts)))
  k : L[tb]? = some (some (mapObj kindsEs))
  d : rb ≠ ab ∧ rb ≠ 0 ∧ ab ≠ 0 ∧ tb ≠ mb
  dp : ∀ j, inB zp j → j ≠ rb ∧ j ≠ ab ∧ j ≠ 0 ∧ ¬ inB zs j ∧ ¬ inB zv j
  dt : ∀ j, inB zs j → j ≠ rb ∧ j ≠ ab ∧ j ≠ 0 ∧ ¬ inB zv j
  dv : ∀ j, inB zv j → j ≠ rb ∧ j ≠ ab ∧ j ≠ 0
end Go.Proofs.YtgchabldcnmccaaDoor

