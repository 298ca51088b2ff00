import Derived.Test.YtnilimjkibimcaaNk
import Derived.Test.YtnilimjkibimcaaIrT

set_option linter.unusedSimpArgs false
set_option linter.unusedVariables false

namespace Go.Proofs.Ytnilimjkibimcaa
open Go.Zz
set_option maxRecDepth 100000
set_option maxHeartbeats 4000000
noncomputable def T1 : Env := E21.put 25 (borrowX E1 25)
noncomputable def T2 : Env := T1.put 30 (borrowR E19 30)
noncomputable def T3 : Env := T2.put 35 (borrowX E8 35)
theorem gs_take {sz : Nat} {H : Hp} {v : AV} {q : Nat} {c : List AV} (h : GS sz H v q c) (hf : c.all flatAV = true) (e : Int) (B : Hp) : ∃ new v', takeBlks H (uniq (refs (.tuple [v, .int .i64 e])) []) = some new ∧ renV H (uniq (refs (.tuple [v, .int .i64 e])) []) B.length (.tuple [v, .int .i64 e]) = some (.tuple [v', .int .i64 e]) ∧ GS sz (B ++ new) v' B.length c ∧ Zz.resC (B ++ new) v' = Zz.resC H v := by
 rcases h with ⟨rfl, rfl⟩ | ⟨g, rfl, rfl, hk⟩ | ⟨g, n, rfl, h1, h2, hk⟩
 ·exact ⟨[], .snil, rfl, rfl, .inl ⟨rfl, rfl⟩, rfl⟩
 ·have hb := look_eq_iff.1 hk
  have hB : Zz.look (B ++ [some ⟨0, []⟩]) B.length 0 = some [] := lk0 rfl
  refine ⟨[some ⟨0, []⟩], .sref B.length 0 0 sz 0 (some 0), ?_, ?_, .inr (.inl ⟨0, rfl, rfl, lk0 rfl⟩), by simp only [Zz.resC, hk, hB]⟩
  ·simp [refs, refsT, refsA, refsC, uniq, takeBlks, hb]
  ·simp [refs, refsT, refsA, refsC, uniq, renV, renT, renA, renC, findIdx, hk]
 ·have hb := look_eq_iff.1 hk
  have hB : Zz.look (B ++ [some ⟨0, c⟩]) B.length 0 = some c := lk0 rfl
  refine ⟨[some ⟨0, c⟩], .sref B.length 0 0 sz n none, ?_, ?_, .inr (.inr ⟨0, n, rfl, h1, h2, lk0 rfl⟩), by simp only [Zz.resC, hk, hB]⟩
  ·simp [refs, refsT, refsA, refsC, uniq, takeBlks, hb, hf]
  ·simp [refs, refsT, refsA, refsC, uniq, renV, renT, renA, renC, findIdx, hk]
def okB (b : Int) (r : List Int) : Prop := ∀ j, j < 6 → -b ≤ r.getD j 0 ∧ r.getD j 0 ≤ b
instance (b : Int) (r : List Int) : Decidable (okB b r) := by unfold okB; infer_instance
theorem pureI (r : List Int) : Zz.pureA (.agg (icells r)) = true := by
 show (icells r).all Zz.pureC = true
 unfold icells
 rw [List.all_map]
 exact List.all_eq_true.2 fun _ _ => rfl
noncomputable def T4 : Env := T3.put 117 (borrowE T3 117)
noncomputable def T5 : Env := T4.put 61 (borrowE T4 61)
noncomputable def T6 : Env := T5.put 113 (borrowE T4 113)
def mul12 (r : List Int) : List Int := r.map (· * 12)
def zer6 : List Int := [0, 0, 0, 0, 0, 0]
def ofP (r : List Int) : List Int := if okB 48 r then mul12 r else zer6
theorem resA_icells (H : Hp) : ∀ r : List Int, Zz.resL H (icells r) = some (icells r)
 | [] => rfl
 | x :: r => by
  have ih := resA_icells H r
  show (match Zz.resC H (.int .i64 x), Zz.resL H (icells r) with | some a, some l => some (a :: l) | _, _ => none) = _
  rw [ih]
  rfl
end Go.Proofs.Ytnilimjkibimcaa

