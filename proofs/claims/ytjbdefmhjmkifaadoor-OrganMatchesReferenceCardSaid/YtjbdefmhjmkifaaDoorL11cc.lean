import Derived.Test.YtjbdefmhjmkifaaDoorL11cb

set_option linter.unusedSimpArgs false
set_option linter.unusedVariables false
namespace Go.Proofs.YtjbdefmhjmkifaaDoor
open Go.Zz
set_option maxRecDepth 100000
set_option maxHeartbeats 4000000
theorem s56 {pv iv : AV} {ps : List Pipe} {ids : List Int} {sup tol : Int} (hq : PpL pv ps) (hiv : IntS iv ids) (hv : VO ps sup tol) (hh : Has ps ids) (hl : ids.length ≤ 1000000) {m : Mem} : borrowE C1 56 [.agg [pv, .int .i64 sup, .int .i64 tol], iv] m = some (.int .i64 (lacks ps sup ids), m) :=
  borrowE_of (pures_cons (pure3 hq.pureC) (pures_cons hiv.pureA rfl)) ((f56 hq hiv hv hh hl).mono fun y m' h => by rw [h]; rfl)

noncomputable def C2 : Env := C1.put 56 (borrowE C1 56)
theorem C2_ok : EnvOk Tryd.prog C2 := Env.put_ok C1_ok (borrowE_ok C1_ok (callable Tryd.func56 (by kernel_rfl)))
theorem s59 {p : Pipe} {l w : Int} (hp : 0 ≤ p.sag ∧ p.sag ≤ 100000000 ∧ 0 ≤ p.warm ∧ p.warm ≤ 100000000) (hw : -100 ≤ w ∧ w ≤ 100) (hl : 0 ≤ l ∧ l ≤ 1000000000) {m : Mem} : borrowE E38 59 [.agg p.cells, .int .i64 l, .int .i64 w] m = some (.int .i64 (shiftOf p l w), m) :=
  borrowE_of rfl ((f59 hp hw hl).mono fun y m' h => by rw [h]; rfl)

noncomputable def C3 : Env := C2.put 59 (borrowE E38 59)
theorem C3_ok : EnvOk Tryd.prog C3 := Env.put_ok C2_ok (borrowE_ok E38_ok (callable Tryd.func59 (by kernel_rfl)))
theorem s60 {a b lo hi : Int} {m : Mem} : borrowE E38 60 [.agg [.int .i64 a, .int .i64 b], .int .i64 lo, .int .i64 hi] m = some (.int .i64 (sur a b lo hi), m) :=
  borrowE_of rfl (f60.mono fun y m' h => by rw [h]; rfl)

noncomputable def C4 : Env := C3.put 60 (borrowE E38 60)
theorem C4_ok : EnvOk Tryd.prog C4 := Env.put_ok C3_ok (borrowE_ok E38_ok (callable Tryd.func60 (by kernel_rfl)))
noncomputable def C5 : Env := C4.put 23 (borrowE E38 23)
theorem C5_ok : EnvOk Tryd.prog C5 := Env.put_ok C4_ok (borrowE_ok E38_ok (callable Tryd.func23 (by kernel_rfl)))
end Go.Proofs.YtjbdefmhjmkifaaDoor

