import Derived.Test.YtjbdefmhjmkifaaDoorL11cf

set_option linter.unusedSimpArgs false
set_option linter.unusedVariables false
namespace Go.Proofs.YtjbdefmhjmkifaaDoor
open Go.Zz
set_option maxRecDepth 100000
set_option maxHeartbeats 4000000
theorem s86 {i : Nat} (h : i < 6) {m : Mem} : borrowE C8 86 [.int .i64 (i : Int)] m = some (.int .i64 (LH i), m) := borrowE_of rfl ((f86 h).mono fun y m' h => by rw [h]; rfl)

noncomputable def C9 : Env := C8.put 86 (borrowE C8 86)
theorem C9_ok : EnvOk Tryd.prog C9 := Env.put_ok C8_ok (borrowE_ok C8_ok (callable Tryd.func86 (by kernel_rfl)))
theorem s57 {a b c d e f : Int} (h : wi6 a b c d e f 48) {m : Mem} : borrowE C7 57 [.agg [.int .i64 a, .int .i64 b, .int .i64 c, .int .i64 d, .int .i64 e, .int .i64 f]] m = some (.tuple [.agg [.int .i64 (a * 12), .int .i64 (b * 12), .int .i64 (c * 12), .int .i64 (d * 12), .int .i64 (e * 12), .int .i64 (f * 12)], .int .i64 0], m) := borrowE_of rfl ((f57 h).mono fun y m' h => by rw [h]; rfl)

noncomputable def C10 : Env := C9.put 57 (borrowE C7 57)
theorem C10_ok : EnvOk Tryd.prog C10 := Env.put_ok C9_ok (borrowE_ok C7_ok (callable Tryd.func57 (by kernel_rfl)))
end Go.Proofs.YtjbdefmhjmkifaaDoor

