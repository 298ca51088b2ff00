import Derived.Test.YtnilimjkibimcaaNoG
import Derived.Test.YtnilimjkibimcaaRows
import Derived.KernelRfl

namespace Go.Proofs.Ytnilimjkibimcaa
open Go.Zz
def ir140 : IFunc := ⟨27, [(.tmp 4)], (.seq (.region [oO 4 (.move (.con .snil))]) (.seq (.seq (.region [mV 5 1, oO 6 (.bin .lss (.tmp 5) k0)]) (.cond (.tmp 6) (.loop .skip) .skip)) (.seq (.seq (.region [mV 8 1, mV 9 0, oO 10 (.capS (.tmp 9)), mV 11 0, oO 12 (.lenS (.tmp 11)), oO 13 (.bin .sub (.tmp 10) (.tmp 12)), oO 14 (.bin .sub (.tmp 8) (.tmp 13)), mV 1 14]) (.seq (.region [mV 15 1, oO 16 (.bin .gtr (.tmp 15) k0)]) (.cond (.tmp 16) (.region [mV 17 0, mV 18 0, oO 19 (.capS (.tmp 18)), oO 20 (.slice 6 (.tmp 17) none (some (.tmp 19)) none), mV 21 1, oO 22 (.appendZ 6 48 [(.int .i64 0), (.int .i64 0), (.int .i64 0), (.int .i64 0), (.int .i64 0), (.int .i64 0)] (.tmp 20) (.tmp 21)), mV 23 0, oO 24 (.lenS (.tmp 23)), oO 25 (.slice 6 (.tmp 22) none (some (.tmp 24)) none), mV 0 25]) .skip))) (.seq (.region [mV 26 0, mV 4 26]) .ret))))⟩
theorem cir140 : cFunc Try.prog Try.f140 = some ir140 := by kernel_rfl
end Go.Proofs.Ytnilimjkibimcaa

