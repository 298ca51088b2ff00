import Derived.Test.YtnilimjkibimcaaNoG
import Derived.Test.YtnilimjkibimcaaRows
import Derived.KernelRfl

namespace Go.Proofs.Ytnilimjkibimcaa
open Go.Zz
def ir140 : IFunc := ⟨27, [(.tmp 4)], (.seq (.region [oO 4 (.move (.con .snil))]) (.seq (.seq (.region [mV 5 1, oO 6 (.bin .lss (tM 5) k0)]) (.cond (tM 6) (.loop .skip) .skip)) (.seq (.seq (.region [mV 8 1, mV 9 0, oO 10 (.capS (tM 9)), mV 11 0, oO 12 (.lenS (tM 11)), oO 13 (.bin .sub (tM 10) (tM 12)), oO 14 (.bin .sub (tM 8) (tM 13)), mV 1 14]) (.seq (.region [mV 15 1, oO 16 (.bin .gtr (tM 15) k0)]) (.cond (tM 16) (.region [mV 17 0, mV 18 0, oO 19 (.capS (tM 18)), oO 20 (.slice 6 (tM 17) none (some (tM 19)) none), mV 21 1, oO 22 (.appendZ 6 48 i6 (tM 20) (tM 21)), mV 23 0, oO 24 (.lenS (tM 23)), oO 25 (.slice 6 (tM 22) none (some (tM 24)) none), mV 0 25]) .skip))) (.seq (.region [mV 26 0, mV 4 26]) .ret))))⟩
theorem cir140 : cFunc Try.prog Try.f140 = some ir140 := by kernel_rfl
end Go.Proofs.Ytnilimjkibimcaa

