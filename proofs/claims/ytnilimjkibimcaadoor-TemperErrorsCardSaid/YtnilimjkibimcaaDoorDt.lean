import Derived.Test.YtnilimjkibimcaaDoorG11
import Derived.Test.YtnilimjkibimcaaDoorAbsI
import Derived.Test.YtnilimjkibimcaaDoorTie
import Derived.Lib.LaidTab
set_option linter.unusedVariables false

/-
  The table of this seat's rows, read out of a world that is laid.
-/
namespace Go.Proofs.YtnilimjkibimcaaDoor
open Go.Zz Go.ChangeShapes
theorem own : ownKnob Tryd.prog.godebug = none := by kernel_rfl
theorem laidOut : laidOutB Tryd.prog = true := by kernel_rfl
theorem gLogs : Tryd.prog.globalNamed "schisma/size.logs" = some 0 := by kernel_rfl
theorem gLogsType : (Tryd.prog.globals[0]?).map (·.type) = some 83 := by kernel_rfl
theorem tLogs : Tryd.prog.underlying 83 = some (.array 6 60) := by kernel_rfl
theorem tPair : ∃ fs : Array Field, Tryd.prog.underlying 60 = some (.struct fs) ∧ ∃ f0 f1, fs = #[f0, f1] ∧ f0.type = 3 ∧ f1.type = 3 ∧ f0.offset = 0 ∧ f1.offset = 1 := ⟨_, by kernel_rfl, ⟨"Lo", 3, 0, false, "", "", 0⟩, ⟨"Hi", 3, 1, false, "", "", 8⟩, rfl, rfl, rfl, rfl, rfl⟩
theorem tInt : Tryd.prog.underlying 3 = some (.int .i64) := by kernel_rfl
theorem cPair : Tryd.prog.cellsOf 60 = 2 := by kernel_rfl
theorem cInt : Tryd.prog.cellsOf 3 = 1 := by kernel_rfl
theorem pair_of {w : World} {base : Nat} {sp : Nat → Bool} {held : Bool} {H : Type} {enc : TypeId × Value → H} {fuel : Nat} {cs : List Value} {a b : Int} {p : List MemPlace}
    (h : DataW.trod enc Tryd.prog w base sp held fuel 60 cs = some (.agg [.lit (.int .i64 a), .lit (.int .i64 b)], p)) : cs[0]? = some (.int .i64 a) ∧ cs[1]? = some (.int .i64 b) := by
  obtain ⟨fs, ht, f0, f1, rfl, e0, e1, o0, o1⟩ := tPair
  obtain ⟨y0, y1, n, hx, hl, h0, h1⟩ := trod_struct2 ht h
  rw [e0] at h0
  rw [e1] at h1
  rw [o0, cInt] at h0
  rw [o1, cInt] at h1
  obtain ⟨n0, c0, rfl, _⟩ := DataW.trod_int tInt h0
  obtain ⟨n1, c1, rfl, _⟩ := DataW.trod_int tInt h1
  simp only [Prod.mk.injEq, DataW.agg.injEq, List.cons.injEq, DataW.lit.injEq, Lit.int.injEq, true_and, and_true] at hx
  obtain ⟨⟨rfl, rfl⟩, _⟩ := hx
  constructor
  · have := congrArg (·[0]?) c0
    simpa [List.getElem?_take, List.getElem?_drop] using this
  · have := congrArg (·[0]?) c1
    simpa [List.getElem?_take, List.getElem?_drop] using this
theorem globW {W : World} (h : laidMetH Tryd.prog [("schisma/size.logs", Rows.laid_schisma_size_logs)] W) : GlobW W := by
  have h : laidMet Tryd.prog [("schisma/size.logs", Rows.laid_schisma_size_logs)] W := h
  obtain ⟨ps, ⟨g', t', cs, fuel, p, q, hg', ht', hvar, hd, _, _⟩, _⟩ := h
  obtain rfl := Option.some.inj (gLogs.symm.trans hg')
  obtain rfl := Option.some.inj (gLogsType.symm.trans ht')
  obtain ⟨xs, m, _, hx, hl, hn, hi⟩ := DataW.trod_array tLogs hd
  have hxs : xs.map (·.1) = [.agg [.lit (.int .i64 1000000000), .lit (.int .i64 1000000000)], .agg [.lit (.int .i64 1584962500), .lit (.int .i64 1584962501)], .agg [.lit (.int .i64 2321928094), .lit (.int .i64 2321928095)], .agg [.lit (.int .i64 2807354922), .lit (.int .i64 2807354923)], .agg [.lit (.int .i64 3459431618), .lit (.int .i64 3459431619)], .agg [.lit (.int .i64 3700439718), .lit (.int .i64 3700439719)]] := by
    have := congrArg Prod.fst hx
    simp only [Rows.laid_schisma_size_logs, DataW.agg.injEq] at this
    exact this.symm
  have key : ∀ i a b, i < 6 → (xs.map (·.1))[i]? = some (.agg [.lit (.int .i64 a), .lit (.int .i64 b)]) → W.cell? ⟨0, i * 2, none⟩ = some (.int .i64 a) ∧ W.cell? ⟨0, i * 2 + 1, none⟩ = some (.int .i64 b) := by
    intro i a b hi6 hab
    have h1 := hi i hi6
    rw [List.getElem?_map] at hab
    obtain ⟨y, hy, hy1⟩ := Option.map_eq_some_iff.1 hab
    rw [hy, cPair] at h1
    obtain ⟨y1, y2⟩ := y
    simp only at hy1
    subst hy1
    obtain ⟨a1, a2⟩ := pair_of h1
    rw [World.var?_cell gLogs hvar (i * 2), World.var?_cell gLogs hvar (i * 2 + 1)]
    constructor
    · simpa [List.getElem?_take, List.getElem?_drop] using a1
    · simpa [List.getElem?_take, List.getElem?_drop] using a2
  rw [hxs] at key
  have k0 := key 0 _ _ (by decide) rfl
  have k1 := key 1 _ _ (by decide) rfl
  have k2 := key 2 _ _ (by decide) rfl
  have k3 := key 3 _ _ (by decide) rfl
  have k4 := key 4 _ _ (by decide) rfl
  have k5 := key 5 _ _ (by decide) rfl
  intro g l hgl i hil
  match g, hgl with
  | 0, hgl =>
    obtain rfl : logsA = l := Option.some.inj hgl
    have hil : i < 12 := hil
    match i, hil with
    | 0, _ => exact ⟨_, k0.1, .inl ⟨_, _, rfl, rfl⟩⟩
    | 1, _ => exact ⟨_, k0.2, .inl ⟨_, _, rfl, rfl⟩⟩
    | 2, _ => exact ⟨_, k1.1, .inl ⟨_, _, rfl, rfl⟩⟩
    | 3, _ => exact ⟨_, k1.2, .inl ⟨_, _, rfl, rfl⟩⟩
    | 4, _ => exact ⟨_, k2.1, .inl ⟨_, _, rfl, rfl⟩⟩
    | 5, _ => exact ⟨_, k2.2, .inl ⟨_, _, rfl, rfl⟩⟩
    | 6, _ => exact ⟨_, k3.1, .inl ⟨_, _, rfl, rfl⟩⟩
    | 7, _ => exact ⟨_, k3.2, .inl ⟨_, _, rfl, rfl⟩⟩
    | 8, _ => exact ⟨_, k4.1, .inl ⟨_, _, rfl, rfl⟩⟩
    | 9, _ => exact ⟨_, k4.2, .inl ⟨_, _, rfl, rfl⟩⟩
    | 10, _ => exact ⟨_, k5.1, .inl ⟨_, _, rfl, rfl⟩⟩
    | 11, _ => exact ⟨_, k5.2, .inl ⟨_, _, rfl, rfl⟩⟩
  | n + 1, hgl => cases hgl
noncomputable def laidWorld (os : Os) : World :=
  { World.holding Tryd.prog os ⟨#[], #[], []⟩ with heap := (World.holding Tryd.prog os ⟨#[], #[], []⟩).heap.modify 0 fun
      | .cells _ t frozen => .cells #[.int .i64 1000000000, .int .i64 1000000000, .int .i64 1584962500, .int .i64 1584962501, .int .i64 2321928094, .int .i64 2321928095, .int .i64 2807354922, .int .i64 2807354923, .int .i64 3459431618, .int .i64 3459431619, .int .i64 3700439718, .int .i64 3700439719] t frozen
      | o => o }
end Go.Proofs.YtnilimjkibimcaaDoor

