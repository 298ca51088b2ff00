import Derived.Test.YtgchabldcnmccacGreatDoorGt
import Derived.Test.YtgchabldcnmccacGreatDoorAbsI
import Derived.Test.YtgchabldcnmccacGreatDoorTie
import Derived.Lib.LaidTab
import Derived.Test.YtgchabldcnmccacGreatDoorWl

set_option linter.unusedVariables false

namespace Go.Proofs.YtgchabldcnmccacGreatDoor
open Go.Zz Go.ChangeShapes
theorem own : ownKnob Tryz.prog.godebug = none := by kernel_rfl
theorem laidOut : laidOutB Tryz.prog = true := by kernel_rfl
theorem gNib : Tryz.prog.globalNamed "schisma/wire.nibbles" = some 0 := by kernel_rfl
theorem gNibType : (Tryz.prog.globals[0]?).map (·.type) = some 112 := by kernel_rfl
theorem tNib : Tryz.prog.underlying 112 = some (.array 16 79) := by kernel_rfl
theorem tU32 : Tryz.prog.underlying 79 = some (.int .u32) := by kernel_rfl
theorem cU32 : Tryz.prog.cellsOf 79 = 1 := by kernel_rfl
theorem globW {W : World} (h : laidMetH Tryz.prog [("errors.errorType", Rows.laid_errors_errorType), ("schisma/wire.nibbles", Rows.laid_schisma_wire_nibbles)] W) : GlobW W := by
 have h2 : laidMet Tryz.prog [("schisma/wire.nibbles", Rows.laid_schisma_wire_nibbles)] W ∧ handlesMet Tryz.prog [("errors.errorType", Rows.laid_errors_errorType)] W := h
 have h := h2.1
 obtain ⟨ps, ⟨g', t', cs, fuel, p, q, hg', ht', hvar, hd, _, _⟩, _⟩ := h
 obtain rfl := Option.some.inj (gNib.symm.trans hg')
 obtain rfl := Option.some.inj (gNibType.symm.trans ht')
 obtain ⟨xs, m, _, hx, hl, hn, hi⟩ := DataW.trod_array tNib hd
 have hxs : xs.map (·.1) = [.lit (.int .u32 0), .lit (.int .u32 498536548), .lit (.int .u32 997073096), .lit (.int .u32 651767980), .lit (.int .u32 1994146192), .lit (.int .u32 1802195444), .lit (.int .u32 1303535960), .lit (.int .u32 1342533948), .lit (.int .u32 3988292384), .lit (.int .u32 4027552580), .lit (.int .u32 3604390888), .lit (.int .u32 3412177804), .lit (.int .u32 2607071920), .lit (.int .u32 2262029012), .lit (.int .u32 2685067896), .lit (.int .u32 3183342108)] := by
  have := congrArg Prod.fst hx
  simp only [Rows.laid_schisma_wire_nibbles, DataW.agg.injEq] at this
  exact this.symm
 have key : ∀ i a, i < 16 → (xs.map (·.1))[i]? = some (.lit (.int .u32 a)) → W.cell? ⟨0, i, none⟩ = some (.int .u32 a) := by
  intro i a hi6 hab
  have h1 := hi i hi6
  rw [List.getElem?_map] at hab
  obtain ⟨y, hy, hy1⟩ := Option.map_eq_some_iff.1 hab
  rw [hy, cU32] at h1
  obtain ⟨y1, y2⟩ := y
  simp only at hy1
  subst hy1
  obtain ⟨n0, c0, hx0, _⟩ := DataW.trod_int tU32 h1
  simp only [Prod.mk.injEq, DataW.lit.injEq, Lit.int.injEq, true_and] at hx0
  obtain ⟨rfl, _⟩ := hx0
  rw [World.var?_cell gNib hvar i]
  have := congrArg (·[0]?) c0
  simpa [List.getElem?_take, List.getElem?_drop] using this
 rw [hxs] at key
 have k0 := key 0 _ (by decide) rfl
 have k1 := key 1 _ (by decide) rfl
 have k2 := key 2 _ (by decide) rfl
 have k3 := key 3 _ (by decide) rfl
 have k4 := key 4 _ (by decide) rfl
 have k5 := key 5 _ (by decide) rfl
 have k6 := key 6 _ (by decide) rfl
 have k7 := key 7 _ (by decide) rfl
 have k8 := key 8 _ (by decide) rfl
 have k9 := key 9 _ (by decide) rfl
 have k10 := key 10 _ (by decide) rfl
 have k11 := key 11 _ (by decide) rfl
 have k12 := key 12 _ (by decide) rfl
 have k13 := key 13 _ (by decide) rfl
 have k14 := key 14 _ (by decide) rfl
 have k15 := key 15 _ (by decide) rfl
 intro g l hgl i hil
 match g, hgl with
 | 0, hgl =>
  obtain rfl : nibA = l := Option.some.inj hgl
  have hil : i < 16 := hil
  match i, hil with
  | 0, _ => exact ⟨_, k0, .inl ⟨_, _, rfl, rfl⟩⟩
  | 1, _ => exact ⟨_, k1, .inl ⟨_, _, rfl, rfl⟩⟩
  | 2, _ => exact ⟨_, k2, .inl ⟨_, _, rfl, rfl⟩⟩
  | 3, _ => exact ⟨_, k3, .inl ⟨_, _, rfl, rfl⟩⟩
  | 4, _ => exact ⟨_, k4, .inl ⟨_, _, rfl, rfl⟩⟩
  | 5, _ => exact ⟨_, k5, .inl ⟨_, _, rfl, rfl⟩⟩
  | 6, _ => exact ⟨_, k6, .inl ⟨_, _, rfl, rfl⟩⟩
  | 7, _ => exact ⟨_, k7, .inl ⟨_, _, rfl, rfl⟩⟩
  | 8, _ => exact ⟨_, k8, .inl ⟨_, _, rfl, rfl⟩⟩
  | 9, _ => exact ⟨_, k9, .inl ⟨_, _, rfl, rfl⟩⟩
  | 10, _ => exact ⟨_, k10, .inl ⟨_, _, rfl, rfl⟩⟩
  | 11, _ => exact ⟨_, k11, .inl ⟨_, _, rfl, rfl⟩⟩
  | 12, _ => exact ⟨_, k12, .inl ⟨_, _, rfl, rfl⟩⟩
  | 13, _ => exact ⟨_, k13, .inl ⟨_, _, rfl, rfl⟩⟩
  | 14, _ => exact ⟨_, k14, .inl ⟨_, _, rfl, rfl⟩⟩
  | 15, _ => exact ⟨_, k15, .inl ⟨_, _, rfl, rfl⟩⟩
  | j + 16, h => exact absurd h (by omega)
 | n + 1, hgl => cases hgl
noncomputable def lw0 (os : Os) : World :=
 { World.holding Tryz.prog os ⟨#[], #[], []⟩ with heap := (World.holding Tryz.prog os ⟨#[], #[], []⟩).heap.modify 0 fun
   | .cells _ t frozen => .cells #[.int .u32 0, .int .u32 498536548, .int .u32 997073096, .int .u32 651767980, .int .u32 1994146192, .int .u32 1802195444, .int .u32 1303535960, .int .u32 1342533948, .int .u32 3988292384, .int .u32 4027552580, .int .u32 3604390888, .int .u32 3412177804, .int .u32 2607071920, .int .u32 2262029012, .int .u32 2685067896, .int .u32 3183342108] t frozen
   | o => o }
noncomputable def laidWorld (os : Os) : World :=
 { lw0 os with heap := (lw0 os).heap.modify 1 fun
   | .cells _ t frozen => .cells #[.iface 169 (.agg #[.pointer (some ⟨2, 96, none⟩)])] t frozen
   | o => o }
open Go Go.Zz
theorem pa_mvs {x : AV} (h : PA (false, [.slice [.int .i64, .int .i64, .int .i64, .int .i64, .int .i64, .int .i64, .int .i64]]) x) : ∃ ms, MvL x ms := by
 obtain ⟨cs, hs, hm, hc⟩ := ca_recs (pa_one h) (by decide)
 have hex : ∃ ms : List Mv, cs = ms.map Mv.cells := by
  clear hs hm
  induction cs with
  | nil => exact ⟨[], rfl⟩
  | cons c cs ih =>
   obtain ⟨ms, rfl⟩ := ih fun c hc' => hc c (List.mem_cons_of_mem _ hc')
   obtain ⟨a, r1, rfl, ⟨a, rfl, _⟩, h1⟩ := all2_cons (hc c (by simp))
   obtain ⟨b, r2, rfl, ⟨b, rfl, _⟩, h2⟩ := all2_cons h1
   obtain ⟨d, r3, rfl, ⟨d, rfl, _⟩, h3⟩ := all2_cons h2
   obtain ⟨e, r4, rfl, ⟨e, rfl, _⟩, h4⟩ := all2_cons h3
   obtain ⟨g, r5, rfl, ⟨g, rfl, _⟩, h5⟩ := all2_cons h4
   obtain ⟨i, r6, rfl, ⟨i, rfl, _⟩, h6⟩ := all2_cons h5
   obtain ⟨j, r7, rfl, ⟨j, rfl, _⟩, h7⟩ := all2_cons h6
   obtain rfl := all2_nil h7
   exact ⟨⟨a, b, d, ⟨e, g, i, j⟩⟩ :: ms, rfl⟩
 obtain ⟨ms, rfl⟩ := hex
 exact ⟨ms, hs⟩
end Go.Proofs.YtgchabldcnmccacGreatDoor

