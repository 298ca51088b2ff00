import Derived.Test.YtnilimjkibimcaaAbsI
import Derived.Test.YtnilimjkibimcaaNk
import Derived.JoinedOf

set_option linter.unusedVariables false

namespace Go.Proofs.Ytnilimjkibimcaa
open Go Go.Zz
theorem pa_rws {x : AV} (h : PA (false, [.slice [.int .i64, .int .i64, .int .i64, .int .i64, .int .i64, .int .i64]]) x) : ∃ rs, RwL x rs ∧ rs.length < 9223372036854775808 := by
 obtain ⟨cs, hs, hm, hc⟩ := ca_recs (pa_one h) (by decide)
 have hex : ∃ rs : List (List Int), cs = rs.map icells := by
  clear hs hm
  induction cs with
  | nil => exact ⟨[], rfl⟩
  | cons c cs ih =>
   obtain ⟨rs, rfl⟩ := ih fun c hc' => hc c (List.mem_cons_of_mem _ hc')
   obtain ⟨a, r1, rfl, ⟨a, rfl, _⟩, h1⟩ := all2_cons (hc c (by simp))
   obtain ⟨b, r2, rfl, ⟨b, rfl, _⟩, h2⟩ := all2_cons h1
   obtain ⟨d, r3, rfl, ⟨d, rfl, _⟩, h3⟩ := all2_cons h2
   obtain ⟨e, r4, rfl, ⟨e, rfl, _⟩, h4⟩ := all2_cons h3
   obtain ⟨g, r5, rfl, ⟨g, rfl, _⟩, h5⟩ := all2_cons h4
   obtain ⟨i, r6, rfl, ⟨i, rfl, _⟩, h6⟩ := all2_cons h5
   obtain rfl := all2_nil h6
   exact ⟨[a, b, d, e, g, i] :: rs, rfl⟩
 obtain ⟨rs, rfl⟩ := hex
 exact ⟨rs, hs, by unfold maxLen at hm; simp at hm; omega⟩
theorem pa_vec {x : AV} (h : PA (true, [.flat (.int .i64), .flat (.int .i64), .flat (.int .i64), .flat (.int .i64), .flat (.int .i64), .flat (.int .i64)]) x) : ∃ r : List Int, x = .agg (icells r) ∧ r.length = 6 := by
 obtain ⟨l, rfl, g0⟩ := pa_agg h
 obtain ⟨_, w1, rfl, ⟨a, rfl, _⟩, g1⟩ := all2_cons g0
 obtain ⟨_, w2, rfl, ⟨b, rfl, _⟩, g2⟩ := all2_cons g1
 obtain ⟨_, w3, rfl, ⟨c, rfl, _⟩, g3⟩ := all2_cons g2
 obtain ⟨_, w4, rfl, ⟨d, rfl, _⟩, g4⟩ := all2_cons g3
 obtain ⟨_, w5, rfl, ⟨e, rfl, _⟩, g5⟩ := all2_cons g4
 obtain ⟨_, w6, rfl, ⟨g, rfl, _⟩, g6⟩ := all2_cons g5
 obtain rfl := all2_nil g6
 exact ⟨[a, b, c, d, e, g], rfl, rfl⟩
def ofN (l : List Nat) : List Char := l.map Char.ofNat
theorem words_app : ∀ (a r : List Char), (∀ c ∈ a, c ≠ Char.ofNat 32) → wordsSigns (a ++ Char.ofNat 32 :: r) = a :: wordsSigns r
 | [], r, _ => rfl
 | c :: a, r, h => by
  have ih := words_app a r fun d hd => h d (by simp [hd])
  have hc : c ≠ Char.ofNat 32 := h c (by simp)
  show wordsSigns (c :: (a ++ Char.ofNat 32 :: r)) = _
  rw [wordsSigns.eq_3 _ _ (fun e => hc e), ih]
def hd0 : List Nat := [104, 97, 114, 110, 101, 115, 115]
def hd1' : List Nat := [49, 101, 48, 97, 51, 51, 100, 56, 57, 100, 100, 49, 49, 101, 48, 97, 102, 98, 101, 57, 57, 56, 98, 50, 100, 55, 50, 48, 54, 56, 50, 97, 49, 99, 97, 49, 97, 48, 101, 49, 102, 49, 49, 56, 48, 52, 99, 100, 56, 52, 48, 101, 54, 53, 101, 50, 48, 102, 57, 50, 51, 97, 49, 53]
def hd2' : List Nat := [99, 117, 116]
def hdr : List Nat := [97, 116, 32, 115, 99, 104, 105, 115, 109, 97, 47, 115, 99, 104, 105, 115, 109, 97, 108, 97, 119, 48, 53, 46, 77, 97, 116, 114, 105, 120, 77, 97, 116, 99, 104, 101, 115, 82, 101, 102, 101, 114, 101, 110, 99, 101, 32, 115, 99, 104, 105, 115, 109, 97, 47, 115, 99, 104, 105, 115, 109, 97, 108, 97, 119, 48, 53, 46, 77, 97, 116, 114, 105, 120, 78, 111, 114, 109, 97, 108, 32, 115, 99, 104, 105, 115, 109, 97, 47, 115, 99, 104, 105, 115, 109, 97, 108, 97, 119, 48, 53, 46, 77, 97, 116, 114, 105, 120, 83, 97, 109, 101, 32, 115, 99, 104, 105, 115, 109, 97, 47, 115, 99, 104, 105, 115, 109, 97, 108, 97, 119, 48, 53, 46, 77, 97, 116, 114, 105, 120, 82, 97, 110, 107, 32, 115, 99, 104, 105, 115, 109, 97, 47, 115, 99, 104, 105, 115, 109, 97, 108, 97, 119, 48, 53, 46, 77, 97, 116, 114, 105, 120, 75, 101, 114, 110, 101, 108, 32, 115, 99, 104, 105, 115, 109, 97, 47, 115, 99, 104, 105, 115, 109, 97, 108, 97, 119, 48, 53, 46, 77, 97, 116, 114, 105, 120, 68, 105, 118, 105, 115, 111, 114, 115, 32, 115, 99, 104, 105, 115, 109, 97, 47, 115, 99, 104, 105, 115, 109, 97, 108, 97, 119, 48, 53, 46, 77, 97, 116, 114, 105, 120, 68, 111, 117, 98, 108, 101, 32, 115, 99, 104, 105, 115, 109, 97, 47, 115, 99, 104, 105, 115, 109, 97, 108, 97, 119, 48, 55, 46, 84, 101, 109, 112, 101, 114, 77, 97, 116, 99, 104, 101, 115, 82, 101, 102, 101, 114, 101, 110, 99, 101, 32, 115, 99, 104, 105, 115, 109, 97, 47, 115, 99, 104, 105, 115, 109, 97, 108, 97, 119, 48, 55, 46, 84, 101, 109, 112, 101, 114, 76, 105, 110, 101, 97, 114, 32, 115, 99, 104, 105, 115, 109, 97, 47, 115, 99, 104, 105, 115, 109, 97, 108, 97, 119, 48, 55, 46, 84, 101, 109, 112, 101, 114, 82, 97, 110, 107, 32, 115, 99, 104, 105, 115, 109, 97, 47, 115, 99, 104, 105, 115, 109, 97, 108, 97, 119, 48, 55, 46, 84, 101, 109, 112, 101, 114, 80, 117, 114, 101, 32, 115, 99, 104, 105, 115, 109, 97, 47, 115, 99, 104, 105, 115, 109, 97, 108, 97, 119, 48, 54, 46, 76, 97, 116, 116, 105, 99, 101, 77, 97, 116, 99, 104, 101, 115, 82, 101, 102, 101, 114, 101, 110, 99, 101, 32, 115, 99, 104, 105, 115, 109, 97, 47, 115, 99, 104, 105, 115, 109, 97, 108, 97, 119, 48, 54, 46, 76, 97, 116, 116, 105, 99, 101, 77, 101, 109, 98, 101, 114, 115, 32, 115, 99, 104, 105, 115, 109, 97, 47, 115, 99, 104, 105, 115, 109, 97, 108, 97, 119, 48, 54, 46, 76, 97, 116, 116, 105, 99, 101, 82, 101, 112, 114, 101, 115, 101, 110, 116, 97, 116, 105, 118, 101, 115, 32, 115, 99, 104, 105, 115, 109, 97, 47, 115, 99, 104, 105, 115, 109, 97, 108, 97, 119, 48, 54, 46, 76, 97, 116, 116, 105, 99, 101, 83, 97, 109, 101, 32, 115, 99, 104, 105, 115, 109, 97, 47, 115, 99, 104, 105, 115, 109, 97, 108, 97, 119, 48, 54, 46, 76, 97, 116, 116, 105, 99, 101, 83, 117, 109, 32, 115, 99, 104, 105, 115, 109, 97, 47, 115, 99, 104, 105, 115, 109, 97, 108, 97, 119, 48, 54, 46, 76, 97, 116, 116, 105, 99, 101, 73, 110, 100, 101, 120, 32, 115, 99, 104, 105, 115, 109, 97, 47, 115, 99, 104, 105, 115, 109, 97, 108, 97, 119, 48, 54, 46, 76, 97, 116, 116, 105, 99, 101, 79, 114, 100, 101, 114, 115, 32, 115, 99, 104, 105, 115, 109, 97, 47, 115, 99, 104, 105, 115, 109, 97, 108, 97, 119, 48, 55, 46, 84, 101, 109, 112, 101, 114, 84, 117, 110, 105, 110, 103, 32, 115, 99, 104, 105, 115, 109, 97, 47, 115, 99, 104, 105, 115, 109, 97, 108, 97, 119, 48, 55, 46, 84, 101, 109, 112, 101, 114, 75, 101, 114, 110, 101, 108, 32, 115, 99, 104, 105, 115, 109, 97, 47, 115, 99, 104, 105, 115, 109, 97, 108, 97, 119, 48, 55, 46, 84, 101, 109, 112, 101, 114, 70, 114, 111, 109]
theorem ini : Try.prog.initOrder = String.ofList (ofN (hd0 ++ 32 :: (hd1' ++ 32 :: (hd2' ++ 32 :: hdr)))) := by kernel_rfl
theorem cut_w : ofN hd2' = "cut".toList := by kernel_rfl
theorem head_of {P : Program} {a b c r : List Char} (h : P.initOrder.toList = a ++ Char.ofNat 32 :: (b ++ Char.ofNat 32 :: (c ++ Char.ofNat 32 :: r))) (ha : ∀ x ∈ a, x ≠ Char.ofNat 32) (hb : ∀ x ∈ b, x ≠ Char.ofNat 32) (hc : ∀ x ∈ c, x ≠ Char.ofNat 32) (h1 : ((a == "harness".toList || a == "ownmain".toList) && isSumSigns b) = true) (h2 : c = "cut".toList) : behindMainWord (wordsSigns P.initOrder.toList) = "cut".toList :: wordsSigns r := by
 rw [h, words_app _ _ ha, words_app _ _ hb, words_app _ _ hc, h2]
 generalize wordsSigns r = R
 show (if ((a == "harness".toList || a == "ownmain".toList) && isSumSigns b) = true then "cut".toList :: R else a :: b :: "cut".toList :: R) = _
 rw [if_pos h1]
theorem c_gc : ("cut".toList == "gc".toList) = false := by kernel_rfl
theorem c_spec : ("cut".toList == "spec".toList) = false := by kernel_rfl
theorem c_cut : ("cut".toList == "cut".toList) = true := by kernel_rfl
theorem c_car : ("cut".toList == "carried".toList) = false := by kernel_rfl
theorem c_strip (R : List (List Char)) : stripLifts liftWords ("cut".toList :: R) = ([], "cut".toList :: R) := by kernel_rfl
theorem enter_of {P : Program} {R : List (List Char)} (h : behindMainWord (wordsSigns P.initOrder.toList) = "cut".toList :: R) (h1 : P.laysLater = false) (h2 : P.bearsReflect = false) (h3 : P.doorFits [] = true) : P.mayEnter = true := by
 unfold Program.mayEnter
 rw [h]
 have e : (some "cut".toList == some "cut".toList) = true := c_cut
 simp only [c_strip, c_gc, c_spec, c_car, h1, h2, h3, List.head?_cons, e]
 rfl
theorem make_of {P : Program} {R : List (List Char)} (h : behindMainWord (wordsSigns P.initOrder.toList) = "cut".toList :: R) : P.make = some .cut := by
 unfold Program.make
 rw [h]
 simp only [c_gc, c_spec, c_cut, Bool.or_self, Bool.true_or, if_true, Bool.false_eq_true, if_false]
theorem lift_of {P : Program} {R : List (List Char)} (h : behindMainWord (wordsSigns P.initOrder.toList) = "cut".toList :: R) : P.liftsFinal = false := by
 have e1 : (some "cut".toList == some "carried".toList) = false := c_car
 have e2 : (some "cut".toList == some "cut".toList) = true := c_cut
 have hl : P.headLifts = [] := by
  unfold Program.headLifts
  rw [h]
  simp only [c_strip, List.head?_cons, e2, if_true]
 unfold Program.liftsFinal
 rw [h, hl]
 simp only [List.head?_cons, e1, Bool.false_and, Bool.false_or]
 rfl
theorem head_w : behindMainWord (wordsSigns Try.prog.initOrder.toList) = "cut".toList :: wordsSigns (ofN hdr) :=
 head_of (a := ofN hd0) (b := ofN hd1') (c := ofN hd2') (by rw [ini, String.toList_ofList]; simp [ofN]) (by decide +kernel) (by decide +kernel) (by decide +kernel) (by kernel_rfl) cut_w
theorem f_later : Try.prog.laysLater = false := by kernel_rfl
theorem f_refl : Try.prog.bearsReflect = false := by kernel_rfl
theorem f_door : Try.prog.doorFits [] = true := by kernel_rfl
theorem f_enter : Try.prog.mayEnter = true := enter_of head_w f_later f_refl f_door
theorem f_make : Try.prog.make = some .cut := make_of head_w
theorem f_lift : Try.prog.liftsFinal = false := lift_of head_w
theorem facts_of {P : Program} {f : FuncId} {fn : Func} {s : ChangeSpec} {c : OpenClaim} (k0 : c.wf (OpenSpec.ofChange s) = true) (k1 : laidOutB P = true) (k2 : mapsRowed P = true) (k3 : fn.params.all (P.readableRec ·) = true) (k4 : namedTie P c.named s.vars = true) (k5 : (c.stops == []) = true) (k6 : (P.stops == []) = true) (k7 : (c.knobs == []) = true) (k8 : (P.stopKnobs == []) = true) (k9 : (c.inPlace == P.inPlace f) = true) (k10 : (c.unfollowed == P.unfollowed f) = true) (k11 : (c.recurses == P.recurses f) = true) (k12 : (c.named == P.varsNamed f) = true) (k13 : (c.maps == (fn.params.toList ++ s.plain.varTypes P).any (P.mapsRec ·)) = true) (k14 : (c.ifaces == (fn.params.toList ++ s.plain.varTypes P).any (P.ifacesRec ·)) = true) (k15 : (c.mapsOut == P.mapsAmong fn.resultTypes.toList) = true) (k16 : (c.loops == (fn.params.toList ++ s.plain.varTypes P).any (P.loopsFrom ·)) = true) (k17 : (c.wideKeys == (fn.params.toList ++ s.plain.varTypes P ++ fn.resultTypes.toList).any (P.wideKeysFrom ·)) = true) (k18 : s.vars.all (P.varReadable ·) = true) (k19 : fn.resultTypes.all (fun t => P.readableRec t && decide (t < P.types.size)) = true) (k20 : (c.ifacesOut == fn.resultTypes.toList.any (P.ifacesRec ·)) = true) (k21 : (c.loopsOut == fn.resultTypes.toList.any (P.loopsFrom ·)) = true) (k22 : (c.plainKeys == P.plainKeys) = true) (k23 : c.shortTexts.isNone = true) (k24 : P.stopsHeard = true) (k25 : P.mayEnter = true) (k26 : (c.lifted == P.liftsFinal) = true) (k27 : (P.make == some c.make) = true) (k28 : (c.kinds == (if c.domain.isEmpty then [] else fn.params.toList.map fun t => match P.underlying t with | some (.int k) => some k | _ => none)) = true) (k29 : (c.pinned == c.pinnedBy) = true) (k30 : (c.veiled == (fn.params.toList ++ s.plain.varTypes P ++ fn.resultTypes.toList).any (P.veiledRec ·)) = true) (k31 : c.veiledFits P fn.params.toList (fn.params.toList ++ s.plain.varTypes P ++ fn.resultTypes.toList) = true) : joinedFacts P f fn s c = true := by
 unfold joinedFacts
 simp only [Bool.and_eq_true]
 exact ⟨⟨⟨⟨⟨⟨⟨⟨⟨⟨⟨⟨⟨⟨⟨⟨⟨⟨⟨⟨⟨⟨⟨⟨⟨⟨⟨⟨⟨⟨⟨k0, k1⟩, k2⟩, k3⟩, k4⟩, k5⟩, k6⟩, k7⟩, k8⟩, k9⟩, k10⟩, k11⟩, k12⟩, k13⟩, k14⟩, k15⟩, k16⟩, k17⟩, k18⟩, k19⟩, k20⟩, k21⟩, k22⟩, k23⟩, k24⟩, k25⟩, k26⟩, k27⟩, k28⟩, k29⟩, k30⟩, k31⟩
theorem own : ownKnob Try.prog.godebug = none := by kernel_rfl
theorem laid : laidOutB Try.prog = true := by kernel_rfl
end Go.Proofs.Ytnilimjkibimcaa

