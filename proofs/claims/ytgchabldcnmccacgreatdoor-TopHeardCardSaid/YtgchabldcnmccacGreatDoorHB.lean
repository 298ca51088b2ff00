import Derived.Test.YtgchabldcnmccacGreatDoorHKi
import Derived.Test.YtgchabldcnmccacGreatDoorRows
import Derived.WalkKit
import Derived.LaidEql
import Derived.Stop.Asserts
import Derived.RowKitTokens
import Derived.KernelRfl
import Derived.Test.YtgchabldcnmccacGreatDoorGt
import Derived.Test.YtgchabldcnmccacGreatDoorAbsI
import Derived.Test.YtgchabldcnmccacGreatDoorAbsK

set_option linter.unusedSimpArgs false
set_option linter.unusedVariables false

namespace Go.Proofs.YtgchabldcnmccacGreatDoor
open Go.Zz
set_option maxRecDepth 100000
set_option maxHeartbeats 8000000
def uB (bs : List Int) : List AV := bs.map (.int .u8)
def ByS (x : AV) (bs : List Int) : Prop := (x = .snil ∧ bs = []) ∨ ∃ full, x = .sval full bs.length (uB bs)
theorem ByS.len {x : AV} {bs : List Int} (h : ByS x bs) : slen x = some bs.length := by
 rcases h with ⟨rfl, rfl⟩ | ⟨full, rfl⟩ <;> rfl
theorem ByS.cells {x : AV} {bs : List Int} (h : ByS x bs) : x.cells = some [x] := by
 rcases h with ⟨rfl, rfl⟩ | ⟨full, rfl⟩ <;> rfl
def bnth (bs : List Int) (i : Nat) : Int := bs.getD i 0
theorem ByS.at {x : AV} {bs : List Int} (h : ByS x bs) {i : Nat} (hi : i < bs.length) : indexAddrAV 1 x (.int .i64 (i : Int)) = some (.pval (.int .u8 (bnth bs i) :: uB (bs.drop (i + 1)))) := by
 rcases h with ⟨rfl, rfl⟩ | ⟨full, rfl⟩
 ·simp at hi
 ·have e : bnth bs i = bs[i] := by simp [bnth, hi]
  simp only [indexAddrAV, idx_nat hi, Option.map_some, Nat.mul_one, uB, ← List.map_drop, drop_cons hi, List.map_cons, e]
theorem uB_flat (bs : List Int) : (uB bs).all flatAV = true := by simp [uB, flatAV]
theorem uB_len (bs : List Int) : (uB bs).length = bs.length := by simp [uB]
theorem ByS.scells {x : AV} {bs : List Int} (h : ByS x bs) (H : Hp) : scells H 1 x = some (uB bs) := by
 rcases h with ⟨rfl, rfl⟩ | ⟨full, rfl⟩
 ·rfl
 ·simp [Zz.scells, uB_len]
theorem ByS.pureC {x : AV} {bs : List Int} (h : ByS x bs) : Zz.pureC x = true := by
 rcases h with ⟨rfl, rfl⟩ | ⟨full, rfl⟩
 ·rfl
 ·exact uB_flat _
theorem ByS.pureA {x : AV} {bs : List Int} (h : ByS x bs) : Zz.pureA x = true := by
 rcases h with ⟨rfl, rfl⟩ | ⟨full, rfl⟩
 ·rfl
 ·exact uB_flat _
theorem ByS.byC {x : AV} {bs : List Int} (h : ByS x bs) (H : Hp) : Zz.byC H x = some x := by
 rcases h with ⟨rfl, rfl⟩ | ⟨full, rfl⟩
 ·rfl
 ·simp only [Zz.byC, uB_flat, if_true]
theorem ByS.byVal {x : AV} {bs : List Int} (h : ByS x bs) (H : Hp) : Zz.byVal H x = some x := by
 rcases h with ⟨rfl, rfl⟩ | ⟨full, rfl⟩
 ·rfl
 ·simp only [Zz.byVal, Zz.byC, uB_flat, if_true]
theorem ByS.mk (bs : List Int) (f : Bool) : ByS (.sval f bs.length (uB bs)) bs := .inr ⟨f, rfl⟩
theorem ByS.cut {x : AV} {bs : List Int} (h : ByS x bs) {a b : Nat} (h1 : a ≤ b) (h2 : b ≤ bs.length) (H : Hp) : ∃ y, sliceAV H 1 x (some (.int .i64 (a : Int))) (some (.int .i64 (b : Int))) none = some y ∧ ByS y ((bs.drop a).take (b - a)) := by
 rcases h with ⟨rfl, rfl⟩ | ⟨full, rfl⟩
 ·simp only [List.length_nil] at h2
  obtain rfl : b = 0 := by omega
  obtain rfl : a = 0 := by omega
  exact ⟨.snil, by rfl, .inl ⟨rfl, rfl⟩⟩
 ·have hb : ∃ m, bnds bs.length (if full then some bs.length else none) (some (.int .i64 (a : Int))) (some (.int .i64 (b : Int))) none = some (a, b, m) := by
   have e1 : (0 : Int) ≤ a ∧ (a : Int) ≤ (b : Nat) := by omega
   have e2 : (0 : Int) ≤ b ∧ (b : Int) ≤ (bs.length : Nat) := by omega
   have e3 : (0 : Int) ≤ bs.length ∧ (bs.length : Int) ≤ (bs.length : Nat) := by omega
   cases full <;> simp [bnds, bndO, bnd, e1, e2]
  obtain ⟨m, hm⟩ := hb
  have hl : ((bs.drop a).take (b - a)).length = b - a := by simp; omega
  refine ⟨.sval (match m with | some c => c == b | none => false) (b - a) (((uB bs).drop (a * 1)).take ((b - a) * 1)), ?_, .inr ⟨(match m with | some c => c == b | none => false), ?_⟩⟩
  ·simp only [sliceAV, uB_len, Nat.mul_one, if_true, hm, Option.map_some]
   cases m <;> rfl
  ·rw [hl]
   simp [uB, List.map_take, List.map_drop]
def nib : List Int := [0, 498536548, 997073096, 651767980, 1994146192, 1802195444, 1303535960, 1342533948, 3988292384, 4027552580, 3604390888, 3412177804, 2607071920, 2262029012, 2685067896, 3183342108]
def xr (a b : Int) : Int := IntKind.u32.wrap (BitVec.ofInt IntKind.u32.bits a ^^^ BitVec.ofInt IntKind.u32.bits b).toNat
def lo4 (a : Int) : Int := IntKind.u32.wrap (BitVec.ofInt IntKind.u32.bits a &&& BitVec.ofInt IntKind.u32.bits 15).toNat
def nibS (c : Int) : Int := xr (c.fdiv 16) (nib.getD (lo4 c).toNat 0)
def crcS (c b : Int) : Int := nibS (nibS (xr c (IntKind.u32.wrap b)))
def crcF (bs : List Int) : Int := bs.foldl crcS 4294967295
def crc (bs : List Int) : Int := xr 4294967295 (crcF bs)
theorem lo4_bd (a : Int) : 0 ≤ lo4 a ∧ lo4 a < 16 := by
 have h : (BitVec.ofInt 32 a &&& 15#32).toNat ≤ 15 := by
  rw [BitVec.toNat_and]
  exact Nat.and_le_right
 have e : lo4 a = IntKind.u32.wrap ((BitVec.ofInt 32 a &&& 15#32).toNat : Int) := rfl
 rw [e]
 generalize (BitVec.ofInt 32 a &&& 15#32).toNat = k at h
 unfold IntKind.wrap
 simp only [IntKind.signed, IntKind.bits]
 simp
 omega
theorem crcF_step {bs : List Int} {i : Nat} (hi : i < bs.length) : crcF (bs.take (i + 1)) = crcS (crcF (bs.take i)) (bnth bs i) := by
 have e : bnth bs i = bs[i] := by simp [bnth, hi]
 rw [List.take_succ_eq_append_getElem hi, e]
 unfold crcF
 rw [List.foldl_append]
 rfl
theorem nib_ev {call : AV → List AV → Mem → Option (AV × Mem)} {T : List AV} {m : Mem} {x : Opd} {v : Int} (hx : x.ev T = .int .u32 v) (h : 0 ≤ v ∧ v < 16) : evOp call T m (.indexAddrArr 16 1 (.con (.pval (nib.map (.int .u32)))) x) = some (.pval ((nib.map (.int .u32)).drop v.toNat), m) := by
 rw [ev_indexAddrArr, hx]
 unfold idx
 simp only
 rw [if_pos (by omega)]
 simp only [Option.bind_some, Nat.mul_one]
 rfl
theorem nib_ld {H : Hp} {v : Int} (h : 0 ≤ v ∧ v < 16) : loadAV H false 1 (.pval ((nib.map (.int .u32)).drop v.toNat)) = some (.int .u32 (nib.getD v.toNat 0)) := by
 have hl : v.toNat < nib.length := by show v.toNat < 16; omega
 simp only [loadAV, loadCs, List.getElem?_drop, Nat.add_zero, Bool.false_eq_true, if_false]
 rw [List.getElem?_map, List.getElem?_eq_getElem hl, List.getD_eq_getElem?_getD, List.getElem?_eq_getElem hl]
 rfl
theorem f45 {x : AV} {bs : List Int} (hx : ByS x bs) (hlen : (bs.length : Int) ≤ 1000000) : WF E12 (.func 18 [] []) [x] ⟨[], []⟩ fun y m' => y = .int .u32 (crc bs) := by
 refine WF.fnE rfl (fn_of Tryz.func18 cir18) (by show 1 ≤ 33; decide) ?_
 unfold ir18; dsimp only [k0, kI, mV, oO, oG]
 simp only [padTo, List.replicate, List.nil_append, List.append_nil]
 repeat' (first | (refine WO.opE (by intro; simp (disch := omega) only [go_sem]; rfl) (by simp only [pt8, pt0, pt2, pt3, pt6]; rfl) ?_) | (refine WO.opE (by intro; exact ev_lenS (by simp only [go_sem]; exact hx.len)) (by simp only [pt7]; rfl) ?_) | (refine WC.seq ?_) | (refine WC.region ?_) | (refine WO.nil ?_) | (simp only [fl1]) | (refine WC.block ?_))
 refine WC.loopI (fun m s => ∃ T i, s = ⟨T, [], []⟩ ∧ T.length = 33 ∧ gt T 3 = .int .u32 (crcF (bs.take i)) ∧ gt T 6 = x ∧ gt T 7 = .int .i64 (bs.length : Nat) ∧ gt T 8 = .int .i64 (i : Nat) ∧ m + i = bs.length) ?_ bs.length _ ⟨_, 0, rfl, rfl, rfl, rfl, rfl, rfl, by omega⟩
 rintro m _ ⟨T, i, rfl, hT, g3, g6, g7, g8, hml⟩
 obtain ⟨f, rfl⟩ := ex33 hT
 clear hT
 replace g3 : f 3 = .int .u32 (crcF (bs.take i)) := g3
 replace g6 : f 6 = x := g6
 replace g7 : f 7 = .int .i64 (bs.length : Nat) := g7
 replace g8 : f 8 = .int .i64 (i : Nat) := g8
 simp only [g3, g6, g7, g8]
 by_cases hi : i < bs.length
 ·have hat := hx.at hi
  have hst := crcF_step hi
  generalize crcF (bs.take i) = c at *
  generalize bnth bs i = b at *
  repeat' (first | (refine WO.opE (by intro; simp (disch := omega) only [go_sem, Int.reduceToNat, reduceCtorEq, hat]; rfl) (by simp only [pt8, pt0, pt1, pt2, pt3, pt4, pt5, pt6, pt7]; rfl) ?_) | (refine WO.opE (by intro; exact nib_ev rfl (lo4_bd _)) (by simp only [pt8, pt3, pt4]; rfl) ?_) | (refine WO.opE (by intro; rw [ev_load]; exact congrArg (Option.map _) (nib_ld (lo4_bd _))) (by simp only [pt8, pt4, pt5]; rfl) ?_) | (refine WC.seq ?_) | (refine WC.region ?_) | (refine WO.nil ?_) | (simp only [fl10]) | (refine WC.skip ?_) | (refine WC.block ?_) | (refine WC.em2 rfl (fun hp => ?_) (fun hp => ?_) <;> try (exfalso; first | omega | contradiction)))
  refine ⟨m - 1, by omega, _, i + 1, rfl, rfl, ?_, rfl, rfl, rfl, by omega⟩
  rw [hst]
  rfl
 ·have hie : i = bs.length := by omega
  subst hie
  rw [List.take_length]
  repeat' (first | (refine WO.opE (by intro; simp (disch := omega) only [go_sem, Int.reduceNeg]; rfl) (by simp only [pt8, pt0, pt1, pt2, pt7]; rfl) ?_) | (refine WC.seq ?_) | (refine WC.region ?_) | (refine WO.nil ?_) | (simp only [fl1]) | (refine WC.exit ?_) | (refine WC.ret ?_) | (refine WC.em2 rfl (fun hp => ?_) (fun hp => ?_) <;> try (exfalso; first | omega | contradiction)))
  exact ⟨_, rfl, rfl⟩
theorem s45 {x z : AV} {bs : List Int} {m : Mem} (hz : Zz.byVal m.heap z = some x) (hx : ByS x bs) (hlen : (bs.length : Int) ≤ 1000000) : borrowX E12 18 [z] m = some (.int .u32 (crc bs), m) :=
 borrowX_of (byVals_cons hz (byVals_nil _)) ((f45 hx hlen).mono fun y m' h => by rw [h]; rfl)
noncomputable def E13 : Env := E12.put 18 (borrowX E12 18)
theorem E13_ok : EnvOk Tryz.prog E13 := Env.put_ok E12_ok (borrowX_ok E12_ok (callable Tryz.func18 (by kernel_rfl)))
def u8 (n : Int) : Int := IntKind.u8.wrap n
def sealP (bs : List Int) : List Int := u8 (bs.length : Nat) :: bs
def sumB (c : Int) : List Int := [u8 (c.fdiv 16777216), u8 (c.fdiv 65536), u8 (c.fdiv 256), u8 c]
def sealB (bs : List Int) : List Int := sealP bs ++ sumB (crc (sealP bs))
noncomputable def E14 : Env := E13
theorem E14_ok : EnvOk Tryz.prog E14 := E13_ok
def body1 (r : Rc) : List Int := [u8 r.k, u8 r.s]
def body2 (r : Rc) : List Int := [u8 (r.b.fdiv 65536), u8 (r.b.fdiv 256), u8 r.b]
def body3 (r : Rc) : List Int := [u8 r.v.c, u8 (r.v.n + 1), u8 r.v.d]
def bodyB (r : Rc) : List Int := if r.k = 1 then body1 r ++ body2 r else (body1 r ++ body2 r) ++ body3 r
def frameB (r : Rc) : List Int := sealB (bodyB r)
noncomputable def E15 : Env := E14
theorem E15_ok : EnvOk Tryz.prog E15 := E14_ok
open Go.RowKit Go.Extern.Stop Go.Stop Go.Extern
theorem he_typeOf (v : Value) (w : World) : (Extern.ReflectliteType.typeOf #[.iface 31 v]).run Tryz.prog w = .ok (.iface 169 (.agg #[.pointer (some ⟨2, 31, none⟩)])) w := by kernel_rfl
def heCmp : Array Value → Sem Value := Extern.ReflectliteType.method fun t => do Go.Extern.Rtype.noPackHeld "Comparable" t; pure (.bool (← typeInfo t).comparable)
theorem he_comparable (w : World) : (heCmp #[.agg #[.pointer (some ⟨2, 31, none⟩)]]).run Tryz.prog w = .ok (.bool true) w := by kernel_rfl
theorem he_comp : (Tryz.prog.info? 31).map (·.comparable) = some true := by kernel_rfl
theorem he_noIs (v : Value) (xT : TypeId) (w : World) : (Instr.typeAssert (.iface 162 v) xT 171 true).run Tryz.prog w = .ok (.tuple #[.nilIface, .bool false]) w := run_typeAssert_lacksB Tryz.underlying171 (by kernel_rfl) (by kernel_rfl) v xT w
theorem he_hasUnwrap (v : Value) (xT : TypeId) (w : World) : (Instr.typeAssert (.iface 162 v) xT 174 true).run Tryz.prog w = .ok (.tuple #[.iface 162 v, .bool true]) w := run_typeAssert_hasB Tryz.underlying174 (by kernel_rfl) v xT w
theorem he_mCmp (v : Value) (w : World) : (Go.method 337 169 v "Comparable").run Tryz.prog w = .ok (123, v) w := by kernel_rfl
theorem he_mUnw (a k : Int) (w : World) : (Go.method 337 162 (.agg #[.int .i64 a, .int .i64 k]) "Unwrap").run Tryz.prog w = .ok (120, .agg #[.int .i64 a, .int .i64 k]) w := by kernel_rfl
theorem he_is_nil (v : Value) (w : World) : Calls Tryz.prog 29 #[.nilIface, .iface 31 v] w fun e w' => e = .returned (.bool false) ∧ w' = w := by
 have hn := run_eql_iface_nil_left (P := Tryz.prog) w 31 v Tryz.underlying96
 go_enter Tryz.func29, Tryz.ntmps29
 go_wp2
 go_ret
 exact ⟨rfl, rfl⟩
theorem he_eqIn {P : Program} (w : World) (d : Nat) {ti tp : TypeId} {ms : Array (String × TypeId)} {i : TypeInfo} {q : IntKind} (k : Int) (hi : P.underlying ti = some (.interface ms)) (hp : P.underlying tp = some (.int q)) (hinfo : P.info? tp = some i) (hcomp : i.comparable = true) :
  (Op.equalIn (d + 2) ti (.iface tp (.int .i64 k)) (.iface tp (.int .i64 k))).run P w = .ok true w := by
 simp [Op.equalIn, run_underlying hi, run_underlying hp, typeInfo, hinfo, hcomp]
theorem he_eq {P : Program} (w : World) {ti tp : TypeId} {ms : Array (String × TypeId)} {i : TypeInfo} {q : IntKind} (k : Int) (hi : P.underlying ti = some (.interface ms)) (hp : P.underlying tp = some (.int q)) (hinfo : P.info? tp = some i) (hcomp : i.comparable = true) :
  (binOp .eql ti (.iface tp (.int .i64 k)) (.iface tp (.int .i64 k))).run P w = .ok (.bool true) w := by
 simp only [binOp]
 simp [Op.equal, Op.maxDepth, he_eqIn w 9998 k hi hp hinfo hcomp]
theorem he_neIn {P : Program} (w : World) (d : Nat) {ti tp tq : TypeId} {ms : Array (String × TypeId)} (u v : Value) (hi : P.underlying ti = some (.interface ms)) (hne : tp ≠ tq) : (Op.equalIn (d + 1) ti (.iface tp u) (.iface tq v)).run P w = .ok false w := by
 simp [Op.equalIn, run_underlying hi, hne]
theorem he_ne {P : Program} (w : World) {ti tp tq : TypeId} {ms : Array (String × TypeId)} (u v : Value) (hi : P.underlying ti = some (.interface ms)) (hne : tp ≠ tq) : (binOp .eql ti (.iface tp u) (.iface tq v)).run P w = .ok (.bool false) w := by
 simp only [binOp]
 simp [Op.equal, Op.maxDepth, he_neIn w 9999 u v hi hne]
set_option maxRecDepth 100000 in
theorem he_is_wrap (a k : Int) (w : World) : Calls Tryz.prog 29 #[.iface 162 (.agg #[.int .i64 a, .int .i64 k]), .iface 31 (.int .i64 k)] w fun e w' => e = .returned (.bool true) ∧ w' = w.alloc (Obj.cells #[.int .i64 a, .int .i64 k] 162) := by
 obtain ⟨i, hi, hcmp⟩ := Option.map_eq_some_iff.1 he_comp
 have h54 := @run_callFunc_extern Tryz.prog 54 _ Extern.ReflectliteType.typeOf Tryz.func54 (by kernel_rfl) (by kernel_rfl) (by kernel_rfl) (by kernel_rfl)
 have h123 := @run_callFunc_extern Tryz.prog 123 _ heCmp Tryz.func123 (by kernel_rfl) (by kernel_rfl) (by kernel_rfl) (by kernel_rfl)
 have tT := he_typeOf
 have cT := he_comparable
 have mR := he_mCmp
 have nW := he_noIs
 have uW := he_hasUnwrap
 have mU := he_mUnw
 have heq := fun w => he_eq (P := Tryz.prog) w k Tryz.underlying96 Tryz.underlying31 hi hcmp
 have hty := fun w => he_ne (P := Tryz.prog) w (tp := 162) (tq := 31) (.agg #[.int .i64 a, .int .i64 k]) (.int .i64 k) Tryz.underlying96 (by decide)
 go_enter Tryz.func29, Tryz.ntmps29
 go_wp2
 refine wp_loop_rounds 2 ?_
 rw [rounds_succ]
 go_wp2
 rw [rounds_succ]
 go_wp2
 go_ret
 exact ⟨rfl, rfl⟩
open Go.Zz
theorem callableE {g : Nat} {f : Func} (hf : Tryz.prog.funcs[g]? = some f) (h : (f.name != "runtime.NumGoroutine" && f.body.isSome) = true) : Callable Tryz.prog g := by
 simp only [Bool.and_eq_true, bne_iff_ne, ne_eq] at h
 exact ⟨f, hf, h.1, h.2⟩
def isS : List AV → Mem → Option (AV × Mem)
 | [.inil, .ifc 31 _], m => some (.bool false, m)
 | [.ifc 162 (.agg [.int .i64 a, .int .i64 k]), .ifc 31 (.int .i64 k')], m => if k = k' then some (.bool true, newBlk m [.int .i64 a, .int .i64 k]) else none
 | _, _ => none
theorem rvs2 [Globs] {M : Mp} {x y : AV} {c : Array Value} (h : RVs M [x, y] c) : ∃ u v, c = #[u, v] ∧ RV M x u ∧ RV M y v := by
 have hl := h.len
 obtain ⟨l⟩ := c
 match l, hl with
 | [u, v], _ => exact ⟨u, v, rfl, by simpa [gt, ag] using h.rel 0, by simpa [gt, ag] using h.rel 1⟩
theorem isS_ok : SpecOk Tryz.prog 29 isS := by
 refine ⟨callableE Tryz.func29 (by kernel_rfl), fun args m v m' hS N M w cargs hr h hf => ?_⟩
 unfold isS at hS
 split at hS
 ·rename_i x
  cases hS
  obtain ⟨u, y, rfl, h1, h2⟩ := rvs2 hr
  cases h1
  cases h2
  rename_i z _
  refine CallsIn.mono (callsIn_wide.2 (he_is_nil z w)) ?_
  rintro e w' ⟨rfl, rfl⟩
  exact ⟨_, rfl, M, .bool _, h, Fr.refl _ _ _ _⟩
 ·rename_i a k k'
  split at hS
  ·rename_i e
   subst e
   cases hS
   obtain ⟨u, y, rfl, h1, h2⟩ := rvs2 hr
   cases h1
   rename_i z h1
   cases h2
   rename_i z2 h2
   cases h2
   cases h1 with
   | agg _ c hl h1 h0 =>
   obtain ⟨c1, c2, rfl, r1, r2⟩ := rvs2 (⟨hl, h1⟩ : RVs M _ c)
   cases r1
   cases r2
   refine CallsIn.mono (callsIn_wide.2 (he_is_wrap a k w)) ?_
   rintro e w' ⟨rfl, rfl⟩
   obtain ⟨a1, a2, a3⟩ := made (w' := w.alloc (.cells #[.int .i64 a, .int .i64 k] 162)) h (fun g => hf.loc _ g (Nat.le_refl _)) [.int .i64 a, .int .i64 k] #[.int .i64 a, .int .i64 k] 162 rfl rfl rfl (by simp) (fun i hi => by
    match i, hi with
    | 0, _ => exact ⟨.int _ _, rfl⟩
    | 1, _ => exact ⟨.int _ _, rfl⟩)
   exact ⟨_, rfl, _, .bool _, a1, a2⟩
  ·cases hS
 ·cases hS
set_option maxRecDepth 100000
set_option maxHeartbeats 8000000
structure Mg where
 k : Int
 f : Int
 t : Int
 s : Int
 b : Int
 w : Int
 v : Tk
 deriving Inhabited, DecidableEq
def Mg.cells (m : Mg) : List AV := .int .i64 m.k :: .int .i64 m.f :: .int .i64 m.t :: .int .i64 m.s :: .int .i64 m.b :: .int .i64 m.w :: m.v.cells
def MgOk (m : Mg) : Prop := m.k = 4 ∧ (0 ≤ m.f ∧ m.f < 8) ∧ (0 ≤ m.t ∧ m.t < 8) ∧ m.f ≠ m.t ∧ (1 ≤ m.s ∧ m.s < 16) ∧ (1 ≤ m.b ∧ m.b ≤ 1000000) ∧ m.w = 0 ∧ TkOk m.v ∧ m.v.s = m.s
theorem g42 {t : Tk} (h : TkOk t) : WF E15 (.func 42 [] []) [.agg t.cells, .int .i64 t.s] ⟨[], []⟩ fun y m' => y = .bool true := by
 obtain ⟨s, c, n, d⟩ := t
 obtain ⟨h1, h2, h3, h4, h5, h6, h7⟩ := h
 simp only at h1 h2 h3 h4 h5 h6 h7
 simp only [Tk.cells]
 rcases h7 with ⟨rfl, rfl⟩ | rfl | rfl
 ·
  refine WF.fnE rfl (fn_of Tryz.func42 cir42) (by show 2 ≤ 49; decide) ?_
  unfold ir42; dsimp only [k0, kI, mV, oO, oG]
  simp only [padTo, List.replicate, List.nil_append, List.append_nil]
  repeat' (first | (refine WO.yes rfl ?_) | (refine WO.opE (by intro; simp (disch := omega) only [go_sem, Zz.look, Zz.cut, Nat.reduceAdd, Int.reduceNeg, Int.reduceAdd]; rfl) (by simp only [pt8, pt0, pt1, pt2, pt3, pt4, pt5, pt6, pt7]; rfl) ?_) | (refine WC.seq ?_) | (refine WC.region ?_) | (refine WO.nil ?_) | (simp only [fl1]) | (refine WC.ret ?_) | (refine WO.em2 rfl (by intro hp; simp only [hp, decide_true]; rfl) (by intro hp; simp only [hp, decide_false]; rfl) (fun hp => ?_) (fun hp => ?_) <;> try (exfalso; first | omega | contradiction)) | fail)
  all_goals first | exact ⟨_, rfl, rfl⟩ | (exfalso; omega)
 ·
  refine WF.fnE rfl (fn_of Tryz.func42 cir42) (by show 2 ≤ 49; decide) ?_
  unfold ir42; dsimp only [k0, kI, mV, oO, oG]
  simp only [padTo, List.replicate, List.nil_append, List.append_nil]
  repeat' (first | (refine WO.yes rfl ?_) | (refine WO.noE rfl (by simp only [pt8, pt0, pt3, pt4, pt5, pt6, pt7]; rfl) ?_) | (refine WO.opE (by intro; simp (disch := omega) only [go_sem, Zz.look, Zz.cut, Nat.reduceAdd, Int.reduceNeg, Int.reduceAdd]; rfl) (by simp only [pt8, pt0, pt1, pt2, pt3, pt4, pt5, pt6, pt7]; rfl) ?_) | (refine WC.seq ?_) | (refine WC.region ?_) | (refine WO.nil ?_) | (simp only [fl1]) | (refine WC.ret ?_) | (refine WO.em2 rfl (by intro hp; simp only [hp, decide_true]; rfl) (by intro hp; simp only [hp, decide_false]; rfl) (fun hp => ?_) (fun hp => ?_) <;> try (exfalso; first | omega | contradiction)) | fail)
  all_goals first | exact ⟨_, rfl, rfl⟩ | (exfalso; omega)
 ·
  refine WF.fnE rfl (fn_of Tryz.func42 cir42) (by show 2 ≤ 49; decide) ?_
  unfold ir42; dsimp only [k0, kI, mV, oO, oG]
  simp only [padTo, List.replicate, List.nil_append, List.append_nil]
  repeat' (first | (refine WO.yes rfl ?_) | (refine WO.noE rfl (by simp only [pt8, pt0, pt3, pt4, pt5, pt6, pt7]; rfl) ?_) | (refine WO.opE (by intro; simp (disch := omega) only [go_sem, Zz.look, Zz.cut, Nat.reduceAdd, Int.reduceNeg, Int.reduceAdd, reduceCtorEq]; rfl) (by simp only [pt8, pt0, pt1, pt2, pt3, pt4, pt5, pt6, pt7]; rfl) ?_) | (refine WC.seq ?_) | (refine WC.region ?_) | (refine WO.nil ?_) | (simp only [fl1]) | (refine WC.ret ?_) | (refine WO.em2 rfl (by intro hp; simp only [hp, decide_true]; rfl) (by intro hp; simp only [hp, decide_false]; rfl) (fun hp => ?_) (fun hp => ?_) <;> try (exfalso; first | omega | contradiction)) | fail)
  all_goals first | exact ⟨_, rfl, rfl⟩ | (exfalso; omega)
theorem s42 {t : Tk} (h : TkOk t) {m : Mem} : borrowE E15 42 [.agg t.cells, .int .i64 t.s] m = some (.bool true, m) :=
 borrowE_of rfl ((g42 h).mono fun y m' h => by rw [h]; rfl)
noncomputable def X1 : Env := E15.put 42 (borrowE E15 42)
theorem X1_ok : EnvOk Tryz.prog X1 := Env.put_ok E15_ok (borrowE_ok E15_ok (callable Tryz.func42 (by kernel_rfl)))
theorem g16 {q : Mg} (h : MgOk q) : WF X1 (.func 16 [] []) [.agg q.cells] ⟨[], []⟩ fun y m' => y = .bool true := by
 obtain ⟨k, f, t, s, b, w, v⟩ := q
 obtain ⟨rfl, ⟨h1, h2⟩, ⟨h3, h4⟩, h5, ⟨h6, h7⟩, ⟨h8, h9⟩, rfl, h10, h11⟩ := h
 simp only at h1 h2 h3 h4 h5 h6 h7 h8 h9 h11
 have hs42 := fun m => s42 (m := m) h10
 obtain ⟨vs, vc, vn, vd⟩ := v
 simp only at h11
 subst h11
 simp only [Mg.cells, Tk.cells] at hs42 ⊢
 have hmm : minmaxAV false [.int .i64 f, .int .i64 t] = some (.int .i64 (if t < f then t else f)) := by
  simp [minmaxAV, mmGo]
 have hmx : minmaxAV true [.int .i64 f, .int .i64 t] = some (.int .i64 (if t > f then t else f)) := by
  simp [minmaxAV, mmGo]
 have hmi : 0 ≤ (if t < f then t else f) := by split <;> omega
 have hma : (if t > f then t else f) < 8 := by split <;> omega
 generalize (if t < f then t else f) = lo at *
 generalize (if t > f then t else f) = hi at *
 refine WF.fnE rfl (fn_of Tryz.func16 cir16) (by show 1 ≤ 88; decide) ?_
 unfold ir16; dsimp only [k0, kI, mV, oO, oG]
 simp only [padTo, List.replicate, List.nil_append, List.append_nil]
 repeat' (first | (refine WO.yes rfl ?_) | (refine WO.opE (by intro; simp (disch := omega) only [go_sem, Zz.look, Zz.cut, Nat.reduceAdd, Nat.reduceLeDiff]; rfl) (by simp only [pt8, pt0, pt1, pt2, pt3, pt4, pt5, pt6, pt7]; rfl) ?_) | (refine WO.specE rfl rfl (hs42 _) (by simp only [pt8, pt6]; rfl) ?_) | (refine WC.seq ?_) | (refine WC.region ?_) | (refine WO.nil ?_) | (simp only [fl1, fl2, fl5]) | (refine WC.yes rfl ?_) | (refine WC.no rfl ?_) | (refine WC.skip ?_) | (refine WC.exit ?_) | (refine WC.ret ?_) | (refine WC.block ?_) | (refine WO.em2 rfl (by intro hp; simp only [hp, decide_true]; rfl) (by intro hp; simp only [hp, decide_false]; rfl) (fun hp => ?_) (fun hp => ?_) <;> try (exfalso; first | omega | contradiction)) | (refine WC.em2 rfl (fun hp => ?_) (fun hp => ?_) <;> try (exfalso; first | omega | contradiction)))
 all_goals first | exact ⟨_, rfl, rfl⟩ | (exfalso; omega)
theorem s16 {q : Mg} (h : MgOk q) {m : Mem} : borrowE X1 16 [.agg q.cells] m = some (.bool true, m) :=
 borrowE_of rfl ((g16 h).mono fun y m' h => by rw [h]; rfl)
noncomputable def X2 : Env := X1.put 16 (borrowE X1 16)
theorem X2_ok : EnvOk Tryz.prog X2 := Env.put_ok X1_ok (borrowE_ok X1_ok (callable Tryz.func16 (by kernel_rfl)))
set_option maxRecDepth 100000
set_option maxHeartbeats 8000000
def dig (n : Nat) : List Int := if h : 127 < n then ((n % 128 + 128 : Nat) : Int) :: dig (n / 128) else [(n : Int)]
termination_by n
decreasing_by omega
theorem dig_big {n : Nat} (h : 127 < n) : dig n = ((n % 128 + 128 : Nat) : Int) :: dig (n / 128) := by
 rw [dig, dif_pos h]
theorem dig_small {n : Nat} (h : ¬ 127 < n) : dig n = [(n : Int)] := by
 rw [dig, dif_neg h]
theorem dig_len {n : Nat} (h : n < 2097152) : 1 ≤ (dig n).length ∧ (dig n).length ≤ 3 := by
 by_cases h1 : 127 < n
 ·rw [dig_big h1]
  by_cases h2 : 127 < n / 128
  ·rw [dig_big h2, dig_small (by omega)]
   simp
  ·rw [dig_small h2]
   simp
 ·rw [dig_small h1]
  simp
theorem dig_byte {n : Nat} (h : n < 2097152) : ∀ x ∈ dig n, 0 ≤ x ∧ x < 256 := by
 intro x hx
 by_cases h1 : 127 < n
 ·rw [dig_big h1] at hx
  rcases List.mem_cons.1 hx with rfl | hx
  ·omega
  ·by_cases h2 : 127 < n / 128
   ·rw [dig_big h2, dig_small (by omega)] at hx
    rcases List.mem_cons.1 hx with rfl | hx
    ·omega
    ·obtain rfl := List.mem_singleton.1 hx
     omega
   ·rw [dig_small h2] at hx
    obtain rfl := List.mem_singleton.1 hx
    omega
 ·rw [dig_small h1] at hx
  obtain rfl := List.mem_singleton.1 hx
  omega
theorem and127 {n : Nat} (h : n < 2097152) : IntKind.i64.wrap (BitVec.ofInt 64 (n : Int) &&& BitVec.ofInt 64 127).toNat = ((n % 128 : Nat) : Int) := by
 have e1 : BitVec.ofInt 64 (n : Int) = BitVec.ofNat 64 n := by simp
 have e2 : BitVec.ofInt 64 127 = BitVec.ofNat 64 127 := rfl
 have e3 : n &&& 127 = n % 128 := Nat.and_two_pow_sub_one_eq_mod n 7
 rw [e1, e2, BitVec.toNat_and, BitVec.toNat_ofNat, BitVec.toNat_ofNat, Nat.mod_eq_of_lt (by omega), Nat.mod_eq_of_lt (by decide), e3]
 exact wrap_id (by omega) (by omega)
theorem or128 : ∀ m < 128, IntKind.i64.wrap (BitVec.ofInt 64 ((m : Nat) : Int) ||| BitVec.ofInt 64 128).toNat = ((m + 128 : Nat) : Int) := by decide +kernel
theorem ev_and127 {call} {T : List AV} {m : Mem} {x y : Opd} {n : Nat} (hx : x.ev T = .int .i64 (n : Int)) (hy : y.ev T = .int .i64 127) (hn : n < 2097152) : evOp call T m (.bin .and x y) = some (.int .i64 ((n % 128 : Nat) : Int), m) := by
 rw [ev_bin, hx, hy]
 show (some (AV.int .i64 (IntKind.i64.wrap (BitVec.ofInt 64 (n : Int) &&& BitVec.ofInt 64 127).toNat))).map _ = _
 rw [and127 hn]
 rfl
theorem ev_or128 {call} {T : List AV} {m : Mem} {x y : Opd} {n : Nat} (hx : x.ev T = .int .i64 (n : Int)) (hy : y.ev T = .int .i64 128) (hn : n < 128) : evOp call T m (.bin .or x y) = some (.int .i64 ((n + 128 : Nat) : Int), m) := by
 rw [ev_bin, hx, hy]
 show (some (AV.int .i64 (IntKind.i64.wrap (BitVec.ofInt 64 (n : Int) ||| BitVec.ofInt 64 128).toNat))).map _ = _
 rw [or128 n hn]
 rfl
theorem ev_shr7 {call} {T : List AV} {m : Mem} {x y : Opd} {n : Nat} {k : IntKind} (hx : x.ev T = .int .i64 (n : Int)) (hy : y.ev T = .int k 7) : evOp call T m (.bin .shr x y) = some (.int .i64 ((n / 128 : Nat) : Int), m) := by
 rw [ev_bin, hx, hy]
 have e : Int.fdiv (n : Int) (2 ^ min (7 : Int).toNat 64) = ((n / 128 : Nat) : Int) := by
  rw [show (2 : Int) ^ min (7 : Int).toNat 64 = 128 from rfl, Int.fdiv_eq_ediv_of_nonneg _ (by decide)]
  rfl
 simp only [binAV, isShift, binInt, IntKind.bits]
 rw [if_neg (by omega), e]
 rfl
def buf (bs : List Int) : List AV := uB (bs ++ List.replicate (16 - bs.length) 0)
theorem buf_len {bs : List Int} (h : bs.length ≤ 16) : (buf bs).length = 16 := by
 simp [buf, uB]; omega
theorem app_buf {H : Hp} {L : List (Option ALoop)} {id : Nat} {bs xs : List Int} {x : AV} (hl : Zz.look H id 0 = some (buf bs)) (hx : Zz.scells H 1 x = some (uB xs)) (hn : slen x = some xs.length) (hb : bs.length + xs.length ≤ 16) :
  appendAV 1 1 ⟨H, L⟩ (.sref id 0 0 1 bs.length (some 16)) x = some (.sref id 0 0 1 (bs ++ xs).length (some 16), ⟨H.set id (some ⟨0, buf (bs ++ xs)⟩), L⟩) := by
 have hbl := buf_len (bs := bs) (by omega)
 have hc : Zz.cut (buf bs) 0 (bs.length * 1) = some ((buf bs).take bs.length) := by
  unfold Zz.cut
  rw [if_pos (by omega)]
  simp
 have ho : Zz.over (buf bs) (0 + bs.length * 1) (uB xs) = some (buf (bs ++ xs)) := by
  unfold Zz.over
  rw [if_pos (by rw [uB_len]; omega)]
  simp only [buf, uB, List.map_append, Nat.zero_add, Nat.mul_one, List.length_map, Option.some.injEq]
  rw [List.take_left' (by simp), List.drop_append, List.drop_eq_nil_of_le (by simp), List.nil_append, List.map_replicate, List.map_replicate, List.drop_replicate, List.length_map, List.length_append]
  congr 2
  omega
 simp only [appendAV, hx, hn, Option.bind_eq_bind, Option.bind_some, if_true, hl, hc, List.length_append, Zz.storeAt, ho]
 rw [if_pos (by omega)]
 rfl
set_option maxRecDepth 100000
set_option maxHeartbeats 8000000
theorem look_appR {X Y : Hp} {i g : Nat} {l : List AV} (h : Zz.look X i g = some l) : Zz.look (X ++ Y) i g = some l := by
 have := look_eq_iff.1 h
 exact look_eq_iff.2 (by rw [List.getElem?_append_left (List.getElem?_eq_some_iff.1 this).1]; exact this)
theorem look_ltR {X : Hp} {i g : Nat} {l : List AV} (h : Zz.look X i g = some l) : i < X.length := (List.getElem?_eq_some_iff.1 (look_eq_iff.1 h)).1
theorem set_sameR {X : Hp} {i g : Nat} {l : List AV} (h : Zz.look X i g = some l) : X.set i (some ⟨g, l⟩) = X := by
 apply List.ext_getElem (by simp)
 intro k h1 h2
 by_cases e : i = k
 ·subst e
  rw [List.getElem_set_self]
  have := look_eq_iff.1 h
  rw [List.getElem?_eq_getElem h2] at this
  exact (Option.some.inj this).symm
 ·rw [List.getElem_set_ne e]
theorem one_cells {X : Hp} {x : Int} : Zz.scells (X ++ [some ⟨0, [.int .u8 x]⟩]) 1 (.sref X.length 0 0 1 1 (some 1)) = some (uB [x]) := by
 have : Zz.look (X ++ [some ⟨0, [.int .u8 x]⟩]) X.length 0 = some [.int .u8 x] := by simp [Zz.look]
 simp only [Zz.scells, if_true, this, Option.bind_some]
 rfl
theorem wrap_u8 {n : Nat} (h : n < 256) : IntKind.u8.wrap (n : Int) = (n : Int) := by
 revert n; decide +kernel
theorem f17 {H : Hp} {L : List (Option ALoop)} {id n : Nat} {bs : List Int} (hl : Zz.look H id 0 = some (buf bs)) (hb : bs.length + 3 ≤ 16) (hn : n < 2097152) :
  WF X2 (.func 17 [] []) [.sref id 0 0 1 bs.length (some 16), .int .i64 (n : Nat)] ⟨H, L⟩ fun y m' => y = .sref id 0 0 1 (bs ++ dig n).length (some 16) ∧ ∃ R, m' = ⟨H.set id (some ⟨0, buf (bs ++ dig n)⟩) ++ R, L⟩ := by
 have hid := look_ltR hl
 have hdl := dig_len hn
 refine WF.fnE rfl (fn_of Tryz.func17 cir17) (by show 2 ≤ 21; decide) ?_
 unfold ir17; dsimp only [k0, kI, mV, oO, oG]
 simp only [padTo, List.replicate, List.nil_append, List.append_nil]
 repeat' (first | (refine WO.opE (by intro; simp (disch := omega) only [go_sem]; rfl) (by simp only [pt4]; rfl) ?_) | (refine WC.seq ?_) | (refine WC.region ?_) | (refine WO.nil ?_) | (refine WC.block ?_))
 refine WC.loopI (fun m st => ∃ T q cur R, st = ⟨T, H.set id (some ⟨0, buf cur⟩) ++ R, L⟩ ∧ T.length = 21 ∧ gt T 0 = .sref id 0 0 1 cur.length (some 16) ∧ gt T 1 = .int .i64 (q : Nat) ∧ m = q ∧ q < 2097152 ∧ cur ++ dig q = bs ++ dig n) ?_ n _ ⟨_, n, bs, [], by rw [set_sameR hl, List.append_nil], rfl, rfl, rfl, rfl, hn, rfl⟩
 rintro m _ ⟨T, q, cur, R, rfl, hT, g0, g1, hm, hq, hcur⟩
 obtain ⟨f, rfl⟩ := ex21 hT
 clear hT
 replace g0 : f 0 = .sref id 0 0 1 cur.length (some 16) := g0
 replace g1 : f 1 = .int .i64 (q : Nat) := g1
 simp only [g0, g1]
 have hcl : cur.length + (dig q).length ≤ 16 := by
  have := congrArg List.length hcur
  simp only [List.length_append] at this
  omega
 have hX : Zz.look (H.set id (some ⟨0, buf cur⟩) ++ R) id 0 = some (buf cur) := look_appR (look_set hid)
 have hset : ∀ (a b : Option Blk), (H.set id (some ⟨0, buf cur⟩) ++ R ++ [a]).set id b = H.set id b ++ (R ++ [a]) := fun a b => by
  rw [List.append_assoc, set_left (by simpa using hid), List.set_set]
 by_cases hg : 127 < q
 ·have hsm : q % 128 < 128 := Nat.mod_lt _ (by decide)
  have hw8 := wrap_u8 (n := q % 128 + 128) (by omega)
  rw [dig_big hg, List.length_cons] at hcl
  have happ := app_buf (L := L) (look_appR (Y := [some ⟨0, [.int .u8 ((q % 128 + 128 : Nat) : Int)]⟩]) hX) (one_cells (x := ((q % 128 + 128 : Nat) : Int))) rfl (by simp; omega)
  rw [hset] at happ
  generalize H.set id (some ⟨0, buf cur⟩) ++ R = X at *
  repeat' (first | (refine WO.opE (by intro; exact ev_and127 rfl rfl hq) (by simp only [pt8, pt3]; rfl) ?_) | (refine WO.opE (by intro; exact ev_or128 rfl rfl hsm) (by simp only [pt8, pt4]; rfl) ?_) | (refine WO.opE (by intro; exact ev_shr7 rfl rfl) (by simp only [pt8, pt0]; rfl) ?_) | (refine WO.opE (by intro; exact (by rw [ev_append]; exact happ)) (by simp only [pt8, pt7]; rfl) ?_) | (refine WO.opE (by intro; simp (disch := omega) only [go_sem, zeros, List.length_append, ov_one0, fillP, Option.bind_eq_bind, hw8]; rfl) (by simp only [pt8, pt0, pt1, pt2, pt5, pt6, pt7]; rfl) ?_) | (refine WC.seq ?_) | (refine WC.region ?_) | (refine WO.nil ?_) | (simp only [fl1, fl10]) | (refine WC.skip ?_) | (refine WC.block ?_) | (refine WC.em2 rfl (fun hp => ?_) (fun hp => ?_) <;> try (exfalso; first | omega | contradiction)))
  exact ⟨q / 128, by omega, _, q / 128, cur ++ [((q % 128 + 128 : Nat) : Int)], R ++ [some ⟨0, [.int .u8 ((q % 128 + 128 : Nat) : Int)]⟩], rfl, rfl, by rw [List.length_append]; rfl, rfl, rfl, by omega, by rw [← hcur, dig_big hg]; simp⟩
 ·have hw8 := wrap_u8 (n := q) (by omega)
  rw [dig_small hg] at hcl hcur
  have happ := app_buf (L := L) (look_appR (Y := [some ⟨0, [.int .u8 (q : Int)]⟩]) hX) (one_cells (x := (q : Int))) rfl (by simp at hcl ⊢; omega)
  rw [hset] at happ
  generalize H.set id (some ⟨0, buf cur⟩) ++ R = X at *
  repeat' (first | (refine WO.opE (by intro; exact (by rw [ev_append]; exact happ)) (by simp only [pt8, pt4]; rfl) ?_) | (refine WO.opE (by intro; simp (disch := omega) only [go_sem, zeros, List.length_append, ov_one0, fillP, Option.bind_eq_bind, hw8]; rfl) (by simp only [pt8, pt0, pt1, pt2, pt3, pt4, pt5, pt6]; rfl) ?_) | (refine WC.seq ?_) | (refine WC.region ?_) | (refine WO.nil ?_) | (simp only [fl1]) | (refine WC.exit ?_) | (refine WC.ret ?_) | (refine WC.em2 rfl (fun hp => ?_) (fun hp => ?_) <;> try (exfalso; first | omega | contradiction)))
  exact ⟨_, rfl, by rw [← hcur, List.length_append]; rfl, R ++ [some ⟨0, [.int .u8 (q : Int)]⟩], by rw [← hcur]; rfl⟩
end Go.Proofs.YtgchabldcnmccacGreatDoor

