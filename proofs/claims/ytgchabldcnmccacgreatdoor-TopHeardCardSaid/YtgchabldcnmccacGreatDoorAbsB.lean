import Derived.Test.YtgchabldcnmccacGreatDoorAbsA

namespace Go.Zz
def GivesU [Globs] (P : Program) (M : Mp) (m m' : Mem) (w : World) (s : Sem Unit) : Prop :=
 ∃ w' M', s.run P w = .ok () w' ∧ Holds P M' m'.heap m'.loops w' ∧ Fr M m.heap m.loops w M' m'.heap m'.loops w'
theorem gives_load [Globs] {P : Program} {M : Mp} {m : Mem} {w : World} (h : Holds P M m.heap m.loops w) {t : TypeId} {g : Bool} {s : Nat} (hg : aggOf P t = some g) (hs : szOf P t = some s)
  {p : AV} {v : Value} (hv : RV M p v) {x : AV}
  (hx : loadAV m.heap g s p = some x) :
  Gives P M m m w (Instr.loadAt t v) x := by
 cases hv with
 | pref id gn off lc hl =>
  simp only [loadAV] at hx
  cases hk : look m.heap id gn with
  | none => simp [hk] at hx
  | some l =>
   simp [hk] at hx
   obtain ⟨u, h1, h2⟩ := run_load (cellsAt_blk h hk hl) hg hs hx
   exact Gives.same h (by simp only [Instr.loadAt, Instr.sureAddr, Sem.run_bind, Sem.run_pure, Result.andThen_ok, h1]) h2
 | pval l b o f hi hr h1 =>
  simp only [loadAV] at hx
  obtain ⟨u, h1, h2⟩ := run_load (cellsAt_imm h hi hr h1) hg hs hx
  rw [Nat.add_zero] at h1
  exact Gives.same h (by simp only [Instr.loadAt, Instr.sureAddr, Sem.run_bind, Sem.run_pure, Result.andThen_ok, h1]) h2
 | _ => simp [loadAV] at hx
theorem gives_store [Globs] {P : Program} {M : Mp} {m : Mem} {w : World} (h : Holds P M m.heap m.loops w) {t : TypeId} {s : Nat} (hs : szOf P t = some s)
  {id g off : Nat} {v u : Value} (hv : RV M (.pref id g off) v) {x : AV} (hx : RV M x u) {c : List AV} (hc : x.cells = some c) (hl : c.length = s) {H : Hp} (hst : storeAt m.heap id g off c = some H) :
  GivesU P M m ⟨H, m.loops⟩ w (Instr.storeAt t v u) := by
 cases hv with
 | pref id gn off lc hlc =>
  obtain ⟨r1, r2⟩ := cells_rv hx hc
  obtain ⟨i, hi, hsz, _⟩ := szOf_eq hs
  have hcs : u.cells.size = s := by rw [← r1.len, hl]
  obtain ⟨q1, q2, q3, q4⟩ := stored h hlc (vs := u.cells.toList) (by simpa using r1) r2 hst
  refine ⟨_, M, ?_, q3, q4⟩
  have := run_storeCells_cells (P := P) lc.blk (lc.base + off) u.cells.toList 0 w (fun j hj => by simpa using q1 j hj) (fun j _ => q2 _) r2
  simp only [Nat.add_zero] at this
  simp [Instr.storeAt, Instr.sureAddr, storeVar, sizeOf, typeInfo, hi, hcs, hsz, this]
theorem gives_nilCheck [Globs] {M : Mp} {x y : AV} {v : Value} (hv : RV M x v) (hx : nilCheckAV x = some y) {P : Program} {w : World} {o : Oper} {X : Operand} {ρ : Operand → Value} (ho : o.op = .nilCheck X) (hX : ρ X = v) :
  (execOp ρ o).run P w = .ok (.value v) w ∧ RV M y v := by
 unfold nilCheckAV at hx
 cases hv <;> simp at hx
 ·subst hx
  refine ⟨by simp [execOp, ho, hX], ?_⟩
  rename_i lc hl
  exact .pref _ _ _ _ hl
 ·subst hx
  refine ⟨by simp [execOp, ho, hX], ?_⟩
  rename_i hi hr h1
  exact .pval _ _ _ _ hi hr h1
 ·subst hx
  refine ⟨by simp [execOp, ho, hX], ?_⟩
  rename_i ha hb h1 h2
  exact .func _ _ _ _ _ ha hb h1 h2
 ·subst hx
  refine ⟨by simp [execOp, ho, hX], ?_⟩
  rename_i hl
  exact .yield _ _ hl
theorem run_eqGuard_of {P : Program} {w : World} (op : BinOp) (t : TypeId) (x y : Operand) (a b : Value) (h1 : a ≠ .nilIface) (h2 : ∀ c, a ≠ .agg c) : (eqGuard op t x y a b).run P w = .ok () w := by
 cases op <;> simp [eqGuard] <;> (cases a <;> simp_all)
theorem run_bin [Globs] {P : Program} {M : Mp} {w : World} {op : BinOp} {t : TypeId} {x y z : AV} {v u : Value} (hx : RV M x v) (hy : RV M y u) (h : binAV op x y = some z) :
  ∃ r, (binOp op t v u).run P w = .ok r w ∧ RV M z r := by
 unfold binAV at h
 split at h
 ·rename_i k a k' b
  cases hx
  cases hy
  split at h
  ·rename_i hk
   cases op <;> simp [isShift] at hk <;> (try subst hk) <;> simp only [binInt] at h <;>
    (try (split at h <;> first | (cases h; done) | (rename_i hb; cases h; refine ⟨_, ?_, .int _ _⟩; simp [binOp, Op.intDiv, Op.shift, hb])))
   all_goals
    cases h
    first
    | (refine ⟨_, ?_, .int _ _⟩; first | (simp [binOp, Op.intArith]; done) | (simp only [binOp, ne_eq, not_true, if_false]; rfl))
    | (refine ⟨_, ?_, .bool _⟩; simp [binOp, Op.intCmp]; done)
  ·cases h
 ·cases h
theorem run_beq {P : Program} {w : World} {t : TypeId} (hu : P.underlying t = some .bool) (neg a b : Bool) :
  (binOp (if neg then .neq else .eql) t (.bool a) (.bool b)).run P w = .ok (.bool (if neg then !(a == b) else a == b)) w := by
 cases neg <;> simp [binOp, Op.equal, Op.maxDepth, run_equalIn_bool w _ t a b hu]
theorem run_strEq {P : Program} {w : World} {t : TypeId} (_hu : P.underlying t = some .string) (neg : Bool) (a b : ByteArray) :
  (binOp (if neg then .neq else .eql) t (.string a) (.string b)).run P w = .ok (.bool (if neg then !(a.toList == b.toList) else a.toList == b.toList)) w := by
 cases neg <;> simp [binOp, Op.stringOp]
theorem run_aggEq [Globs] {P : Program} {M : Mp} {w : World} {t : TypeId} {D : TypeDesc} (hu : P.underlying t = some D) (hD : D.isRow = true) {sg : List Bool} (hs : sigOf P eqDepth t = some sg) {l l' : List AV} {c c' : Array Value}
  (hl : RVs M l c) (hl' : RVs M l' c') {r : Bool} (hr : cellsEq sg l l' = some r) (neg : Bool) :
  (binOp (if neg then .neq else .eql) t (.agg c) (.agg c')).run P w = .ok (.bool (if neg then !r else r)) w := by
 have := run_eq (w := w) hs 10000 (by simp [eqDepth]) l l' c.toList c'.toList (.agg c) (.agg c') r (by simpa using hl) (by simpa using hl') hr ⟨D, hu, .inl ⟨hD, by simp⟩⟩ ⟨D, hu, .inl ⟨hD, by simp⟩⟩
 cases neg
 ·simp only [Bool.false_eq_true, if_false, run_eql_struct, this, Result.andThen_ok]
 ·simp only [if_true, run_neq_struct, this, Result.andThen_ok]
def nilType (k : Nat) (D : TypeDesc) : Prop :=
 (k = 0 → ∃ e, D = .slice e) ∧ (k = 1 → ∃ e, D = .pointer e) ∧ (k = 2 → ∃ a b c, D = .func a b c)
theorem run_nilEq [Globs] {P : Program} {M : Mp} {w : World} {t : TypeId} (d : Nat) {D : TypeDesc} (hu : P.underlying t = some D) {k : Nat} (hD : nilType k D) {x y : AV} {v u : Value} (hx : RV M x v) (hy : RV M y u)
  {r : Bool} (hr : nilEqAV k x y = some r) : (Op.equalIn (d + 1) t v u).run P w = .ok r w ∧ v ≠ .nilIface ∧ ∀ c, v ≠ .agg c := by
 obtain ⟨h0, h1, h2⟩ := hD
 unfold nilEqAV at hr
 split at hr <;> first | (cases hr; done) | skip
 all_goals
  cases hx
  cases hy
  cases hr
  refine ⟨?_, by simp, by simp⟩
  first
  | (obtain ⟨e, rfl⟩ := h0 rfl; simp [Op.equalIn, run_underlying hu]; done)
  | (obtain ⟨e, rfl⟩ := h1 rfl; simp [Op.equalIn, run_underlying hu]; done)
  | (obtain ⟨a, b, c, rfl⟩ := h2 rfl; simp [Op.equalIn, run_underlying hu]; done)
theorem run_eqOp {P : Program} {w : World} {t : TypeId} {v u : Value} {r : Bool} (h : (Op.equalIn 10000 t v u).run P w = .ok r w) (hv : (v = .slice none 0 0 ∨ ∃ a n c, v = .slice a n c) ∨ (∃ a, v = .pointer a) ∨ v = .nilFunc ∨ ∃ f a b, v = .func f a b)
  (hu : (∃ a n c, u = .slice a n c) ∨ (∃ a, u = .pointer a) ∨ u = .nilFunc ∨ ∃ f a b, u = .func f a b) (neg : Bool) :
  (binOp (if neg then .neq else .eql) t v u).run P w = .ok (.bool (if neg then !r else r)) w := by
 have key : (Op.equal t v u).run P w = .ok r w := h
 rcases hv with (rfl | ⟨_, _, _, rfl⟩) | ⟨_, rfl⟩ | rfl | ⟨_, _, _, rfl⟩ <;> rcases hu with ⟨_, _, _, rfl⟩ | ⟨_, rfl⟩ | rfl | ⟨_, _, _, rfl⟩ <;> cases neg <;> simp [binOp, key]
theorem run_ifNilIn {P : Program} {w : World} {t : TypeId} (d : Nat) {ms : Array (String × TypeId)} (hu : P.underlying t = some (.interface ms)) {v : Value} {b : Bool} (hv : (v = .nilIface ∧ b = true) ∨ ∃ t' u, v = .iface t' u ∧ b = false) :
  (Op.equalIn (d + 1) t v .nilIface).run P w = .ok b w := by
 rcases hv with ⟨rfl, rfl⟩ | ⟨_, _, rfl, rfl⟩ <;> simp [Op.equalIn, run_underlying hu]
theorem run_ifNil {P : Program} {w : World} {t : TypeId} {ms : Array (String × TypeId)} (hu : P.underlying t = some (.interface ms)) {v : Value} {b : Bool} (hv : (v = .nilIface ∧ b = true) ∨ ∃ t' u, v = .iface t' u ∧ b = false) (neg : Bool) :
  (binOp (if neg then .neq else .eql) t v .nilIface).run P w = .ok (.bool (if neg then !b else b)) w := by
 have key : (Op.equal t v .nilIface).run P w = .ok b w := run_ifNilIn 9999 hu hv
 rcases hv with ⟨rfl, rfl⟩ | ⟨_, _, rfl, rfl⟩ <;> cases neg <;> simp [binOp, key]
theorem run_un [Globs] {P : Program} {M : Mp} {w : World} {op : UnOp} {x z : AV} {v : Value} (hx : RV M x v) (h : unAV op x = some z) : ∃ r, (Op.unary op v).run P w = .ok r w ∧ RV M z r := by
 unfold unAV at h
 split at h <;> first | (cases h; done) | skip
 ·cases hx; cases h; exact ⟨_, by simp [Op.unary, Op.intArith], .int _ _⟩
 ·cases hx; cases h; exact ⟨_, by simp [Op.unary, Op.intBits], .int _ _⟩
 ·cases hx; cases h; exact ⟨_, by simp [Op.unary], .bool _⟩
theorem run_conv {P : Program} {w : World} {s t : TypeId} {k k' : IntKind} {n : Int} (hs : P.underlying s = some (.int k')) (ht : P.underlying t = some (.int k)) (k0 : IntKind) :
  (convert s t (.int k0 n)).run P w = .ok (.int k (k.wrap n)) w := by
 simp [convert, run_underlying hs, run_underlying ht, Conv.intToInt]
theorem gives_makeSlice [Globs] {P : Program} {M : Mp} {m : Mem} {w : World} (h : Holds P M m.heap m.loops w) (hf : ∀ g, M.loc m.heap.length g = none) {t e : TypeId} {sz : Nat} {i : TypeInfo} {z : List AV}
  (hu : P.underlying t = some (.slice e)) (hs : szOf P e = some sz) (hi : P.info? e = some i) (hz : zeroOf P e = some z) (k k' : IntKind) (a b : Int) (h0 : 0 ≤ a) (hab : a ≤ b) (hb : b * i.bytes ≤ 70368744177664) (hb2 : b ≤ 70368744177664) :
  Gives P M m (newBlk m (zeros z b.toNat)) w (Instr.makeSlice t (.int k a) (.int k' b)) (.sref m.heap.length 0 0 sz a.toNat (some b.toNat)) := by
 obtain ⟨i', hi', hsz, hpos⟩ := szOf_eq hs
 rw [hi] at hi'
 cases hi'
 obtain ⟨i2, zv, hi2, hzv, hcc, hzl, _⟩ := zeroOf_eq hz
 rw [hi] at hi2
 cases hi2
 obtain ⟨r1, r2⟩ := rv_cells (M := M) hcc
 have hzs : zv.cells.size = sz := by have := r1.len; simp at this; omega
 have hN : b.toNat * i.size = b.toNat * z.length := by rw [hzl]
 obtain ⟨q1, q2⟩ := rvs_zeros (by simpa using r1 : RVs M z zv.cells) (by simpa using r2) (by omega) b.toNat (b.toNat * i.size) hN
 have hmul : (i.bytes : Int) * b = b * i.bytes := Int.mul_comm _ _
 have hrun := run_make (P := P) w t e i zv hu hi hzv k k' a b h0 hab (by omega) (by omega)
 refine madeSl h hf (w' := w.alloc (.cells (madeCells zv.cells (b.toNat * i.size)) e)) e sz a.toNat b.toNat (some b.toNat) rfl rfl rfl hrun (fun j hj => ?_) (by rw [q1.len]; simp [madeCells]) (by omega) ?_ (fun _ hk => by cases hk; rfl) (fun hk => by cases hk)
 ·have e1 : madeCells zv.cells (b.toNat * i.size) = (Array.range (b.toNat * i.size)).map (zv.cells[· % zv.cells.size]!) := rfl
  rw [e1]
  refine ⟨q1.rel j, ?_⟩
  have hj' : j < ((Array.range (b.toNat * i.size)).map (zv.cells[· % zv.cells.size]!)).size := by rw [← q1.len]; exact hj
  rw [ag_of_lt hj']
  exact q2 _ (Array.mem_toList_iff.2 (Array.getElem_mem hj'))
 ·simp [madeCells, hsz]
theorem run_bnd [Globs] {P : Program} {M : Mp} {w : World} {x : AV} {v : Value} (hv : RV M x v) {y n : Nat} (h : bnd x y = some n) (code : BoundsCode) : (Instr.sliceBound v y code).run P w = .ok n w ∧ n ≤ y := by
 unfold bnd at h
 split at h
 ·cases hv
  split at h
  ·rename_i hb
   cases h
   refine ⟨by rw [run_sliceBound_if, if_pos hb], by omega⟩
  ·cases h
 ·cases h
theorem opdO [Globs] {M : Mp} {T : List AV} {a : Act} (hT : RT M T a) {x : Option Operand} {y : Option Opd} (hxy : cOpdO x = some y) :
  (x = none ∧ y = none) ∨ ∃ x0 y0, x = some x0 ∧ y = some y0 ∧ RV M (y0.ev T) (a.eval x0) := by
 cases x with
 | none => simp [cOpdO] at hxy; exact .inl ⟨rfl, hxy.symm⟩
 | some x0 =>
  simp [cOpdO] at hxy
  obtain ⟨y0, hy0, rfl⟩ := hxy
  exact .inr ⟨x0, y0, rfl, rfl, rv_opd hT hy0⟩
theorem bnd_more {x : AV} {y y' n : Nat} (h : bnd x y = some n) (hle : y ≤ y') : bnd x y' = some n := by
 unfold bnd at h ⊢
 split at h
 ·split at h
  ·rename_i hh
   cases h
   rw [if_pos]
   omega
  ·cases h
 ·cases h
theorem run_bnds [Globs] {P : Program} {M : Mp} {w : World} {T : List AV} {a : Act} (hT : RT M T a) {lo hi mx : Option Operand} {lo' hi' mx' : Option Opd} (h1 : cOpdO lo = some lo') (h2 : cOpdO hi = some hi') (h3 : cOpdO mx = some mx')
  (isS : Bool) (len cap : Nat) (c : Option Nat) (hc : ∀ k, c = some k → cap = k) (hle : len ≤ cap) {l h : Nat} {m : Option Nat}
  (hb : bnds len c (lo'.map (·.ev T)) (hi'.map (·.ev T)) (mx'.map (·.ev T)) = some (l, h, m)) :
  ∃ m', (Instr.sliceBounds isS len cap (lo.map a.eval) (hi.map a.eval) (mx.map a.eval)).run P w = .ok (l, h, m') w ∧ l ≤ h ∧ h ≤ m' ∧ m' ≤ cap ∧ (∀ k, m = some k → m' = k) ∧ (m = none → m' = cap ∧ h ≤ len ∧ c = none) := by
 have htop : c.getD len ≤ cap := by
  cases c with
  | none => exact hle
  | some k => simp [hc k rfl]
 have hlo : ∀ h l, bndO (lo'.map (·.ev T)) h 0 = some l → ∀ code, (match lo.map a.eval with | some v => Instr.sliceBound v h code | none => (pure 0 : Sem Nat)).run P w = .ok l w ∧ l ≤ h := by
  intro h l hl code
  rcases opdO hT h1 with ⟨rfl, rfl⟩ | ⟨x0, y0, rfl, rfl, hr⟩
  ·simp [bndO] at hl; subst hl; exact ⟨rfl, Nat.zero_le _⟩
  ·simp only [bndO, Option.map_some] at hl ⊢
   exact run_bnd hr hl code
 unfold bnds at hb
 rcases opdO hT h3 with ⟨rfl, rfl⟩ | ⟨x3, y3, rfl, rfl, hr3⟩
 ·simp only [Option.map_none] at hb ⊢
  cases hh : bndO (hi'.map (·.ev T)) (c.getD len) len with
  | none => simp [hh] at hb
  | some h0 =>
   simp only [hh] at hb
   cases hl : bndO (lo'.map (·.ev T)) h0 0 with
   | none => simp [hl] at hb
   | some l0 =>
    simp [hl] at hb
    obtain ⟨rfl, rfl, rfl⟩ := hb
    have hhi : (match hi.map a.eval with | some v => Instr.sliceBound v cap (if isS then .sliceAcap else .sliceAlen) | none => (pure len : Sem Nat)).run P w = .ok h0 w ∧ h0 ≤ cap ∧ (c = none → h0 ≤ len) := by
     rcases opdO hT h2 with ⟨rfl, rfl⟩ | ⟨x0, y0, rfl, rfl, hr⟩
     ·simp [bndO] at hh; subst hh; exact ⟨rfl, hle, fun _ => Nat.le_refl _⟩
     ·simp only [bndO, Option.map_some] at hh ⊢
      obtain ⟨g1, g2⟩ := run_bnd (P := P) (w := w) hr (bnd_more hh htop) (if isS then .sliceAcap else .sliceAlen)
      refine ⟨g1, g2, fun e => ?_⟩
      subst e
      exact (run_bnd (P := P) (w := w) hr hh .index).2
    obtain ⟨g1, g2, g3⟩ := hhi
    obtain ⟨k1, k2⟩ := hlo h0 l0 hl (if (none : Option Value).isSome then .slice3C else .sliceB)
    refine ⟨cap, ?_, k2, g2, Nat.le_refl _, hc, fun e => ⟨rfl, g3 e, e⟩⟩
    rcases opdO hT h2 with ⟨rfl, rfl⟩ | ⟨x0, y0, rfl, rfl, hr⟩ <;> rcases opdO hT h1 with ⟨rfl, rfl⟩ | ⟨x1, y1, rfl, rfl, hr1⟩ <;>
     simp_all [Instr.sliceBounds]
 ·simp only [Option.map_some] at hb ⊢
  cases hm : bnd (y3.ev T) (c.getD len) with
  | none => simp [hm] at hb
  | some m0 =>
   rcases opdO hT h2 with ⟨rfl, rfl⟩ | ⟨x2, y2, rfl, rfl, hr2⟩
   ·simp [hm] at hb
   ·simp only [hm, Option.map_some] at hb ⊢
    cases hh : bnd (y2.ev T) m0 with
    | none => simp [hh] at hb
    | some h0 =>
     simp only [hh] at hb
     cases hl : bndO (lo'.map (·.ev T)) h0 0 with
     | none => simp [hl] at hb
     | some l0 =>
      simp [hl] at hb
      obtain ⟨rfl, rfl, rfl⟩ := hb
      obtain ⟨g1, g2⟩ := run_bnd (P := P) (w := w) hr3 (bnd_more hm htop) (if isS then .slice3Acap else .slice3Alen)
      obtain ⟨g3, g4⟩ := run_bnd (P := P) (w := w) hr2 hh .slice3B
      obtain ⟨k1, k2⟩ := hlo h0 l0 hl (if (some (a.eval x3) : Option Value).isSome then .slice3C else .sliceB)
      refine ⟨m0, ?_, k2, g4, g2, fun k e => Option.some.inj e, fun e => by cases e⟩
      rcases opdO hT h1 with ⟨rfl, rfl⟩ | ⟨x1, y1, rfl, rfl, hr1⟩ <;> simp_all [Instr.sliceBounds]
end Go.Zz


namespace Go.Zz
theorem RV.sval_sub [Globs] {M : Mp} {b o : Nat} {l : List AV} {f : Nat → Value} (hi : ∀ i, i < l.length → M.imm b (o + i) = some (f i)) (hr : ∀ i, i < l.length → RV M (gt l i) (f i)) (h1 : ∀ i, i < l.length → (f i).oneCell' = true)
  (k n : Nat) (full : Bool) (len cap : Nat) (hc : len ≤ cap) (hf : full = true → cap = len) (b' o' : Nat) (ho : (l.drop k).take n = [] ∨ (b' = b ∧ o' = o + k)) :
  RV M (.sval full len ((l.drop k).take n)) (.slice (some ⟨b', o', none⟩) len cap) := by
 have key : ∀ i, i < ((l.drop k).take n).length → k + i < l.length ∧ gt ((l.drop k).take n) i = gt l (k + i) := by
  intro i hlt
  simp only [List.length_take, List.length_drop] at hlt
  refine ⟨by omega, ?_⟩
  simp only [gt_eq, List.getD, List.getElem?_take, List.getElem?_drop]
  rw [if_pos (by omega)]
 refine .sval full len _ b' o' cap (fun i => f (k + i)) hc hf (fun i hlt => ?_) (fun i hlt => ?_) (fun i hlt => ?_)
 ·obtain ⟨a1, _⟩ := key i hlt
  rcases ho with e | ⟨rfl, rfl⟩
  ·rw [e] at hlt; simp at hlt
  ·rw [Nat.add_assoc]; exact hi _ a1
 ·obtain ⟨a1, a2⟩ := key i hlt
  rw [a2]; exact hr _ a1
 ·exact h1 _ (key i hlt).1
theorem gives_slice [Globs] {P : Program} {M : Mp} {m : Mem} {w : World} (h : Holds P M m.heap m.loops w) {T : List AV} {a : Act} (hT : RT M T a) {t e : TypeId} {sz : Nat} (hu : P.underlying t = some (.slice e)) (hs : szOf P e = some sz)
  {lo hi mx : Option Operand} {lo' hi' mx' : Option Opd} (h1 : cOpdO lo = some lo') (h2 : cOpdO hi = some hi') (h3 : cOpdO mx = some mx') {x z : AV} {v : Value} (hv : RV M x v)
  (hz : sliceAV m.heap sz x (lo'.map (·.ev T)) (hi'.map (·.ev T)) (mx'.map (·.ev T)) = some z) :
  Gives P M m m w (Instr.sliceAt t v (lo.map a.eval) (hi.map a.eval) (mx.map a.eval)) z := by
 obtain ⟨i, hinfo, hsz, hpos⟩ := szOf_eq hs
 have hat : ∀ v, (Instr.sliceAt t v (lo.map a.eval) (hi.map a.eval) (mx.map a.eval)).run P w = (Instr.slice t v (lo.map a.eval) (hi.map a.eval) (mx.map a.eval)).run P w := fun v => by
  simp [Instr.sliceAt, run_underlying hu]
 have hsl : ∀ (ad : Option Addr) len cap l hh mm, (Instr.sliceBounds true len cap (lo.map a.eval) (hi.map a.eval) (mx.map a.eval)).run P w = .ok (l, hh, mm) w →
   (Instr.slice t (.slice ad len cap) (lo.map a.eval) (hi.map a.eval) (mx.map a.eval)).run P w = .ok (.slice (if mm = l then ad else ad.map (·.add (l * sz))) (hh - l) (mm - l)) w := fun ad len cap l hh mm hb => by
  simp [Instr.slice, run_underlying hu, hb, sizeOf, typeInfo, hinfo, hsz]
 unfold sliceAV at hz
 cases hv with
 | snil =>
  simp only at hz
  cases hb : bnds 0 (some 0) (lo'.map (·.ev T)) (hi'.map (·.ev T)) (mx'.map (·.ev T)) with
  | none => simp [hb] at hz
  | some r =>
   obtain ⟨l, hh, mm⟩ := r
   simp [hb] at hz
   subst hz
   obtain ⟨m', g1, g2, g3, g4, _⟩ := run_bnds (P := P) (w := w) hT h1 h2 h3 true 0 0 (some 0) (fun k e => by cases e; rfl) (Nat.le_refl _) hb
   have e1 : m' = 0 := by omega
   have e2 : hh = 0 := by omega
   have e3 : l = 0 := by omega
   subst e1; subst e2; subst e3
   exact Gives.same h ((hat _).trans (by rw [hsl none 0 0 0 0 0 g1]; simp)) .snil
 | sval full len l b o cap f hc hf hi0 hr h10 =>
  simp only at hz
  split at hz
  ·rename_i hlen
   cases hb : bnds len (if full then some len else none) (lo'.map (·.ev T)) (hi'.map (·.ev T)) (mx'.map (·.ev T)) with
   | none => simp [hb] at hz
   | some r =>
    obtain ⟨p, hh, mm⟩ := r
    simp [hb] at hz
    subst hz
    obtain ⟨m', g1, g2, g3, g4, g5, g6⟩ := run_bnds (P := P) (w := w) hT h1 h2 h3 true len cap (if full then some len else none) (fun k e => by
     split at e
     ·rename_i hfull; cases e; exact hf hfull
     ·cases e) hc hb
    refine Gives.same h ((hat _).trans (hsl _ _ _ _ _ _ g1)) ?_
    have hbo : ∀ q : Addr, (if m' = p then some (⟨b, o, none⟩ : Addr) else (some (⟨b, o, none⟩ : Addr)).map (·.add (p * sz))) = some q → q = (if m' = p then ⟨b, o, none⟩ else ⟨b, o + p * sz, none⟩) := by
     intro q hq
     split at hq
     ·cases hq; simp [*]
     ·simp at hq; rw [← hq, Addr.add_mid]; simp [*]
    by_cases hmp : m' = p
    ·rw [if_pos hmp]
     refine RV.sval_sub hi0 hr h10 _ _ _ _ _ (by omega) (fun _ => by omega) b o (.inl ?_)
     have : hh - p = 0 := by omega
     simp [this]
    ·rw [if_neg hmp]
     simp only [Option.map_some, Addr.add_mid]
     refine RV.sval_sub hi0 hr h10 _ _ _ _ _ (by omega) (fun e => ?_) b _ (.inr ⟨rfl, rfl⟩)
     cases mm with
     | none => simp at e
     | some c => simp at e; have := g5 c rfl; omega
  ·cases hz
 | sref id g off sz' len cap lc ccap hl hc hr he ho =>
  simp only at hz
  split at hz
  ·rename_i esz
   subst esz
   generalize hL : (if cap.isNone && (hi'.map (·.ev T)).isSome then kcap m.heap sz' id g off len else len) = L at hz
   have hLc : L ≤ ccap := by
    rw [← hL]
    split
    ·rename_i hcond
     simp only [Bool.and_eq_true, Option.isNone_iff_eq_none] at hcond
     unfold kcap
     split
     ·rename_i cells hk
      obtain ⟨lc0, hB⟩ := h.blk id _ (look_eq hk)
      have e0 : lc0 = lc := by have := hB.loc; simp only at this; rw [hl] at this; exact (Option.some.inj this).symm
      subst e0
      have h1 := hB.len
      have h2 := ho hcond.1
      simp only at h1
      refine Nat.max_le.2 ⟨hc, Nat.div_le_of_le_mul ?_⟩
      rw [Nat.mul_comm]
      omega
     ·exact hc
    ·exact hc
   have hLe : (Instr.sliceBounds true L ccap (lo.map a.eval) (hi.map a.eval) (mx.map a.eval)) = (Instr.sliceBounds true len ccap (lo.map a.eval) (hi.map a.eval) (mx.map a.eval)) := by
    rw [← hL]
    split
    ·rename_i hcond
     simp only [Bool.and_eq_true, Option.isSome_map] at hcond
     cases hi with
     | none => simp [cOpdO] at h2; subst h2; simp at hcond
     | some x => cases mx <;> rfl
    ·rfl
   cases hb : bnds L cap (lo'.map (·.ev T)) (hi'.map (·.ev T)) (mx'.map (·.ev T)) with
   | none => simp [hb] at hz
   | some r =>
    obtain ⟨p, hh, mm⟩ := r
    simp only [hb, Option.bind_some] at hz
    obtain ⟨m', g1, g2, g3, g4, g5, g6⟩ := run_bnds (P := P) (w := w) hT h1 h2 h3 true L ccap cap (fun k e => he k e) hLc hb
    rw [hLe] at g1
    have hmul : m' * sz' ≤ ccap * sz' := Nat.mul_le_mul_right _ g4
    have hsub : p * sz' + (m' - p) * sz' = m' * sz' := by rw [← Nat.add_mul]; congr 1; omega
    cases mm with
    | some c =>
     simp at hz
     subst hz
     have ec := g5 c rfl
     subst ec
     refine Gives.same h ((hat _).trans (hsl _ _ _ _ _ _ g1)) ?_
     by_cases hmp : m' = p
     ·rw [if_pos hmp, if_pos hmp]
      have h0 : m' - p = 0 := by omega
      rw [h0]
      exact .sref _ _ _ _ _ _ lc _ hl (by omega) (by omega) (fun k e => by cases e; rfl) (fun e => by cases e)
     ·rw [if_neg hmp, if_neg hmp]
      simp only [Option.map_some, Addr.add_mid, Nat.add_assoc]
      exact .sref _ _ _ _ _ _ lc _ hl (by omega) (by omega) (fun k e => by cases e; rfl) (fun e => by cases e)
    | none =>
     obtain ⟨e1, e2, e3⟩ := g6 rfl
     subst e1
     subst e3
     have hroom := ho rfl
     simp only at hz
     refine Gives.same h ((hat _).trans (hsl _ _ _ _ _ _ g1)) ?_
     split at hz
     ·rename_i hp0
      subst hp0
      cases hz
      have : (if m' = 0 then some (⟨lc.blk, lc.base + off, none⟩ : Addr) else (some (⟨lc.blk, lc.base + off, none⟩ : Addr)).map (·.add (0 * sz'))) = some ⟨lc.blk, lc.base + off, none⟩ := by
       split
       ·rfl
       ·simp [Addr.add]
      rw [this]
      exact .sref _ _ _ _ _ _ lc _ hl (by omega) (by simpa using hr) (fun k e => by cases e) (fun _ => by simpa using hroom)
     ·split at hz
      ·rename_i h0
       cases hz
       rw [h0]
       by_cases hmp : m' = p
       ·rw [if_pos hmp]
        exact .sval _ _ _ _ _ _ (fun _ => undef) (by omega) (fun e => by cases e) (fun i hi => by simp at hi) (fun i hi => by simp at hi) (fun i hi => by simp at hi)
       ·rw [if_neg hmp]
        simp only [Option.map_some, Addr.add_mid]
        exact .sval _ _ _ _ _ _ (fun _ => undef) (by omega) (fun e => by cases e) (fun i hi => by simp at hi) (fun i hi => by simp at hi) (fun i hi => by simp at hi)
      ·rename_i h0
       cases hz
       have hmp : m' ≠ p := by omega
       rw [if_neg hmp]
       simp only [Option.map_some, Addr.add_mid, Nat.add_assoc]
       exact .sref _ _ _ _ _ _ lc _ hl (by omega) (by omega) (fun k e => by cases e) (fun _ => by omega)
  ·cases hz
 | _ => simp at hz
theorem gives_sliceArr [Globs] {P : Program} {M : Mp} {m : Mem} {w : World} (h : Holds P M m.heap m.loops w) {T : List AV} {a : Act} (hT : RT M T a) {t e : TypeId} {n sz : Nat} (hu : P.underlying t = some (.array n e)) (hs : szOf P e = some sz)
  {lo hi mx : Option Operand} {lo' hi' mx' : Option Opd} (h1 : cOpdO lo = some lo') (h2 : cOpdO hi = some hi') (h3 : cOpdO mx = some mx') {x z : AV} {v : Value} (hv : RV M x v)
  (hz : sliceArrAV m.heap n sz x (lo'.map (·.ev T)) (hi'.map (·.ev T)) (mx'.map (·.ev T)) = some z) :
  Gives P M m m w (Instr.sliceAt t v (lo.map a.eval) (hi.map a.eval) (mx.map a.eval)) z := by
 obtain ⟨i, hinfo, hsz, hpos⟩ := szOf_eq hs
 have hsl : ∀ (ad : Addr) l hh mm, (Instr.sliceBounds false n n (lo.map a.eval) (hi.map a.eval) (mx.map a.eval)).run P w = .ok (l, hh, mm) w →
   (Instr.sliceAt t (.pointer (some ad)) (lo.map a.eval) (hi.map a.eval) (mx.map a.eval)).run P w = .ok (.slice (some (if mm = l then ad else ad.add (l * sz))) (hh - l) (mm - l)) w := fun ad l hh mm hb => by
  simp [Instr.sliceAt, Instr.sureAddr, run_underlying hu, hb, sizeOf, typeInfo, hinfo, hsz]
 unfold sliceArrAV at hz
 cases hv with
 | pref id g off lc hl =>
  simp only at hz
  cases hk : look m.heap id g with
  | none => simp [hk] at hz
  | some cells =>
   simp only [hk, Option.bind_some] at hz
   split at hz
   ·rename_i hin
    obtain ⟨lc0, hB⟩ := h.blk id _ (look_eq hk)
    have e0 : lc0 = lc := by have := hB.loc; simp only at this; rw [hl] at this; exact (Option.some.inj this).symm
    subst e0
    have hroom := hB.room
    simp only at hroom
    cases hb : bnds n (some n) (lo'.map (·.ev T)) (hi'.map (·.ev T)) (mx'.map (·.ev T)) with
    | none => simp [hb] at hz
    | some r =>
     obtain ⟨p, hh, mm⟩ := r
     simp only [hb, Option.bind_some] at hz
     obtain ⟨m', g1, g2, g3, g4, g5, g6⟩ := run_bnds (P := P) (w := w) hT h1 h2 h3 false n n (some n) (fun k e => by cases e; rfl) (Nat.le_refl _) hb
     cases mm with
     | none => cases hz
     | some c =>
      simp at hz
      subst hz
      have ec := g5 c rfl
      subst ec
      have hmul : m' * sz ≤ n * sz := Nat.mul_le_mul_right _ g4
      have hsub : p * sz + (m' - p) * sz = m' * sz := by rw [← Nat.add_mul]; congr 1; omega
      refine Gives.same h (hsl _ _ _ _ g1) ?_
      by_cases hmp : m' = p
      ·rw [if_pos hmp, if_pos hmp]
       have h0 : m' - p = 0 := by omega
       rw [h0]
       exact .sref _ _ _ _ _ _ lc0 _ hl (by omega) (by omega) (fun k e => by cases e; rfl) (fun e => by cases e)
      ·rw [if_neg hmp, if_neg hmp]
       simp only [Addr.add_mid, Nat.add_assoc]
       exact .sref _ _ _ _ _ _ lc0 _ hl (by omega) (by omega) (fun k e => by cases e; rfl) (fun e => by cases e)
   ·cases hz
 | pval l b o f hi0 hr h10 =>
  simp only at hz
  split at hz
  ·rename_i hin
   cases hb : bnds n (some n) (lo'.map (·.ev T)) (hi'.map (·.ev T)) (mx'.map (·.ev T)) with
   | none => simp [hb] at hz
   | some r =>
    obtain ⟨p, hh, mm⟩ := r
    simp only [hb, Option.bind_some] at hz
    obtain ⟨m', g1, g2, g3, g4, g5, g6⟩ := run_bnds (P := P) (w := w) hT h1 h2 h3 false n n (some n) (fun k e => by cases e; rfl) (Nat.le_refl _) hb
    cases mm with
    | none => cases hz
    | some c =>
     simp at hz
     subst hz
     have ec := g5 c rfl
     subst ec
     refine Gives.same h (hsl _ _ _ _ g1) ?_
     by_cases hmp : m' = p
     ·rw [if_pos hmp]
      refine RV.sval_sub hi0 hr h10 _ _ _ _ _ (by omega) (fun e => by simp at e; omega) b o (.inl ?_)
      have : hh - p = 0 := by omega
      simp [this]
     ·rw [if_neg hmp]
      simp only [Addr.add_mid]
      exact RV.sval_sub hi0 hr h10 _ _ _ _ _ (by omega) (fun e => by simp at e; omega) b _ (.inr ⟨rfl, rfl⟩)
  ·cases hz
 | _ => simp at hz
theorem RV.pval_drop [Globs] {M : Mp} {b o : Nat} {l : List AV} {f : Nat → Value} (hi : ∀ i, i < l.length → M.imm b (o + i) = some (f i)) (hr : ∀ i, i < l.length → RV M (gt l i) (f i)) (h1 : ∀ i, i < l.length → (f i).oneCell' = true) (k : Nat) :
  RV M (.pval (l.drop k)) (.pointer (some ⟨b, o + k, none⟩)) := by
 refine .pval _ b (o + k) (fun i => f (k + i)) (fun i hlt => ?_) (fun i hlt => ?_) (fun i hlt => ?_) <;> simp only [List.length_drop] at hlt
 ·rw [Nat.add_assoc]; exact hi _ (by omega)
 ·have := hr (k + i) (by omega)
  simp only [gt_eq, List.getD, List.getElem?_drop] at this ⊢
  exact this
 ·exact h1 _ (by omega)
theorem ptrAdd_rv [Globs] {M : Mp} {x z : AV} {v : Value} (hv : RV M x v) {off : Nat} (h : ptrAdd off x = some z) : ∃ b o, v = .pointer (some ⟨b, o, none⟩) ∧ RV M z (.pointer (some ⟨b, o + off, none⟩)) := by
 unfold ptrAdd at h
 cases hv with
 | pref id g o lc hl => simp at h; subst h; exact ⟨_, _, rfl, by rw [Nat.add_assoc]; exact .pref _ _ _ lc hl⟩
 | pval l b o f hi hr h1 => simp at h; subst h; exact ⟨_, _, rfl, .pval_drop hi hr h1 off⟩
 | _ => simp at h
theorem gives_fieldAddr [Globs] {P : Program} {M : Mp} {m : Mem} {w : World} (h : Holds P M m.heap m.loops w) {t : TypeId} {fs : Array Field} {k : Nat} {fl : Field} {s : Nat} (hu : P.underlying t = some (.struct fs)) (hf : fs[k]? = some fl) (hs : szOf P fl.type = some s)
  {x z : AV} {v : Value} (hv : RV M x v) (hz : ptrAdd fl.offset x = some z) : Gives P M m m w (Instr.fieldAt t v k) z := by
 obtain ⟨i, hinfo, hsz, hpos⟩ := szOf_eq hs
 obtain ⟨b, o, rfl, hr⟩ := ptrAdd_rv hv hz
 refine Gives.same h ?_ hr
 have h0 : ¬ i.size = 0 := by omega
 simp [Instr.fieldAt, run_underlying hu, hf, Instr.sureAddr, fieldPlace, sizeOf, typeInfo, hinfo, h0, Addr.add_mid]
theorem idx_int [Globs] {M : Mp} {x : AV} {v : Value} (hv : RV M x v) {n j : Nat} (h : idx x n = some j) : ∃ k i, v = .int k i ∧ 0 ≤ i ∧ i < (n : Int) ∧ i.toNat = j := by
 unfold idx at h
 cases hv with
 | int k i =>
  simp only at h
  split at h
  ·rename_i hh; cases h; exact ⟨k, i, rfl, hh.1, hh.2, rfl⟩
  ·cases h
 | _ => simp at h
theorem gives_indexAddr [Globs] {P : Program} {M : Mp} {m : Mem} {w : World} (h : Holds P M m.heap m.loops w) {t e : TypeId} {sz : Nat} (hu : P.underlying t = some (.slice e)) (hs : szOf P e = some sz)
  {x y z : AV} {v u : Value} (hv : RV M x v) (hy : RV M y u) (hz : indexAddrAV sz x y = some z) : Gives P M m m w (Instr.indexAt t v u) z := by
 obtain ⟨i, hinfo, hsz, hpos⟩ := szOf_eq hs
 unfold indexAddrAV at hz
 cases hv with
 | sval full len l b o cap f hc hf hi hr h1 =>
  simp only at hz
  cases hj : idx y len with
  | none => simp [hj] at hz
  | some j =>
   simp [hj] at hz
   subst hz
   obtain ⟨k, n, rfl, g1, g2, rfl⟩ := idx_int hy hj
   refine Gives.same h ?_ (RV.pval_drop hi hr h1 (n.toNat * sz))
   simp [Instr.indexAt, asIntOf, run_underlying hu, g1, g2, sizeOf, typeInfo, hinfo, hsz, Addr.add_mid]
 | sref id g off sz' len cap lc ccap hl hc hr he ho =>
  simp only at hz
  split at hz
  ·rename_i e1
   subst e1
   cases hj : idx y len with
   | none => simp [hj] at hz
   | some j =>
    simp [hj] at hz
    subst hz
    obtain ⟨k, n, rfl, g1, g2, rfl⟩ := idx_int hy hj
    refine Gives.same h ?_ (.pref id g (off + n.toNat * sz') lc hl)
    simp [Instr.indexAt, asIntOf, run_underlying hu, g1, g2, sizeOf, typeInfo, hinfo, hsz, Addr.add_mid, Nat.add_assoc]
  ·cases hz
 | _ => simp at hz
theorem gives_indexAddrArr [Globs] {P : Program} {M : Mp} {m : Mem} {w : World} (h : Holds P M m.heap m.loops w) {t e : TypeId} {n sz : Nat} (hu : P.underlying t = some (.array n e)) (hs : szOf P e = some sz)
  {x y z : AV} {v u : Value} (hv : RV M x v) (hy : RV M y u) {j : Nat} (hj : idx y n = some j) (hz : ptrAdd (j * sz) x = some z) : Gives P M m m w (Instr.indexAt t v u) z := by
 obtain ⟨i, hinfo, hsz, hpos⟩ := szOf_eq hs
 obtain ⟨b, o, rfl, hr⟩ := ptrAdd_rv hv hz
 obtain ⟨k, q, rfl, g1, g2, rfl⟩ := idx_int hy hj
 refine Gives.same h ?_ hr
 simp [Instr.indexAt, Instr.sureAddr, asIntOf, run_underlying hu, g1, g2, sizeOf, typeInfo, hinfo, hsz, Addr.add_mid]
theorem run_partAV [Globs] {P : Program} {M : Mp} {w : World} {t : TypeId} {g : Bool} {s : Nat} (hg : aggOf P t = some g) (hs : szOf P t = some s) {l : List AV} {c : Array Value} (hl : RVs M l c) (h1 : ∀ v ∈ c.toList, v.oneCell' = true)
  {off : Nat} {x : AV} (hx : loadCs g s l off = some x) : ∃ v, (part t c off).run P w = .ok v w ∧ RV M x v := by
 obtain ⟨d, hd, rfl⟩ := aggOf_eq hg
 obtain ⟨i, hi, hsz, hpos⟩ := szOf_eq hs
 unfold loadCs at hx
 split at hx
 ·rename_i hrow
  cases hcut : cut l off s with
  | none => simp [hcut] at hx
  | some l' =>
   simp [hcut] at hx
   subst hx
   obtain ⟨rfl, hin⟩ := cut_eq hcut
   have hl' : RVs M l c.toList.toArray := by simpa using hl
   have r := (hl'.drop off).take s
   refine ⟨.agg ((c.toList.drop off).take s).toArray, ?_, agg_of_list r (fun v hv => h1 v (List.mem_of_mem_drop (List.mem_of_mem_take hv)))⟩
   simp only [part, Sem.run_bind, run_isAgg hd, hrow, Result.andThen_ok, if_true, sizeOf, typeInfo, run_program, hi, Sem.run_pure, hsz]
   congr 2
   apply Array.ext'
   simp [List.take_drop]
 ·rename_i hrow
  have hlt : off < l.length := (List.getElem?_eq_some_iff.1 hx).1
  have hlt' : off < c.size := hl.len ▸ hlt
  obtain ⟨v, hv1, hv2⟩ := hl.at hx
  have hrow' : d.isRow = false := by simpa using hrow
  refine ⟨v, ?_, hv2⟩
  simp only [part, Sem.run_bind, run_isAgg hd, hrow', Result.andThen_ok]
  simp [hv1]
theorem gives_field [Globs] {P : Program} {M : Mp} {m : Mem} {w : World} (h : Holds P M m.heap m.loops w) {t : TypeId} {fs : Array Field} {k : Nat} {fl : Field} {g : Bool} {s : Nat} (hu : P.underlying t = some (.struct fs)) (hf : fs[k]? = some fl)
  (hg : aggOf P fl.type = some g) (hs : szOf P fl.type = some s) {l : List AV} {x : AV} {v : Value} (hv : RV M (.agg l) v) (hx : loadCs g s l fl.offset = some x) : Gives P M m m w (Instr.field t v k) x := by
 cases hv with
 | agg l c hlen hr h1 =>
  obtain ⟨u, g1, g2⟩ := run_partAV (P := P) (w := w) hg hs ⟨hlen, hr⟩ h1 hx
  exact Gives.same h (by simp [Instr.field, run_underlying hu, hf, asAgg, g1]) g2
theorem gives_index [Globs] {P : Program} {M : Mp} {m : Mem} {w : World} (h : Holds P M m.heap m.loops w) {t e : TypeId} {n : Nat} {g : Bool} {s : Nat} (hu : P.underlying t = some (.array n e))
  (hg : aggOf P e = some g) (hs : szOf P e = some s) {l : List AV} {x y : AV} {v u : Value} (hv : RV M (.agg l) v) (hy : RV M y u) {j : Nat} (hj : idx y n = some j) (hx : loadCs g s l (j * s) = some x) : Gives P M m m w (Instr.index t v u) x := by
 obtain ⟨i, hinfo, hsz, hpos⟩ := szOf_eq hs
 cases hv with
 | agg l c hlen hr h1 =>
  obtain ⟨k, q, rfl, g1, g2, rfl⟩ := idx_int hy hj
  obtain ⟨u, p1, p2⟩ := run_partAV (P := P) (w := w) hg hs ⟨hlen, hr⟩ h1 hx
  exact Gives.same h (by simp [Instr.index, asIntOf, run_underlying hu, g1, g2, sizeOf, typeInfo, hinfo, hsz, p1]) p2
theorem gives_extract [Globs] {P : Program} {M : Mp} {m : Mem} {w : World} (h : Holds P M m.heap m.loops w) {l : List AV} {k : Nat} {x : AV} {v : Value} (hv : RV M (.tuple l) v) (hx : l[k]? = some x) : Gives P M m m w (Instr.extract v k) x := by
 cases hv with
 | tup0 => simp at hx
 | tuple l c hlen hr =>
  obtain ⟨u, p1, p2⟩ := (RVs.mk hlen hr).at hx
  exact Gives.same h (by simp [Instr.extract, p1]) p2
theorem gives_len [Globs] {P : Program} {M : Mp} {m : Mem} {w : World} (h : Holds P M m.heap m.loops w) {t e ty : TypeId} (hu : P.underlying t = some (.slice e)) {x : AV} {v : Value} (hv : RV M x v) {n : Nat} (hn : slen x = some n) :
  Gives P M m m w (Builtin.len_ #[t] ty #[v]) (.int .i64 n) := by
 cases hv <;> simp [slen] at hn <;> subst hn <;> exact Gives.same h (by simp [Builtin.len_, run_underlying hu, goInt]) (.int _ _)
theorem gives_lenC [Globs] {P : Program} {M : Mp} {m : Mem} {w : World} (h : Holds P M m.heap m.loops w) {t e ty : TypeId} {n : Nat} (hu : P.underlying t = some (.array n e)) (v : Value) :
  Gives P M m m w (Builtin.len_ #[t] ty #[v]) (.int .i64 n) :=
 Gives.same h (v := .int .i64 n) (by simp [Builtin.len_, run_underlying hu, goInt]) (.int _ _)
theorem gives_cap [Globs] {P : Program} {M : Mp} {m : Mem} {w : World} (h : Holds P M m.heap m.loops w) {t e ty : TypeId} (hu : P.underlying t = some (.slice e)) {x : AV} {v : Value} (hv : RV M x v) {z : AV}
  (hz : capAV x = some z) :
  Gives P M m m w (Builtin.cap_ #[t] ty #[v]) z := by
 cases hv with
 | snil => simp [capAV] at hz; subst hz; exact Gives.same h (v := .int .i64 0) (by simp [Builtin.cap_, run_underlying hu, goInt]) (.int _ _)
 | sval full len l b o cap f hc hf hi hr h1 =>
  cases full with
  | false => simp [capAV] at hz
  | true =>
   simp [capAV] at hz
   subst hz
   rw [hf rfl]
   exact Gives.same h (v := .int .i64 len) (by simp [Builtin.cap_, run_underlying hu, goInt]) (.int _ _)
 | sref id g off sz' len cap lc ccap hl hc hr he ho =>
  cases cap with
  | none => simp [capAV] at hz
  | some c =>
   simp [capAV] at hz
   subst hz
   rw [he c rfl]
   exact Gives.same h (v := .int .i64 c) (by simp [Builtin.cap_, run_underlying hu, goInt]) (.int _ _)
 | _ => simp [capAV] at hz
theorem run_mm [Globs] {P : Program} {M : Mp} {w : World} (mx : Bool) : ∀ {l : List AV} {vs : List Value} {k : IntKind} {a : Int} {z : AV}, RVs M l vs.toArray → mmGo mx k a l = some z →
  ∃ r, (vs.foldlM (if mx then Builtin.max2 else Builtin.min2) (.int k a)).run P w = .ok r w ∧ RV M z r
 | [], vs, k, a, z, hr, h => by
  have : vs = [] := List.eq_nil_of_length_eq_zero (by have := hr.len; simpa using this.symm)
  subst this
  simp [mmGo] at h
  subst h
  exact ⟨_, by simp, .int _ _⟩
 | x :: l, vs, k, a, z, hr, h => by
  cases vs with
  | nil => have := hr.len; simp at this
  | cons v vs =>
   have hx := hr.rel 0
   simp [gt, ag] at hx
   have hrest : RVs M l vs.toArray := by have := hr.drop 1; simpa using this
   cases x <;> simp only [mmGo] at h <;> try (cases h; done)
   rename_i k' b
   split at h
   ·rename_i ek
    subst ek
    cases hx
    obtain ⟨r, h1, h2⟩ := run_mm mx hrest h
    refine ⟨r, ?_, h2⟩
    rw [List.foldlM_cons, Sem.run_bind]
    cases mx
    ·simpa [Builtin.min2] using h1
    ·simpa [Builtin.max2] using h1
   ·cases h
theorem gives_minmax [Globs] {P : Program} {M : Mp} {m : Mem} {w : World} (h : Holds P M m.heap m.loops w) (mx : Bool) {l : List AV} {vs : List Value} {z : AV} (hr : RVs M l vs.toArray) (hz : minmaxAV mx l = some z) (tys : Array TypeId) (ty : TypeId) :
  Gives P M m m w ((if mx then Builtin.max_ else Builtin.min_) tys ty vs.toArray) z := by
 unfold minmaxAV at hz
 split at hz
 ·rename_i k a l
  cases vs with
  | nil => have := hr.len; simp at this
  | cons v vs =>
   have hx := hr.rel 0
   simp [gt, ag] at hx
   cases hx
   have hrest : RVs M l vs.toArray := by have := hr.drop 1; simpa using this
   obtain ⟨r, h1, h2⟩ := run_mm (P := P) (w := w) mx hrest hz
   refine Gives.same h ?_ h2
   cases mx
   ·simpa [Builtin.min_] using h1
   ·simpa [Builtin.max_] using h1
 ·cases hz
theorem strAV_len {x z : AV} (h : strAV .len [x] = some z) : ∃ s, x = .str s ∧ z = .int .i64 s.size := by
 cases x <;> simp [strAV] at h
 exact ⟨_, rfl, h.symm⟩
theorem strAV_index {x y z : AV} (h : strAV .index [x, y] = some z) : ∃ s j b, x = .str s ∧ idx y s.size = some j ∧ s[j]? = some b ∧ z = .int .u8 b.toNat := by
 cases x <;> simp only [strAV] at h <;> first | (cases h; done) | skip
 rename_i s
 cases hj : idx y s.size with
 | none => rw [hj] at h; cases h
 | some j =>
  rw [hj] at h
  simp only [Option.bind_some] at h
  cases hb : s[j]? with
  | none => rw [hb] at h; cases h
  | some b =>
   rw [hb] at h
   simp only [Option.map_some, Option.some.injEq] at h
   exact ⟨s, j, b, rfl, hj, hb, h.symm⟩
theorem strAV_slice {T : List AV} {x : Opd} {lo hi : Option Opd} {z : AV} (h : strAV (.slice lo.isSome hi.isSome) ((x :: lo.toList ++ hi.toList).map (·.ev T)) = some z) : ∃ s, x.ev T = .str s ∧ strSl s (lo.map (·.ev T)) (hi.map (·.ev T)) = some z := by
 cases lo <;> cases hi <;> simp only [Option.isSome, Option.toList, List.cons_append, List.nil_append, List.map_cons, List.map_nil] at h <;> generalize x.ev T = v at h ⊢ <;> cases v <;> simp only [strAV] at h <;> first | (cases h; done) | exact ⟨_, rfl, h⟩
theorem gives_strLen [Globs] {P : Program} {M : Mp} {m : Mem} {w : World} (h : Holds P M m.heap m.loops w) {t ty : TypeId} (hu : P.underlying t = some .string) (s : ByteArray) :
  Gives P M m m w (Builtin.len_ #[t] ty #[.string s]) (.int .i64 s.size) :=
 Gives.same h (v := .int .i64 s.size) (by simp [Builtin.len_, run_underlying hu, goInt]) (.int _ _)
theorem gives_strIndex [Globs] {P : Program} {M : Mp} {m : Mem} {w : World} (h : Holds P M m.heap m.loops w) {t : TypeId} (hu : P.underlying t = some .string) {s : ByteArray} {y : AV} {u : Value} (hy : RV M y u) {j : Nat} (hj : idx y s.size = some j) {b : UInt8} (hb : s[j]? = some b) :
  Gives P M m m w (Instr.index t (.string s) u) (.int .u8 b.toNat) := by
 obtain ⟨k, q, rfl, g1, g2, rfl⟩ := idx_int hy hj
 exact Gives.same h (v := .int .u8 b.toNat) (by simp [Instr.index, asIntOf, run_underlying hu, g1, hb]) (.int _ _)
theorem gives_strSlice [Globs] {P : Program} {M : Mp} {m : Mem} {w : World} (h : Holds P M m.heap m.loops w) {T : List AV} {a : Act} (hT : RT M T a) {t : TypeId} (hu : P.underlying t = some .string)
  {lo hi : Option Operand} {lo' hi' : Option Opd} (h1 : cOpdO lo = some lo') (h2 : cOpdO hi = some hi') {s : ByteArray} {z : AV}
  (hz : strSl s (lo'.map (·.ev T)) (hi'.map (·.ev T)) = some z) : Gives P M m m w (Instr.sliceAt t (.string s) (lo.map a.eval) (hi.map a.eval) none) z := by
 unfold strSl at hz
 cases hb : bnds s.size (some s.size) (lo'.map (·.ev T)) (hi'.map (·.ev T)) none with
 | none => simp [hb] at hz
 | some r =>
  obtain ⟨l, hh, mm⟩ := r
  simp [hb] at hz
  subst hz
  obtain ⟨m', g1, _⟩ := run_bnds (P := P) (w := w) (mx := none) (mx' := none) hT h1 h2 rfl false s.size s.size (some s.size) (fun k e => by cases e; rfl) (Nat.le_refl _) hb
  simp only [Option.map_none] at g1
  exact Gives.same h (by rw [show (Instr.sliceAt t (.string s) (lo.map a.eval) (hi.map a.eval) none).run P w = (Instr.slice t (.string s) (lo.map a.eval) (hi.map a.eval) none).run P w by simp [Instr.sliceAt, run_underlying hu]]; simp [Instr.slice, run_underlying hu, g1]) (.str _)
end Go.Zz

