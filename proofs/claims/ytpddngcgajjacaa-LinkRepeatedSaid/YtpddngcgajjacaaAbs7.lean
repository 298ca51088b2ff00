/-
  One operation. Part 2: loads, stores, arithmetic, comparison, slices.
-/
import Derived.Test.YtpddngcgajjacaaAbs6
namespace Go.Zz

def GivesU (P : Program) (M : Mp) (m m' : Mem) (w : World) (s : Sem Unit) : Prop :=
  ∃ w' M', s.run P w = .ok () w' ∧ Holds P M' m'.heap m'.loops w' ∧ Fr M m.heap m.loops w M' m'.heap m'.loops w'

theorem gives_load {P : Program} {M : Mp} {m : Mem} {w : World} (h : Holds P M m.heap m.loops w) {t : TypeId} {g : Bool} {s : Nat} (hg : aggOf P t = some g) (hs : szOf P t = some s)
    {p : AV} {v : Value} (hv : RV M p v) {x : AV}
    (hx : loadAV m.heap g s p = some x) :
    Gives P M m m w (Instr.loadAt t v) x := by
  cases hv with
  | pref id gn off lc hl =>
    simp only [loadAV] at hx
    cases hk : look m.heap id gn with
    | none => simp [hk] at hx
    | some l =>
      simp [hk] at hx
      obtain ⟨u, h1, h2⟩ := run_load (cellsAt_blk h hk hl) hg hs hx
      exact Gives.same h (by simp only [Instr.loadAt, Instr.sureAddr, Sem.run_bind, Sem.run_pure, Result.andThen_ok, h1]) h2
  | pval l b o f hi hr h1 =>
    simp only [loadAV] at hx
    obtain ⟨u, h1, h2⟩ := run_load (cellsAt_imm h hi hr h1) hg hs hx
    rw [Nat.add_zero] at h1
    exact Gives.same h (by simp only [Instr.loadAt, Instr.sureAddr, Sem.run_bind, Sem.run_pure, Result.andThen_ok, h1]) h2
  | _ => simp [loadAV] at hx

theorem gives_store {P : Program} {M : Mp} {m : Mem} {w : World} (h : Holds P M m.heap m.loops w) {t : TypeId} {s : Nat} (hs : szOf P t = some s)
    {id g off : Nat} {v u : Value} (hv : RV M (.pref id g off) v) {x : AV} (hx : RV M x u) {c : List AV} (hc : x.cells = some c) (hl : c.length = s) {H : Hp} (hst : storeAt m.heap id g off c = some H) :
    GivesU P M m ⟨H, m.loops⟩ w (Instr.storeAt t v u) := by
  cases hv with
  | pref id gn off lc hlc =>
    obtain ⟨r1, r2⟩ := cells_rv hx hc
    obtain ⟨i, hi, hsz, _⟩ := szOf_eq hs
    have hcs : u.cells.size = s := by rw [← r1.len, hl]
    obtain ⟨q1, q2, q3, q4⟩ := stored h hlc (vs := u.cells.toList) (by simpa using r1) r2 hst
    refine ⟨_, M, ?_, q3, q4⟩
    have := run_storeCells_cells (P := P) lc.blk (lc.base + off) u.cells.toList 0 w (fun j hj => by simpa using q1 j hj) (fun j _ => q2 _) r2
    simp only [Nat.add_zero] at this
    simp [Instr.storeAt, Instr.sureAddr, storeVar, sizeOf, typeInfo, hi, hcs, hsz, this]

theorem gives_nilCheck {M : Mp} {x y : AV} {v : Value} (hv : RV M x v) (hx : nilCheckAV x = some y) {P : Program} {w : World} {o : Oper} {X : Operand} {ρ : Operand → Value} (ho : o.op = .nilCheck X) (hX : ρ X = v) :
    (execOp ρ o).run P w = .ok (.value v) w ∧ RV M y v := by
  unfold nilCheckAV at hx
  cases hv <;> simp at hx
  · subst hx
    refine ⟨by simp [execOp, ho, hX], ?_⟩
    rename_i lc hl
    exact .pref _ _ _ _ hl
  · subst hx
    refine ⟨by simp [execOp, ho, hX], ?_⟩
    rename_i hi hr h1
    exact .pval _ _ _ _ hi hr h1
  · subst hx
    refine ⟨by simp [execOp, ho, hX], ?_⟩
    rename_i ha hb h1 h2
    exact .func _ _ _ _ _ ha hb h1 h2
  · subst hx
    refine ⟨by simp [execOp, ho, hX], ?_⟩
    rename_i hl
    exact .yield _ _ hl

theorem run_eqGuard_of {P : Program} {w : World} (op : BinOp) (t : TypeId) (x y : Operand) (a b : Value) (h1 : a ≠ .nilIface) (h2 : ∀ c, a ≠ .agg c) : (eqGuard op t x y a b).run P w = .ok () w := by
  cases op <;> simp [eqGuard] <;> (cases a <;> simp_all)

theorem run_bin {P : Program} {M : Mp} {w : World} {op : BinOp} {t : TypeId} {x y z : AV} {v u : Value} (hx : RV M x v) (hy : RV M y u) (h : binAV op x y = some z) :
    ∃ r, (binOp op t v u).run P w = .ok r w ∧ RV M z r := by
  unfold binAV at h
  split at h
  · rename_i k a k' b
    cases hx
    cases hy
    split at h
    · rename_i hk
      cases op <;> simp [isShift] at hk <;> (try subst hk) <;> simp only [binInt] at h <;>
        (try (split at h <;> first | (cases h; done) | (rename_i hb; cases h; refine ⟨_, ?_, .int _ _⟩; simp [binOp, Op.intDiv, Op.shift, hb])))
      all_goals
        cases h
        first
        | (refine ⟨_, ?_, .int _ _⟩; first | (simp [binOp, Op.intArith]; done) | (simp only [binOp, ne_eq, not_true, if_false]; rfl))
        | (refine ⟨_, ?_, .bool _⟩; simp [binOp, Op.intCmp]; done)
    · cases h
  · cases h

theorem run_beq {P : Program} {w : World} {t : TypeId} (hu : P.underlying t = some .bool) (neg a b : Bool) :
    (binOp (if neg then .neq else .eql) t (.bool a) (.bool b)).run P w = .ok (.bool (if neg then !(a == b) else a == b)) w := by
  cases neg <;> simp [binOp, Op.equal, Op.maxDepth, run_equalIn_bool w _ t a b hu]

theorem run_aggEq {P : Program} {M : Mp} {w : World} {t : TypeId} {D : TypeDesc} (hu : P.underlying t = some D) (hD : D.isRow = true) {sg : List Bool} (hs : sigOf P eqDepth t = some sg) {l l' : List AV} {c c' : Array Value}
    (hl : RVs M l c) (hl' : RVs M l' c') {r : Bool} (hr : cellsEq sg l l' = some r) (neg : Bool) :
    (binOp (if neg then .neq else .eql) t (.agg c) (.agg c')).run P w = .ok (.bool (if neg then !r else r)) w := by
  have := run_eq (w := w) hs 10000 (by simp [eqDepth]) l l' c.toList c'.toList (.agg c) (.agg c') r (by simpa using hl) (by simpa using hl') hr ⟨D, hu, .inl ⟨hD, by simp⟩⟩ ⟨D, hu, .inl ⟨hD, by simp⟩⟩
  cases neg
  · simp only [Bool.false_eq_true, if_false, run_eql_struct, this, Result.andThen_ok]
  · simp only [if_true, run_neq_struct, this, Result.andThen_ok]

/-- The types at which nil is compared. -/
def nilType (k : Nat) (D : TypeDesc) : Prop :=
  (k = 0 → ∃ e, D = .slice e) ∧ (k = 1 → ∃ e, D = .pointer e) ∧ (k = 2 → ∃ a b c, D = .func a b c)

theorem run_nilEq {P : Program} {M : Mp} {w : World} {t : TypeId} (d : Nat) {D : TypeDesc} (hu : P.underlying t = some D) {k : Nat} (hD : nilType k D) {x y : AV} {v u : Value} (hx : RV M x v) (hy : RV M y u)
    {r : Bool} (hr : nilEqAV k x y = some r) : (Op.equalIn (d + 1) t v u).run P w = .ok r w ∧ v ≠ .nilIface ∧ ∀ c, v ≠ .agg c := by
  obtain ⟨h0, h1, h2⟩ := hD
  unfold nilEqAV at hr
  split at hr <;> first | (cases hr; done) | skip
  all_goals
    cases hx
    cases hy
    cases hr
    refine ⟨?_, by simp, by simp⟩
    first
    | (obtain ⟨e, rfl⟩ := h0 rfl; simp [Op.equalIn, run_underlying hu]; done)
    | (obtain ⟨e, rfl⟩ := h1 rfl; simp [Op.equalIn, run_underlying hu]; done)
    | (obtain ⟨a, b, c, rfl⟩ := h2 rfl; simp [Op.equalIn, run_underlying hu]; done)

/-- '==', '!=' on values that are no numbers and no aggregates. -/
theorem run_eqOp {P : Program} {w : World} {t : TypeId} {v u : Value} {r : Bool} (h : (Op.equalIn 10000 t v u).run P w = .ok r w) (hv : (v = .slice none 0 0 ∨ ∃ a n c, v = .slice a n c) ∨ (∃ a, v = .pointer a) ∨ v = .nilFunc ∨ ∃ f a b, v = .func f a b)
    (hu : (∃ a n c, u = .slice a n c) ∨ (∃ a, u = .pointer a) ∨ u = .nilFunc ∨ ∃ f a b, u = .func f a b) (neg : Bool) :
    (binOp (if neg then .neq else .eql) t v u).run P w = .ok (.bool (if neg then !r else r)) w := by
  have key : (Op.equal t v u).run P w = .ok r w := h
  rcases hv with (rfl | ⟨_, _, _, rfl⟩) | ⟨_, rfl⟩ | rfl | ⟨_, _, _, rfl⟩ <;> rcases hu with ⟨_, _, _, rfl⟩ | ⟨_, rfl⟩ | rfl | ⟨_, _, _, rfl⟩ <;> cases neg <;> simp [binOp, key]

theorem run_un {P : Program} {M : Mp} {w : World} {op : UnOp} {x z : AV} {v : Value} (hx : RV M x v) (h : unAV op x = some z) : ∃ r, (Op.unary op v).run P w = .ok r w ∧ RV M z r := by
  unfold unAV at h
  split at h <;> first | (cases h; done) | skip
  · cases hx; cases h; exact ⟨_, by simp [Op.unary, Op.intArith], .int _ _⟩
  · cases hx; cases h; exact ⟨_, by simp [Op.unary, Op.intBits], .int _ _⟩
  · cases hx; cases h; exact ⟨_, by simp [Op.unary], .bool _⟩

theorem run_conv {P : Program} {w : World} {s t : TypeId} {k k' : IntKind} {n : Int} (hs : P.underlying s = some (.int k')) (ht : P.underlying t = some (.int k)) (k0 : IntKind) :
    (convert s t (.int k0 n)).run P w = .ok (.int k (k.wrap n)) w := by
  simp [convert, run_underlying hs, run_underlying ht, Conv.intToInt]

theorem gives_makeSlice {P : Program} {M : Mp} {m : Mem} {w : World} (h : Holds P M m.heap m.loops w) (hf : ∀ g, M.loc m.heap.length g = none) {t e : TypeId} {sz : Nat} {i : TypeInfo} {z : List AV}
    (hu : P.underlying t = some (.slice e)) (hs : szOf P e = some sz) (hi : P.info? e = some i) (hz : zeroOf P e = some z) (k k' : IntKind) (a b : Int) (h0 : 0 ≤ a) (hab : a ≤ b) (hb : b * i.bytes ≤ 70368744177664) (hb2 : b ≤ 70368744177664) :
    Gives P M m (newBlk m (zeros z b.toNat)) w (Instr.makeSlice t (.int k a) (.int k' b)) (.sref m.heap.length 0 0 sz a.toNat (some b.toNat)) := by
  obtain ⟨i', hi', hsz, hpos⟩ := szOf_eq hs
  rw [hi] at hi'
  cases hi'
  obtain ⟨i2, zv, hi2, hzv, hcc, hzl, _⟩ := zeroOf_eq hz
  rw [hi] at hi2
  cases hi2
  obtain ⟨r1, r2⟩ := rv_cells (M := M) hcc
  have hzs : zv.cells.size = sz := by have := r1.len; simp at this; omega
  have hN : b.toNat * i.size = b.toNat * z.length := by rw [hzl]
  obtain ⟨q1, q2⟩ := rvs_zeros (by simpa using r1 : RVs M z zv.cells) (by simpa using r2) (by omega) b.toNat (b.toNat * i.size) hN
  have hmul : (i.bytes : Int) * b = b * i.bytes := Int.mul_comm _ _
  have hrun := run_make (P := P) w t e i zv hu hi hzv k k' a b h0 hab (by omega) (by omega)
  refine madeSl h hf (w' := w.alloc (.cells (madeCells zv.cells (b.toNat * i.size)) e)) e sz a.toNat b.toNat (some b.toNat) rfl rfl rfl hrun (fun j hj => ?_) (by rw [q1.len]; simp [madeCells]) (by omega) ?_ (fun _ hk => by cases hk; rfl) (fun hk => by cases hk)
  · have e1 : madeCells zv.cells (b.toNat * i.size) = (Array.range (b.toNat * i.size)).map (zv.cells[· % zv.cells.size]!) := rfl
    rw [e1]
    refine ⟨q1.rel j, ?_⟩
    have hj' : j < ((Array.range (b.toNat * i.size)).map (zv.cells[· % zv.cells.size]!)).size := by rw [← q1.len]; exact hj
    rw [ag_of_lt hj']
    exact q2 _ (Array.mem_toList_iff.2 (Array.getElem_mem hj'))
  · simp [madeCells, hsz]

/-! ### Slice expressions, indexes -/

theorem run_bnd {P : Program} {M : Mp} {w : World} {x : AV} {v : Value} (hv : RV M x v) {y n : Nat} (h : bnd x y = some n) (code : BoundsCode) : (Instr.sliceBound v y code).run P w = .ok n w ∧ n ≤ y := by
  unfold bnd at h
  split at h
  · cases hv
    split at h
    · rename_i hb
      cases h
      refine ⟨by rw [run_sliceBound_if, if_pos hb], by omega⟩
    · cases h
  · cases h

theorem opdO {M : Mp} {T : List AV} {a : Act} (hT : RT M T a) {x : Option Operand} {y : Option Opd} (hxy : cOpdO x = some y) :
    (x = none ∧ y = none) ∨ ∃ x0 y0, x = some x0 ∧ y = some y0 ∧ RV M (y0.ev T) (a.eval x0) := by
  cases x with
  | none => simp [cOpdO] at hxy; exact .inl ⟨rfl, hxy.symm⟩
  | some x0 =>
    simp [cOpdO] at hxy
    obtain ⟨y0, hy0, rfl⟩ := hxy
    exact .inr ⟨x0, y0, rfl, rfl, rv_opd hT hy0⟩

theorem bnd_more {x : AV} {y y' n : Nat} (h : bnd x y = some n) (hle : y ≤ y') : bnd x y' = some n := by
  unfold bnd at h ⊢
  split at h
  · split at h
    · rename_i hh
      cases h
      rw [if_pos]
      omega
    · cases h
  · cases h

/-- The three bounds: 'cap' as it is in the model, of which 'c' knows something. -/
theorem run_bnds {P : Program} {M : Mp} {w : World} {T : List AV} {a : Act} (hT : RT M T a) {lo hi mx : Option Operand} {lo' hi' mx' : Option Opd} (h1 : cOpdO lo = some lo') (h2 : cOpdO hi = some hi') (h3 : cOpdO mx = some mx')
    (isS : Bool) (len cap : Nat) (c : Option Nat) (hc : ∀ k, c = some k → cap = k) (hle : len ≤ cap) {l h : Nat} {m : Option Nat}
    (hb : bnds len c (lo'.map (·.ev T)) (hi'.map (·.ev T)) (mx'.map (·.ev T)) = some (l, h, m)) :
    ∃ m', (Instr.sliceBounds isS len cap (lo.map a.eval) (hi.map a.eval) (mx.map a.eval)).run P w = .ok (l, h, m') w ∧ l ≤ h ∧ h ≤ m' ∧ m' ≤ cap ∧ (∀ k, m = some k → m' = k) ∧ (m = none → m' = cap ∧ h ≤ len ∧ c = none) := by
  have htop : c.getD len ≤ cap := by
    cases c with
    | none => exact hle
    | some k => simp [hc k rfl]
  have hlo : ∀ h l, bndO (lo'.map (·.ev T)) h 0 = some l → ∀ code, (match lo.map a.eval with | some v => Instr.sliceBound v h code | none => (pure 0 : Sem Nat)).run P w = .ok l w ∧ l ≤ h := by
    intro h l hl code
    rcases opdO hT h1 with ⟨rfl, rfl⟩ | ⟨x0, y0, rfl, rfl, hr⟩
    · simp [bndO] at hl; subst hl; exact ⟨rfl, Nat.zero_le _⟩
    · simp only [bndO, Option.map_some] at hl ⊢
      exact run_bnd hr hl code
  unfold bnds at hb
  rcases opdO hT h3 with ⟨rfl, rfl⟩ | ⟨x3, y3, rfl, rfl, hr3⟩
  · simp only [Option.map_none] at hb ⊢
    cases hh : bndO (hi'.map (·.ev T)) (c.getD len) len with
    | none => simp [hh] at hb
    | some h0 =>
      simp only [hh] at hb
      cases hl : bndO (lo'.map (·.ev T)) h0 0 with
      | none => simp [hl] at hb
      | some l0 =>
        simp [hl] at hb
        obtain ⟨rfl, rfl, rfl⟩ := hb
        have hhi : (match hi.map a.eval with | some v => Instr.sliceBound v cap (if isS then .sliceAcap else .sliceAlen) | none => (pure len : Sem Nat)).run P w = .ok h0 w ∧ h0 ≤ cap ∧ (c = none → h0 ≤ len) := by
          rcases opdO hT h2 with ⟨rfl, rfl⟩ | ⟨x0, y0, rfl, rfl, hr⟩
          · simp [bndO] at hh; subst hh; exact ⟨rfl, hle, fun _ => Nat.le_refl _⟩
          · simp only [bndO, Option.map_some] at hh ⊢
            obtain ⟨g1, g2⟩ := run_bnd (P := P) (w := w) hr (bnd_more hh htop) (if isS then .sliceAcap else .sliceAlen)
            refine ⟨g1, g2, fun e => ?_⟩
            subst e
            exact (run_bnd (P := P) (w := w) hr hh .index).2
        obtain ⟨g1, g2, g3⟩ := hhi
        obtain ⟨k1, k2⟩ := hlo h0 l0 hl (if (none : Option Value).isSome then .slice3C else .sliceB)
        refine ⟨cap, ?_, k2, g2, Nat.le_refl _, hc, fun e => ⟨rfl, g3 e, e⟩⟩
        rcases opdO hT h2 with ⟨rfl, rfl⟩ | ⟨x0, y0, rfl, rfl, hr⟩ <;> rcases opdO hT h1 with ⟨rfl, rfl⟩ | ⟨x1, y1, rfl, rfl, hr1⟩ <;>
          simp_all [Instr.sliceBounds]
  · simp only [Option.map_some] at hb ⊢
    cases hm : bnd (y3.ev T) (c.getD len) with
    | none => simp [hm] at hb
    | some m0 =>
      rcases opdO hT h2 with ⟨rfl, rfl⟩ | ⟨x2, y2, rfl, rfl, hr2⟩
      · simp [hm] at hb
      · simp only [hm, Option.map_some] at hb ⊢
        cases hh : bnd (y2.ev T) m0 with
        | none => simp [hh] at hb
        | some h0 =>
          simp only [hh] at hb
          cases hl : bndO (lo'.map (·.ev T)) h0 0 with
          | none => simp [hl] at hb
          | some l0 =>
            simp [hl] at hb
            obtain ⟨rfl, rfl, rfl⟩ := hb
            obtain ⟨g1, g2⟩ := run_bnd (P := P) (w := w) hr3 (bnd_more hm htop) (if isS then .slice3Acap else .slice3Alen)
            obtain ⟨g3, g4⟩ := run_bnd (P := P) (w := w) hr2 hh .slice3B
            obtain ⟨k1, k2⟩ := hlo h0 l0 hl (if (some (a.eval x3) : Option Value).isSome then .slice3C else .sliceB)
            refine ⟨m0, ?_, k2, g4, g2, fun k e => Option.some.inj e, fun e => by cases e⟩
            rcases opdO hT h1 with ⟨rfl, rfl⟩ | ⟨x1, y1, rfl, rfl, hr1⟩ <;> simp_all [Instr.sliceBounds]

end Go.Zz
