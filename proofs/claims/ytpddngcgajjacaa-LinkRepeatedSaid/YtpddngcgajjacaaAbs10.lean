/-
  One operation. Part 5: copy, clear; and all operations but calls of functions.
-/
import Derived.Test.YtpddngcgajjacaaAbs9
namespace Go.Zz
section
variable {P : Program}

theorem gives_copy {M : Mp} {m m' : Mem} {w : World} (h : Holds P M m.heap m.loops w) {t t' e ty : TypeId} {sz : Nat} (hu : P.underlying t = some (.slice e)) (hs : szOf P e = some sz) {d x z : AV} {v u : Value} (hv : RV M d v) (hx : RV M x u)
    (ha : copyAV sz m d x = some (z, m')) : Gives P M m m' w (Builtin.copy_ #[t, t'] ty #[v, u]) z := by
  obtain ⟨i, hi, hsz, hpos⟩ := szOf_eq hs
  unfold copyAV at ha
  cases hxs : scells m.heap sz x with
  | none => simp [hxs] at ha
  | some xs =>
    cases hn : slen x with
    | none => simp [hxs, hn] at ha
    | some n =>
      simp only [hxs, hn, Option.bind_eq_bind, Option.bind_some] at ha
      obtain ⟨hxl, hsrc⟩ := scells_at h hx hxs hn
      have hsrc' : ∃ ad c, u = .slice ad n c ∧ ∀ k, k ≤ n → ∃ vs : List Value, vs.length = k * sz ∧ (Builtin.firstCells sz k u).run P w = .ok vs.toArray w ∧ RVs M (xs.take (k * sz)) vs.toArray ∧ ∀ v ∈ vs, v.oneCell' = true := by
        rcases hsrc with ⟨_, rfl, rfl, rfl⟩ | ⟨_, b, o, c, rfl, hc⟩
        · refine ⟨none, 0, rfl, fun k hk => ?_⟩
          have : k = 0 := by omega
          subst this
          exact ⟨[], by simp, run_firstCells_none w sz 0 0 0, by simpa using RVs.nil M, by simp⟩
        · refine ⟨_, c, rfl, fun k hk => ?_⟩
          have hmul : k * sz ≤ n * sz := Nat.mul_le_mul_right _ hk
          obtain ⟨vs, q1, q2, q3, q4⟩ := firstCells_at (n := k) (sz := sz) (xs := xs.take (k * sz)) (by simp; omega) (hc.take _)
          exact ⟨vs, q1, run_firstCells_some w sz k ⟨b, o, none⟩ n c vs q1 q2, q3, q4⟩
      obtain ⟨ad, c, rfl, hk⟩ := hsrc'
      cases hv with
      | snil =>
        simp at ha
        obtain ⟨rfl, rfl⟩ := ha
        obtain ⟨vs, q1, q2, _, _⟩ := hk 0 (Nat.zero_le _)
        have hv0 : vs = [] := List.eq_nil_of_length_eq_zero (by simpa using q1)
        subst hv0
        exact Gives.same h (v := .int .i64 0) (by simp [Builtin.copy_, run_underlying hu, Builtin.lenOf, sizeOf, typeInfo, hi, hsz, q2, goInt]) (.int _ _)
      | sref id g off sz' len cap lc ccap hl hc hr he ho =>
        simp only at ha
        split at ha
        · rename_i esz
          subst esz
          cases hst : storeAt m.heap id g off (xs.take (Nat.min n len * sz')) with
          | none => simp [hst] at ha
          | some H =>
            simp [hst] at ha
            obtain ⟨rfl, rfl⟩ := ha
            obtain ⟨vs, q1, q2, q3, q4⟩ := hk (Nat.min n len) (Nat.min_le_left _ _)
            obtain ⟨s1, s2, s3, s4⟩ := stored h hl q3 q4 hst
            have hrun := run_storeCells_cells (P := P) lc.blk (lc.base + off) vs 0 w (fun j hj => by simpa using s1 j hj) (fun j _ => s2 _) q4
            simp only [Nat.add_zero] at hrun
            exact ⟨_, _, M, by simp [Builtin.copy_, run_underlying hu, Builtin.lenOf, sizeOf, typeInfo, hi, hsz, q2, hrun, goInt], .int _ _, s3, s4⟩
        · cases ha
      | _ => simp at ha

theorem gives_clear {M : Mp} {m m' : Mem} {w : World} (h : Holds P M m.heap m.loops w) {t e ty : TypeId} {zz : List AV} (hu : P.underlying t = some (.slice e)) (hz : zeroOf P e = some zz) {x : AV} {v : Value} (hv : RV M x v)
    (ha : clearAV zz m x = some m') : Gives P M m m' w (Builtin.clear_ #[t] ty #[v]) und := by
  obtain ⟨i, zv, hi, hzv, hcc, hzl, hzp⟩ := zeroOf_eq hz
  unfold clearAV at ha
  cases hv with
  | snil =>
    simp at ha
    subst ha
    exact Gives.same h (v := .tuple #[]) (by simp [Builtin.clear_, run_underlying hu]) .tup0
  | sval full len l b o cap f hc hf hi0 hr h1 =>
    cases len with
    | zero =>
      simp at ha
      subst ha
      exact Gives.same h (v := .tuple #[]) (by simp [Builtin.clear_, run_underlying hu]) .tup0
    | succ n => simp at ha
  | sref id g off sz' len cap lc ccap hl hc hr he ho =>
    simp only at ha
    split at ha
    · rename_i h0
      subst h0
      cases ha
      exact Gives.same h (v := .tuple #[]) (by simp [Builtin.clear_, run_underlying hu]) .tup0
    · rename_i h0
      cases hst : storeAt m.heap id g off (zeros zz len) with
      | none => simp [hst] at ha
      | some H =>
        simp [hst] at ha
        subst ha
        obtain ⟨r1, r2⟩ := rv_cells (M := M) hcc
        have hzs : zv.cells.size = zz.length := by have := r1.len; simp at this; omega
        obtain ⟨q1, q2⟩ := rvs_zeros (by simpa using r1 : RVs M zz zv.cells) (by simpa using r2) (by omega) len (len * zv.cells.size) (by rw [hzs])
        have e1 : (Array.range (len * zv.cells.size)).map (zv.cells[· % zv.cells.size]!) = Builtin.zeroCells zv.cells len := rfl
        rw [e1] at q1 q2
        obtain ⟨s1, s2, s3, s4⟩ := stored h hl (vs := (Builtin.zeroCells zv.cells len).toList) (by simpa using q1) q2 hst
        have hrun := run_storeCells_cells (P := P) lc.blk (lc.base + off) (Builtin.zeroCells zv.cells len).toList 0 w (fun j hj => by simpa using s1 j hj) (fun j _ => s2 _) q2
        simp only [Nat.add_zero] at hrun
        exact ⟨.tuple #[], _, M, by simp [Builtin.clear_, run_underlying hu, zeroValue, typeInfo, hi, hzv, h0, hrun], .tup0, s3, s4⟩
  | _ => simp at ha

/-- What an operation gives that is no call: a value, or nothing to be seen. -/
def OpGives (P : Program) (M : Mp) (m m' : Mem) (w : World) (s : Sem Next) (x : AV) : Prop :=
  ∃ v w' M', (s.run P w = .ok (.value v) w' ∨ (s.run P w = .ok .skip w' ∧ v = undef)) ∧ RV M' x v ∧ Holds P M' m'.heap m'.loops w' ∧ Fr M m.heap m.loops w M' m'.heap m'.loops w'

theorem Gives.op {M : Mp} {m m' : Mem} {w : World} {s : Sem Value} {x : AV} (h : Gives P M m m' w s x) : OpGives P M m m' w (do pure (.value (← s))) x := by
  obtain ⟨v, w', M', h1, h2, h3, h4⟩ := h
  exact ⟨v, w', M', .inl (by simp [h1]), h2, h3, h4⟩

theorem GivesU.op {M : Mp} {m m' : Mem} {w : World} {s : Sem Unit} (h : GivesU P M m m' w s) : OpGives P M m m' w (do s; pure .skip) und := by
  obtain ⟨w', M', h1, h3, h4⟩ := h
  exact ⟨undef, w', M', .inr ⟨by simp [h1], rfl⟩, .tup0, h3, h4⟩

def isCall : IOp → Bool
  | .call .. => true
  | _ => false

theorem opds_list {M : Mp} {T : List AV} {a : Act} (hT : RT M T a) {xs : Array Operand} {ys : List Opd} (h : cOpds xs.toList = some ys) : RVs M (ys.map (·.ev T)) (xs.map a.eval) := by
  have := rv_opds hT h
  rwa [show (xs.toList.map a.eval).toArray = xs.map a.eval by rw [← Array.toList_map, Array.toArray_toList]] at this

theorem run_builtin {w : World} {ρ : Operand → Value} {o : Oper} {c : Call} {b : Builtin} (ho : o.op = .call c) (hb : c.callee = .builtin b) :
    (execOp ρ o).run P w = (builtin b c.argTypes o.type (c.args.map fun | .const _ => true | _ => false) (c.args.map ρ)).run P w := by
  simp only [execOp, ho, resolve, hb, invoke, Sem.run_bind, Sem.run_pure, Result.andThen_ok]
  rfl

/-- **ONE OPERATION, NO CALL OF A FUNCTION.** -/
theorem op_sound {M : Mp} {m m' : Mem} {w : World} (h : Holds P M m.heap m.loops w) (hf : m.heap.length < m'.heap.length → ∀ g, M.loc m.heap.length g = none) {T : List AV} {a : Act} (hT : RT M T a)
    {o : Oper} {io : IOp} (hc : cOp P o.op = some io) (hcall : isCall io = false) {call : AV → List AV → Mem → Option (AV × Mem)} {x : AV} (he : evOp call T m io = some (x, m')) :
    OpGives P M m m' w (execOp a.eval o) x := by
  have nb : ∀ l, m' = newBlk m l → ∀ g, M.loc m.heap.length g = none := fun l e => hf (by rw [e]; simp [newBlk])
  cases ho : o.op with
  | move y =>
    rw [ho] at hc
    simp [cOp] at hc
    obtain ⟨z, hz, rfl⟩ := hc
    simp [evOp] at he
    obtain ⟨rfl, rfl⟩ := he
    exact ⟨_, w, M, .inl (by simp [execOp, ho]), rv_opd hT hz, h, Fr.refl _ _ _ _⟩
  | assign y =>
    rw [ho] at hc
    simp [cOp] at hc
    obtain ⟨z, hz, rfl⟩ := hc
    simp [evOp] at he
    obtain ⟨rfl, rfl⟩ := he
    exact ⟨_, w, M, .inl (by simp [execOp, ho]), rv_opd hT hz, h, Fr.refl _ _ _ _⟩
  | pick c p q =>
    rw [ho] at hc
    simp only [cOp] at hc
    split at hc
    · rename_i c' p' q' h1 h2 h3
      cases hc
      simp only [evOp] at he
      split at he
      · rename_i t ht
        simp at he
        obtain ⟨rfl, rfl⟩ := he
        have r1 := rv_opd hT h1
        rw [ht] at r1
        generalize hev : a.eval c = cv at r1
        cases r1
        refine ⟨if t then a.eval p else a.eval q, w, M, .inl ?_, ?_, h, Fr.refl _ _ _ _⟩
        · cases t <;> simp [execOp, ho, hev, asBool]
        · cases t
          · exact rv_opd hT h3
          · exact rv_opd hT h2
      · cases he
    · cases hc
  | alloc e =>
    rw [ho] at hc
    simp [cOp] at hc
    obtain ⟨z, hz, rfl⟩ := hc
    simp [evOp] at he
    obtain ⟨rfl, rfl⟩ := he
    have := (gives_alloc h (nb _ rfl) hz).op
    simpa [execOp, ho] using this
  | box e y =>
    rw [ho] at hc
    simp [cOp] at hc
    obtain ⟨z, hz, rfl⟩ := hc
    simp only [evOp] at he
    cases hcs : (z.ev T).cells with
    | none => simp [hcs] at he
    | some cs =>
      simp [hcs] at he
      obtain ⟨rfl, rfl⟩ := he
      have := (gives_box h (nb _ rfl) e (rv_opd hT hz) hcs).op
      simpa [execOp, ho] using this
  | build t parts =>
    rw [ho] at hc
    have hc' := hc
    simp only [cOp] at hc'
    have : ∃ z ps, io = .build z ps := by
      split at hc'
      · rename_i z fs _ _
        cases hp : cParts (fun i => (fs[i]?).bind fun (f : Field) => (szOf P f.type).map fun s => (f.offset, s)) parts.toList with
        | none => simp [hp] at hc'
        | some ps => simp [hp] at hc'; exact ⟨_, _, hc'.2.symm⟩
      · split at hc'
        · simp at hc'; obtain ⟨ps, _, rfl⟩ := hc'; exact ⟨_, _, rfl⟩
        · cases hc'
      · cases hc'
    obtain ⟨z, ps, rfl⟩ := this
    simp only [evOp] at he
    cases hfl : fillP T z ps with
    | none => simp [hfl] at he
    | some out =>
      simp [hfl] at he
      obtain ⟨rfl, rfl⟩ := he
      have := (gives_build h hT hc hfl).op
      simpa [execOp, ho] using this
  | buildSlice t len parts =>
    rw [ho] at hc
    have hc' := hc
    simp only [cOp] at hc'
    have : ∃ n sz z ps, io = .buildSlice n sz z ps := by
      split at hc'
      · split at hc'
        · split at hc'
          · simp at hc'; obtain ⟨ps, _, rfl⟩ := hc'; exact ⟨_, _, _, _, rfl⟩
          · cases hc'
        · cases hc'
      · cases hc'
    obtain ⟨n, sz, z, ps, rfl⟩ := this
    simp only [evOp] at he
    cases hfl : fillP T (zeros z n) ps with
    | none => simp [hfl] at he
    | some out =>
      simp [hfl] at he
      obtain ⟨rfl, rfl⟩ := he
      have := (gives_buildSlice h (nb _ rfl) hT hc hfl).op
      simpa [execOp, ho] using this
  | load t y =>
    rw [ho] at hc
    simp only [cOp] at hc
    split at hc
    · rename_i g s z hg hs hz
      cases hc
      simp only [evOp] at he
      cases hk : loadAV m.heap g s (z.ev T) with
      | none => simp [hk] at he
      | some r =>
        simp [hk] at he
        obtain ⟨rfl, rfl⟩ := he
        have := (gives_load h hg hs (rv_opd hT hz) hk).op
        simpa [execOp, ho] using this
    · cases hc
  | store t y y2 =>
    rw [ho] at hc
    simp only [cOp] at hc
    split at hc
    · rename_i s z z2 hs hz hz2
      cases hc
      simp only [evOp] at he
      split at he
      · rename_i id g off hzz
        cases hcs : (z2.ev T).cells with
        | none => simp [hcs] at he
        | some c =>
          simp only [hcs, Option.bind_some] at he
          split at he
          · rename_i hl
            cases hst : storeAt m.heap id g off c with
            | none => simp [hst] at he
            | some H =>
              simp [hst] at he
              obtain ⟨rfl, rfl⟩ := he
              have r1 := rv_opd hT hz
              rw [hzz] at r1
              have := (gives_store h hs r1 (rv_opd hT hz2) hcs hl hst).op
              simpa [execOp, ho] using this
          · cases he
      · cases he
    · cases hc
  | nilCheck y =>
    rw [ho] at hc
    simp [cOp] at hc
    obtain ⟨z, hz, rfl⟩ := hc
    simp only [evOp] at he
    cases hn : nilCheckAV (z.ev T) with
    | none => simp [hn] at he
    | some r =>
      simp [hn] at he
      obtain ⟨rfl, rfl⟩ := he
      obtain ⟨g1, g2⟩ := gives_nilCheck (P := P) (w := w) (rv_opd hT hz) hn ho rfl
      exact ⟨_, w, M, .inl g1, g2, h, Fr.refl _ _ _ _⟩
  | binOp op t y y2 yt =>
    rw [ho] at hc
    simp only [cOp] at hc
    have hex : ∀ {r : Value} {w' : World}, (eqGuard op t y y2 (a.eval y) (a.eval y2)).run P w = .ok () w → (binOp op t (a.eval y) (a.eval y2)).run P w = .ok r w' → (execOp a.eval o).run P w = .ok (.value r) w' := fun h1 h2 => by
      simp [execOp, ho, h1, h2]
    have agg : ∀ z z2 D, cOpd y = some z → cOpd y2 = some z2 → P.underlying t = some D → D.isRow = true →
        (match (generalizing := false) op, sigOf P eqDepth t with
          | .eql, some sg => if P.eqGuardType P.depth t then none else some (IOp.aggEq false sg z z2)
          | .neq, some sg => if P.eqGuardType P.depth t then none else some (IOp.aggEq true sg z z2)
          | _, _ => none) = some io → OpGives P M m m' w (execOp a.eval o) x := by
      intro z z2 D hz hz2 hu hrow hc
      have key : ∃ neg sg, io = .aggEq neg sg z z2 ∧ op = (if neg then .neq else .eql) ∧ sigOf P eqDepth t = some sg ∧ P.eqGuardType P.depth t = false := by
        split at hc
        · split at hc
          · cases hc
          · rename_i hg; cases hc; exact ⟨false, _, rfl, rfl, by assumption, by simpa using hg⟩
        · split at hc
          · cases hc
          · rename_i hg; cases hc; exact ⟨true, _, rfl, rfl, by assumption, by simpa using hg⟩
        · cases hc
      obtain ⟨neg, sg, rfl, rfl, hsg, hgd⟩ := key
      simp only [evOp] at he
      split at he
      · rename_i p q e1 e2
        cases hq : cellsEq sg p q with
        | none => simp [hq] at he
        | some r =>
          simp [hq] at he
          obtain ⟨rfl, rfl⟩ := he
          have r1 := rv_opd hT hz
          have r2 := rv_opd hT hz2
          rw [e1] at r1
          rw [e2] at r2
          generalize hyv : a.eval y = yv at r1
          generalize hyv2 : a.eval y2 = yv2 at r2
          cases r1 with
          | agg _ c1 l1 k1 _ =>
            cases r2 with
            | agg _ c2 l2 k2 _ =>
              exact ⟨.bool (if neg then !r else r), w, M, .inl (hex (by rw [hyv, hyv2]; exact run_eqGuard_agg w _ t y y2 _ _ hgd) (by rw [hyv, hyv2]; exact run_aggEq hu hrow hsg ⟨l1, k1⟩ ⟨l2, k2⟩ hq neg)), .bool _, h, Fr.refl _ _ _ _⟩
      · cases he
    have nilq : ∀ k z z2 D, cOpd y = some z → cOpd y2 = some z2 → P.underlying t = some D → nilType k D →
        (match (generalizing := false) op with
          | .eql => some (IOp.nilEq k false z z2)
          | .neq => some (IOp.nilEq k true z z2)
          | _ => none) = some io → OpGives P M m m' w (execOp a.eval o) x := by
      intro k z z2 D hz hz2 hu hD hc
      have key : ∃ neg, io = .nilEq k neg z z2 ∧ op = (if neg then .neq else .eql) := by
        split at hc
        · cases hc; exact ⟨false, rfl, rfl⟩
        · cases hc; exact ⟨true, rfl, rfl⟩
        · cases hc
      obtain ⟨neg, rfl, rfl⟩ := key
      simp only [evOp] at he
      cases hq : nilEqAV k (z.ev T) (z2.ev T) with
      | none => simp [hq] at he
      | some r =>
        simp [hq] at he
        obtain ⟨rfl, rfl⟩ := he
        have r1 := rv_opd hT hz
        have r2 := rv_opd hT hz2
        obtain ⟨g1, g2, g3⟩ := run_nilEq (P := P) (w := w) 9999 hu hD r1 r2 hq
        have hsh : ((a.eval y = .slice none 0 0 ∨ ∃ p n c, a.eval y = .slice p n c) ∨ (∃ p, a.eval y = .pointer p) ∨ a.eval y = .nilFunc ∨ ∃ f p b, a.eval y = .func f p b) ∧
            ((∃ p n c, a.eval y2 = .slice p n c) ∨ (∃ p, a.eval y2 = .pointer p) ∨ a.eval y2 = .nilFunc ∨ ∃ f p b, a.eval y2 = .func f p b) := by
          generalize a.eval y = yv at r1
          generalize a.eval y2 = yv2 at r2
          generalize z.ev T = zv at r1 hq
          generalize z2.ev T = zv2 at r2 hq
          unfold nilEqAV at hq
          split at hq <;> first | (cases hq; done) | skip
          all_goals
            cases r1
            cases r2
            simp
        exact ⟨.bool (if neg then !r else r), w, M, .inl (hex (run_eqGuard_of _ t y y2 _ _ g2 g3) (run_eqOp g1 hsh.1 hsh.2 neg)), .bool _, h, Fr.refl _ _ _ _⟩
    split at hc
    · rename_i z z2 k hz hz2 hu
      cases hc
      simp only [evOp] at he
      cases hb : binAV op (z.ev T) (z2.ev T) with
      | none => simp [hb] at he
      | some r =>
        simp [hb] at he
        obtain ⟨rfl, rfl⟩ := he
        obtain ⟨rv, g1, g2⟩ := run_bin (P := P) (w := w) (t := t) (rv_opd hT hz) (rv_opd hT hz2) hb
        have hi : ∃ k n, a.eval y = .int k n := by
          have r1 := rv_opd hT hz
          unfold binAV at hb
          split at hb
          · rename_i k' n' _ _ e1 _
            rw [e1] at r1
            generalize a.eval y = yv at r1
            cases r1
            exact ⟨_, _, rfl⟩
          · cases hb
        obtain ⟨k', n', hk'⟩ := hi
        exact ⟨rv, w, M, .inl (hex (run_eqGuard_of op t y y2 _ _ (by rw [hk']; simp) (by rw [hk']; simp)) g1), g2, h, Fr.refl _ _ _ _⟩
    · rename_i z z2 hz hz2 hu
      have key : ∃ neg, io = .beq neg z z2 ∧ op = (if neg then .neq else .eql) := by
        split at hc
        · cases hc; exact ⟨false, rfl, rfl⟩
        · cases hc; exact ⟨true, rfl, rfl⟩
        · cases hc
      obtain ⟨neg, rfl, rfl⟩ := key
      simp only [evOp] at he
      split at he
      · rename_i p q e1 e2
        simp at he
        obtain ⟨rfl, rfl⟩ := he
        have r1 := rv_opd hT hz
        have r2 := rv_opd hT hz2
        rw [e1] at r1
        rw [e2] at r2
        generalize hyv : a.eval y = yv at r1
        generalize hyv2 : a.eval y2 = yv2 at r2
        cases r1
        cases r2
        refine ⟨.bool (if neg then !(p == q) else p == q), w, M, .inl (hex (run_eqGuard_of _ t y y2 _ _ (by rw [hyv]; simp) (by rw [hyv]; simp)) (by rw [hyv, hyv2]; exact run_beq hu neg p q)), .bool _, h, Fr.refl _ _ _ _⟩
      · cases he
    · rename_i z z2 fs hz hz2 hu
      exact agg z z2 _ hz hz2 hu rfl hc
    · rename_i z z2 n e hz hz2 hu
      exact agg z z2 _ hz hz2 hu rfl hc
    · rename_i z z2 e hz hz2 hu
      exact nilq 0 z z2 _ hz hz2 hu ⟨fun _ => ⟨e, rfl⟩, by simp, by simp⟩ hc
    · rename_i z z2 e hz hz2 hu
      exact nilq 1 z z2 _ hz hz2 hu ⟨by simp, fun _ => ⟨e, rfl⟩, by simp⟩ hc
    · rename_i z z2 p q r hz hz2 hu
      exact nilq 2 z z2 _ hz hz2 hu ⟨by simp, by simp, fun _ => ⟨p, q, r, rfl⟩⟩ hc
    · cases hc
  | unOp op t y =>
    rw [ho] at hc
    simp [cOp] at hc
    obtain ⟨z, hz, rfl⟩ := hc
    simp only [evOp] at he
    cases hn : unAV op (z.ev T) with
    | none => simp [hn] at he
    | some r =>
      simp [hn] at he
      obtain ⟨rfl, rfl⟩ := he
      obtain ⟨v, g1, g2⟩ := run_un (P := P) (w := w) (rv_opd hT hz) hn
      exact ⟨v, w, M, .inl (by simp [execOp, ho, g1]), g2, h, Fr.refl _ _ _ _⟩
  | convert s t y =>
    rw [ho] at hc
    simp only [cOp] at hc
    split at hc
    · rename_i k' k z hs ht hz
      cases hc
      simp only [evOp] at he
      split at he
      · rename_i k0 n e1
        simp at he
        obtain ⟨rfl, rfl⟩ := he
        have r1 := rv_opd hT hz
        rw [e1] at r1
        generalize hyv : a.eval y = yv at r1
        cases r1
        exact ⟨.int k (k.wrap n), w, M, .inl (by simp [execOp, ho, hyv, run_conv (w := w) (n := n) hs ht k0]), .int _ _, h, Fr.refl _ _ _ _⟩
      · cases he
    · cases hc
  | makeFunc fn first cap =>
    rw [ho] at hc
    cases fn with
    | func f =>
      simp only [cOp] at hc
      split at hc
      · rename_i p q hp hq
        cases hc
        simp [evOp] at he
        obtain ⟨rfl, rfl⟩ := he
        have r1 := opds_list hT hp
        have r2 := opds_list hT hq
        exact ⟨.func (.func f) (first.map a.eval) (cap.map a.eval), w, M, .inl (by simp [execOp, ho, Instr.makeFunc]), .func _ _ _ _ _ r1.len r2.len r1.rel r2.rel, h, Fr.refl _ _ _ _⟩
      · cases hc
    | _ => simp [cOp] at hc
  | makeSlice t l c =>
    rw [ho] at hc
    simp only [cOp] at hc
    split at hc
    · rename_i e hu
      split at hc
      · rename_i s i z l' c' hs hi hz hl hc'
        cases hc
        simp only [evOp] at he
        split at he
        · rename_i ka na kb nb' e1 e2
          split at he
          · rename_i hb
            simp at he
            obtain ⟨rfl, rfl⟩ := he
            have r1 := rv_opd hT hl
            have r2 := rv_opd hT hc'
            rw [e1] at r1
            rw [e2] at r2
            generalize hlv : a.eval l = lv at r1
            generalize hcv : a.eval c = cv at r2
            cases r1
            cases r2
            have := (gives_makeSlice h (nb _ rfl) hu hs hi hz ka kb na nb' hb.1 hb.2.1 hb.2.2.1 hb.2.2.2).op
            simpa [execOp, ho, hlv, hcv] using this
          · cases he
        · cases he
      · cases hc
    · cases hc
  | slice t y lo hi mx =>
    rw [ho] at hc
    simp only [cOp] at hc
    split at hc
    · rename_i e y' lo' hi' mx' hu hy h1 h2 h3
      simp at hc
      obtain ⟨s, hs, rfl⟩ := hc
      simp only [evOp] at he
      cases hn : sliceAV m.heap s (y'.ev T) (lo'.map (·.ev T)) (hi'.map (·.ev T)) (mx'.map (·.ev T)) with
      | none => simp [hn] at he
      | some r =>
        simp [hn] at he
        obtain ⟨rfl, rfl⟩ := he
        have := (gives_slice h hT hu hs h1 h2 h3 (rv_opd hT hy) hn).op
        simpa [execOp, ho] using this
    · rename_i n e y' lo' hi' mx' hu hy h1 h2 h3
      simp at hc
      obtain ⟨s, hs, rfl⟩ := hc
      simp only [evOp] at he
      cases hn : sliceArrAV m.heap n s (y'.ev T) (lo'.map (·.ev T)) (hi'.map (·.ev T)) (mx'.map (·.ev T)) with
      | none => simp [hn] at he
      | some r =>
        simp [hn] at he
        obtain ⟨rfl, rfl⟩ := he
        have := (gives_sliceArr h hT hu hs h1 h2 h3 (rv_opd hT hy) hn).op
        simpa [execOp, ho] using this
    · cases hc
  | fieldAddr t y k =>
    rw [ho] at hc
    simp only [cOp] at hc
    split at hc
    · rename_i fs hu
      cases hf' : fs[k]? with
      | none => simp [hf'] at hc
      | some fl =>
        simp only [hf', Option.bind_some] at hc
        split at hc
        · rename_i s z hs hz
          cases hc
          simp only [evOp] at he
          cases hn : ptrAdd fl.offset (z.ev T) with
          | none => simp [hn] at he
          | some r =>
            simp [hn] at he
            obtain ⟨rfl, rfl⟩ := he
            have := (gives_fieldAddr h hu hf' hs (rv_opd hT hz) hn).op
            simpa [execOp, ho] using this
        · cases hc
    · cases hc
  | field t y k =>
    rw [ho] at hc
    simp only [cOp] at hc
    split at hc
    · rename_i fs hu
      cases hf' : fs[k]? with
      | none => simp [hf'] at hc
      | some fl =>
        simp only [hf', Option.bind_some] at hc
        split at hc
        · rename_i g s z hg hs hz
          cases hc
          simp only [evOp] at he
          split at he
          · rename_i l e1
            cases hn : loadCs g s l fl.offset with
            | none => simp [hn] at he
            | some r =>
              simp [hn] at he
              obtain ⟨rfl, rfl⟩ := he
              have r1 := rv_opd hT hz
              rw [e1] at r1
              have := (gives_field h hu hf' hg hs r1 hn).op
              simpa [execOp, ho] using this
          · cases he
        · cases hc
    · cases hc
  | indexAddr t y k =>
    rw [ho] at hc
    simp only [cOp] at hc
    split at hc
    · rename_i e z z2 hu hz hz2
      simp at hc
      obtain ⟨s, hs, rfl⟩ := hc
      simp only [evOp] at he
      cases hn : indexAddrAV s (z.ev T) (z2.ev T) with
      | none => simp [hn] at he
      | some r =>
        simp [hn] at he
        obtain ⟨rfl, rfl⟩ := he
        have := (gives_indexAddr h hu hs (rv_opd hT hz) (rv_opd hT hz2) hn).op
        simpa [execOp, ho] using this
    · rename_i n e z z2 hu hz hz2
      simp at hc
      obtain ⟨s, hs, rfl⟩ := hc
      simp only [evOp] at he
      cases hj : idx (z2.ev T) n with
      | none => simp [hj] at he
      | some j =>
        simp only [hj, Option.bind_some] at he
        cases hn : ptrAdd (j * s) (z.ev T) with
        | none => simp [hn] at he
        | some r =>
          simp [hn] at he
          obtain ⟨rfl, rfl⟩ := he
          have := (gives_indexAddrArr h hu hs (rv_opd hT hz) (rv_opd hT hz2) hj hn).op
          simpa [execOp, ho] using this
    · cases hc
  | index t y k =>
    rw [ho] at hc
    simp only [cOp] at hc
    split at hc
    · rename_i n e z z2 hu hz hz2
      split at hc
      · rename_i g s hg hs
        cases hc
        simp only [evOp] at he
        split at he
        · rename_i l e1
          cases hj : idx (z2.ev T) n with
          | none => simp [hj] at he
          | some j =>
            simp only [hj, Option.bind_some] at he
            cases hn : loadCs g s l (j * s) with
            | none => simp [hn] at he
            | some r =>
              simp [hn] at he
              obtain ⟨rfl, rfl⟩ := he
              have r1 := rv_opd hT hz
              rw [e1] at r1
              have := (gives_index h hu hg hs r1 (rv_opd hT hz2) hj hn).op
              simpa [execOp, ho] using this
        · cases he
      · cases hc
    · cases hc
  | extract y k =>
    rw [ho] at hc
    simp [cOp] at hc
    obtain ⟨z, hz, rfl⟩ := hc
    simp only [evOp] at he
    split at he
    · rename_i l e1
      cases hn : l[k]? with
      | none => simp [hn] at he
      | some r =>
        simp [hn] at he
        obtain ⟨rfl, rfl⟩ := he
        have r1 := rv_opd hT hz
        rw [e1] at r1
        have := (gives_extract h r1 hn).op
        simpa [execOp, ho] using this
    · cases he
  | call c =>
    rw [ho] at hc
    simp only [cOp] at hc
    split at hc
    · split at hc
      · cases hc; simp [isCall] at hcall
      · cases hc
    · rename_i b hb
      have hrun := run_builtin (P := P) (w := w) (ρ := a.eval) ho hb
      have conv : ∀ {s : Sem Value} {x : AV} {m' : Mem}, Gives P M m m' w s x → builtin b c.argTypes o.type (c.args.map fun | .const _ => true | _ => false) (c.args.map a.eval) = (do pure (.value (← s))) → OpGives P M m m' w (execOp a.eval o) x := by
        intro s x m' hg heq
        obtain ⟨v, w', M', h1, h2, h3, h4⟩ := hg
        refine ⟨v, w', M', .inl ?_, h2, h3, h4⟩
        rw [hrun, heq]
        simp [h1]
      have hargs : c.args.map a.eval = (c.args.toList.map a.eval).toArray := by rw [← Array.toList_map, Array.toArray_toList]
      have htys : c.argTypes = c.argTypes.toList.toArray := by rw [Array.toArray_toList]
      rw [hargs, htys] at conv
      generalize c.args.toList = args at hc conv
      generalize c.argTypes.toList = tys at hc conv
      unfold cBuiltin at hc
      split at hc
      · rename_i t y
        split at hc
        · rename_i e hu
          simp at hc
          obtain ⟨z, hz, rfl⟩ := hc
          simp only [evOp] at he
          cases hn : slen (z.ev T) with
          | none => simp [hn] at he
          | some n =>
            simp [hn] at he
            obtain ⟨rfl, rfl⟩ := he
            exact conv (gives_len (ty := o.type) h hu (rv_opd hT hz) hn) rfl
        · rename_i n e hu
          cases hc
          simp [evOp] at he
          obtain ⟨rfl, rfl⟩ := he
          exact conv (gives_lenC (ty := o.type) h hu (a.eval y)) rfl
        · cases hc
      · rename_i t y
        split at hc
        · rename_i e hu
          simp at hc
          obtain ⟨z, hz, rfl⟩ := hc
          simp only [evOp] at he
          cases hn : capAV (z.ev T) with
          | none => simp [hn] at he
          | some n =>
            simp [hn] at he
            obtain ⟨rfl, rfl⟩ := he
            exact conv (gives_cap (ty := o.type) h hu (rv_opd hT hz) hn) rfl
        · cases hc
      · simp at hc
        obtain ⟨ys, hys, rfl⟩ := hc
        simp only [evOp] at he
        cases hn : minmaxAV false (ys.map (·.ev T)) with
        | none => simp [hn] at he
        | some r =>
          simp [hn] at he
          obtain ⟨rfl, rfl⟩ := he
          exact conv (gives_minmax h false (rv_opds hT hys) hn tys.toArray o.type) rfl
      · simp at hc
        obtain ⟨ys, hys, rfl⟩ := hc
        simp only [evOp] at he
        cases hn : minmaxAV true (ys.map (·.ev T)) with
        | none => simp [hn] at he
        | some r =>
          simp [hn] at he
          obtain ⟨rfl, rfl⟩ := he
          exact conv (gives_minmax h true (rv_opds hT hys) hn tys.toArray o.type) rfl
      · rename_i t u y y2
        split at hc
        · rename_i e hu
          split at hc
          · rename_i sz i zz z z2 hs hi hzz hz hz2
            split at hc
            · rename_i etu
              subst etu
              cases hc
              simp only [evOp] at he
              exact conv (gives_append (ty := o.type) h hf hu hs hi hzz (rv_opd hT hz) (rv_opd hT hz2) he) rfl
            · cases hc
          · cases hc
        · cases hc
      · rename_i t u y y2
        split at hc
        · rename_i e e2 hu hu2
          split at hc
          · rename_i sz z z2 hs hz hz2
            cases hc
            simp only [evOp] at he
            exact conv (gives_copy (ty := o.type) (t' := u) h hu hs (rv_opd hT hz) (rv_opd hT hz2) he) rfl
          · cases hc
        · cases hc
      · rename_i t y
        split at hc
        · rename_i e hu
          split at hc
          · rename_i sz zz z hs hzz hz
            cases hc
            simp only [evOp] at he
            cases hn : clearAV zz m (z.ev T) with
            | none => simp [hn] at he
            | some m2 =>
              simp [hn] at he
              obtain ⟨rfl, rfl⟩ := he
              exact conv (gives_clear (ty := o.type) h hu hzz (rv_opd hT hz) hn) rfl
          · cases hc
        · cases hc
      · cases hc
    · cases hc
  | _ => rw [ho] at hc; simp [cOp] at hc
end
end Go.Zz
