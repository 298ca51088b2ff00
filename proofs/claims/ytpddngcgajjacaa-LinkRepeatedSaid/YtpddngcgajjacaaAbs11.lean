/-
  Code: what it does in the model, out of what it does in the small code. Part 1: notions, calls, plain regions.
-/
import Derived.Test.YtpddngcgajjacaaAbs10
import Derived.RangeFuncRecord
namespace Go.Zz

/-- No fence: every function, every depth; in a round of a loop, or in none. -/
def fen (ro : Option Nat) : Fence := { Fence.wide with round := ro }

theorem fen_fn (ro : Option Nat) (f : FuncId) : (fen ro).fn f := trivial
theorem fen_depth (ro : Option Nat) : (fen ro).depth = none := rfl
theorem callsIn_fen {ro : Option Nat} {n : Nat} {P : Program} {f : FuncId} {args : Array Value} {w : World} {R : Ending → World → Prop} (h : CallsIn (fen none) n P f args w R) : CallsIn (fen ro) n P f args w R := h

/-- The marks that loops over functions have left among the deferred calls. -/
def Dfs (w : World) (ds : List Deferred) (w' : World) (ds' : List Deferred) : Prop :=
  ∃ rs : List Nat, ds' = rs.map (fun r => { target := .collected r, args := #[] }) ++ ds ∧ rs.Nodup ∧ ∀ r ∈ rs, w.heap.size ≤ r ∧ w'.heap[r]? = some (.deferred (some []))

theorem Dfs.refl (w : World) (ds : List Deferred) : Dfs w ds w ds := ⟨[], rfl, List.nodup_nil, by simp⟩

theorem Dfs.of_same {w w' : World} {ds ds' : List Deferred} (h : ds' = ds) : Dfs w ds w' ds' := ⟨[], by simp [h], List.nodup_nil, by simp⟩

/-- A block that is no cells and no record stays what it is. -/
theorem stays {P : Program} {M M' : Mp} {H H' : Hp} {L L' : List (Option ALoop)} {w w' : World} (h : Holds P M H L w) (k : Fr M H L w M' H' L' w') {r : Nat} {d : Option (List Deferred)} (hr : w.heap[r]? = some (.deferred d)) :
    w'.heap[r]? = some (.deferred d) := by
  rw [k.keep r (Array.getElem?_eq_some_iff.1 hr).1 ?_ ?_]
  · exact hr
  · rintro id bl lc hb hl rfl
    obtain ⟨lc0, hB⟩ := h.blk id bl hb
    have e0 : lc0 = lc := by have := hB.loc; rw [hl] at this; exact (Option.some.inj this).symm
    subst e0
    have := hB.obj
    simp [World.shape?, hr] at this
  · intro i q hq hl
    obtain ⟨l, h1, h2⟩ := h.lp i q hq
    rw [hl] at h1
    cases h1
    obtain ⟨q', g1, _⟩ := h2.obj
    rw [hr] at g1
    cases g1

theorem Dfs.trans {P : Program} {M1 M2 : Mp} {H1 H2 : Hp} {L1 L2 : List (Option ALoop)} {w w1 w2 : World} {ds ds1 ds2 : List Deferred} (h : Dfs w ds w1 ds1) (hs : w.heap.size ≤ w1.heap.size)
    (hH : Holds P M1 H1 L1 w1) (k : Fr M1 H1 L1 w1 M2 H2 L2 w2) (h2 : Dfs w1 ds1 w2 ds2) : Dfs w ds w2 ds2 := by
  obtain ⟨rs, e1, n1, a1⟩ := h
  obtain ⟨rs2, e2, n2, a2⟩ := h2
  refine ⟨rs2 ++ rs, by rw [e2, e1]; simp, ?_, ?_⟩
  · rw [List.nodup_append]
    refine ⟨n2, n1, ?_⟩
    rintro a ha b hb rfl
    have x1 := (a2 a ha).1
    have x2 := (Array.getElem?_eq_some_iff.1 (a1 a hb).2).1
    omega
  · intro r hr
    rcases List.mem_append.1 hr with hr | hr
    · exact ⟨Nat.le_trans hs (a2 r hr).1, (a2 r hr).2⟩
    · exact ⟨(a1 r hr).1, stays hH k (a1 r hr).2⟩

def exitOf : Ex → Exit
  | .normal => .normal
  | .exit id => .exit id
  | .ret => .ret

/-- What holds behind a piece of code. -/
structure Post (P : Program) (M : Mp) (s : St) (w : World) (ds : List Deferred) (s' : St) (M' : Mp) (a' : Act) (w' : World) : Prop where
  rt : RT M' s'.T a'
  holds : Holds P M' s'.heap s'.loops w'
  fr : Fr M s.heap s.loops w M' s'.heap s'.loops w'
  dfs : Dfs w ds w' a'.defers

theorem Post.trans {P : Program} {M M1 M2 : Mp} {s s1 s2 : St} {w w1 w2 : World} {ds : List Deferred} {a1 a2 : Act} (h : Post P M s w ds s1 M1 a1 w1) (k : Post P M1 s1 w1 a1.defers s2 M2 a2 w2) : Post P M s w ds s2 M2 a2 w2 :=
  ⟨k.rt, k.holds, h.fr.trans k.fr, h.dfs.trans h.fr.size h.holds k.fr k.dfs⟩

/-- In a round its record lies. -/
def InRound (ro : Option Nat) (w : World) : Prop := ∀ l, ro = some l → ∃ q, w.heap[l]? = some (.loop q)

theorem InRound.fr {ro : Option Nat} {M M' : Mp} {H H' : Hp} {L L' : List (Option ALoop)} {w w' : World} (h : InRound ro w) (k : Fr M H L w M' H' L' w') : InRound ro w' := fun l hl => by
  obtain ⟨q, hq⟩ := h l hl
  exact k.lstay l q hq

/-! ### Calls -/

/-- What is asked of a function's number: it stands for a Go text. -/
def Callable (P : Program) (g : Nat) : Prop := ∃ fn, P.funcs[g]? = some fn ∧ fn.name ≠ "runtime.NumGoroutine" ∧ fn.body.isSome = true

theorem run_callFunc {P : Program} {g : Nat} (h : Callable P g) (args : Array Value) (w : World) : (callFunc g args).run P w = .ok (.enter g args) w := by
  obtain ⟨fn, h1, h2, h3⟩ := h
  obtain ⟨c, hc⟩ := Option.isSome_iff_exists.1 h3
  simp [callFunc, h1, h2, hc]

/-- How a call ends: it returns a value. -/
def Ret (R : Value → World → Prop) : Ending → World → Prop := fun e w' => ∃ v, e = .returned v ∧ R v w'

/-- A function value, called. -/
inductive Answers (P : Program) (n : Nat) (args : Array Value) (w : World) (R : Value → World → Prop) : Value → Prop
  | func (g : Nat) (first cap : Array Value) (hc : Callable P g) (h : CallsIn (fen none) n P g (first ++ args ++ cap) w (Ret R)) : Answers P n args w R (.func (.func g) first cap)
  | yield (l : Nat) (q : Loop) (hq : w.heap[l]? = some (.loop q)) (hs : args.size = q.params.size)
      (h : RoundIn (fen none) n P l q.fn ((q.params.zip args).foldl (fun tmps (t, a) => tmps.setIfInBounds t a) q.tmps) q.assign q.body w (Ret R)) : Answers P n args w R (.func (.yield l) #[] #[])

theorem Answers.mono {P : Program} {n : Nat} {args : Array Value} {w : World} {R R' : Value → World → Prop} {v : Value} (h : Answers P n args w R v) (hr : ∀ v w', R v w' → R' v w') : Answers P n args w R' v := by
  cases h with
  | func g first cap hc h => exact .func g first cap hc (h.mono fun e w' ⟨v, he, hv⟩ => ⟨v, he, hr v w' hv⟩)
  | yield l q hq hs h => exact .yield l q hq hs (h.mono fun e w' ⟨v, he, hv⟩ => ⟨v, he, hr v w' hv⟩)

/-- A call of a function value as an operation. -/
theorem wpIn_call {P : Program} {ro : Option Nat} {n : Nat} {o : Oper} {c : Call} {f : Operand} (ho : o.op = .call c) (hf : c.callee = .value f) {a : Act} {w : World} {K : Act → World → Prop} {Q : Exit → Act → World → Prop}
    (h : Answers P (n - 1) (c.args.map a.eval) w (fun v w' => K (a.put o.dst v) w') (a.eval f)) : o.wpIn (fen ro) n P a w K Q := by
  refine ⟨fun _ _ => trivial, ?_⟩
  rw [show (fen ro).round = ro from rfl, Oper.semAt_eq ro a.eval o (by rw [ho]; intro c h; cases h)]
  generalize hv : a.eval f = v at h
  cases h with
  | func g first cap hc h =>
    have hrun : (execOp a.eval o).run P w = .ok (.enter g (first ++ c.args.map a.eval ++ cap)) w := by
      simp only [execOp, ho, resolve, hf, hv, Deferred.ofValue, Sem.run_bind, Sem.run_pure, Result.andThen_ok, invoke, run_callFunc hc]
    rw [hrun]
    refine ⟨fun h => by simp [fen_depth] at h, callsIn_fen (h.mono ?_)⟩
    rintro e w' ⟨u, rfl, hu⟩
    exact hu
  | yield l q hq hs h =>
    have hrun : (execOp a.eval o).run P w = .ok (.round l q.fn ((q.params.zip (c.args.map a.eval)).foldl (fun tmps (t, a) => tmps.setIfInBounds t a) q.tmps) q.assign q.body) w := by
      simp only [execOp, ho, resolve, hf, hv, Deferred.ofValue, Sem.run_bind, Sem.run_pure, Result.andThen_ok, invoke]
      have e1 : #[] ++ c.args.map a.eval = c.args.map a.eval := by simp
      rw [e1, run_yield hq hs]
    rw [hrun]
    refine ⟨fun h => by simp [fen_depth] at h, ?_⟩
    have h' : RoundIn (fen ro) (n - 1) P l q.fn ((q.params.zip (c.args.map a.eval)).foldl (fun tmps (t, a) => tmps.setIfInBounds t a) q.tmps) q.assign q.body w (Ret fun v w' => K (a.put o.dst v) w') := h
    refine h'.mono ?_
    rintro e w' ⟨u, rfl, hu⟩
    exact hu

/-- An operation that gives a value at once. -/
theorem wpIn_gives {P : Program} {ro : Option Nat} {n : Nat} {o : Oper} {a : Act} {w : World} {K : Act → World → Prop} {Q : Exit → Act → World → Prop} (hd : ∀ c, o.op ≠ .defer c) {v : Value} {w' : World}
    (hr : (execOp a.eval o).run P w = .ok (.value v) w' ∨ ((execOp a.eval o).run P w = .ok .skip w' ∧ v = undef)) (hK : K (a.put o.dst v) w') : o.wpIn (fen ro) n P a w K Q := by
  refine ⟨fun _ _ => trivial, ?_⟩
  rw [show (fen ro).round = ro from rfl, Oper.semAt_eq ro a.eval o hd]
  rcases hr with h | ⟨h, rfl⟩ <;> rw [h] <;> exact hK

/-- What is asked of the answers of 'call': what the model's functions do. -/
def CallOk (P : Program) (call : AV → List AV → Mem → Option (AV × Mem)) : Prop :=
  ∀ f args m v m', call f args m = some (v, m') → ∀ N M w fv cargs, RV M f fv → RVs M args cargs → Holds P M m.heap m.loops w → Fresh M m.heap m.loops →
    Answers P N cargs w (fun cv w' => ∃ M', RV M' v cv ∧ Holds P M' m'.heap m'.loops w' ∧ Fr M m.heap m.loops w M' m'.heap m'.loops w') fv

theorem cOp_call {P : Program} {o : Oper} {f : Opd} {args : List Opd} (h : cOp P o.op = some (.call f args)) : ∃ c g, o.op = .call c ∧ c.callee = .value g ∧ cOpd g = some f ∧ cOpds c.args.toList = some args := by
  cases ho : o.op <;> rw [ho] at h
  case call c =>
    simp only [cOp] at h
    split at h
    · rename_i g hg
      split at h
      · rename_i f' a' h1 h2
        cases h
        exact ⟨c, g, rfl, hg, h1, h2⟩
      · cases h
    · exfalso
      unfold cBuiltin at h
      repeat' split at h
      all_goals first | (cases h; done) | (simp at h; done)
    · cases h
  case makeFunc fn first cap =>
    cases fn <;> simp only [cOp] at h
    · split at h
      · cases h
      · cases h
    all_goals cases h
  case build t parts =>
    exfalso
    simp only [cOp] at h
    repeat' split at h
    all_goals first | (cases h; done) | (simp at h; done) | skip
    rw [Option.bind_eq_some_iff] at h
    obtain ⟨_, _, h⟩ := h
    cases h
  case fieldAddr t x k =>
    exfalso
    simp only [cOp] at h
    split at h
    · rw [Option.bind_eq_some_iff] at h
      obtain ⟨_, _, h⟩ := h
      split at h <;> cases h
    · cases h
  case field t x k =>
    exfalso
    simp only [cOp] at h
    split at h
    · rw [Option.bind_eq_some_iff] at h
      obtain ⟨_, _, h⟩ := h
      split at h <;> cases h
    · cases h
  all_goals
    exfalso
    first
    | (simp [cOp] at h; done)
    | (simp only [cOp] at h
       repeat' split at h
       all_goals first | (cases h; done) | (simp at h; done))

theorem cOp_defer {P : Program} {o : Oper} {io : IOp} (h : cOp P o.op = some io) : ∀ c, o.op ≠ .defer c := by
  intro c e
  rw [e] at h
  simp [cOp] at h

/-- **ONE OPERATION, WHATEVER IT IS.** -/
theorem oper_gives {P : Program} {call : AV → List AV → Mem → Option (AV × Mem)} (hcall : CallOk P call) {ro : Option Nat} {n : Nat} {M : Mp} {T : List AV} {m : Mem} {w : World} (h : Holds P M m.heap m.loops w) (hf : Fresh M m.heap m.loops) {a : Act} (hT : RT M T a)
    {o : Oper} {io : IOp} (hc : cOp P o.op = some io) {x : AV} {m' : Mem} (he : evOp call T m io = some (x, m')) {K : Act → World → Prop} {Q : Exit → Act → World → Prop}
    (fin : ∀ M' v w', RV M' x v → Holds P M' m'.heap m'.loops w' → Fr M m.heap m.loops w M' m'.heap m'.loops w' → K (a.put o.dst v) w') : o.wpIn (fen ro) n P a w K Q := by
  cases hic : isCall io with
  | false =>
    obtain ⟨v, w', M', h1, h2, h3, h4⟩ := op_sound h (fun _ g => hf.loc _ g (Nat.le_refl _)) hT hc hic he
    exact wpIn_gives (cOp_defer hc) h1 (fin M' v w' h2 h3 h4)
  | true =>
    cases io <;> simp [isCall] at hic
    rename_i f args
    obtain ⟨c, g, ho, hg, h1, h2⟩ := cOp_call hc
    simp only [evOp] at he
    refine wpIn_call ho hg ((hcall _ _ _ _ _ he (n - 1) M w (a.eval g) (c.args.map a.eval) (rv_opd hT h1) (opds_list hT h2) h hf).mono ?_)
    rintro v w' ⟨M', g1, g2, g3⟩
    exact fin M' v w' g1 g2 g3

theorem oper_sound {P : Program} {call : AV → List AV → Mem → Option (AV × Mem)} (hcall : CallOk P call) {ro : Option Nat} {n : Nat} {M : Mp} {s : St} {w : World} (h : Holds P M s.heap s.loops w) (hf : Fresh M s.heap s.loops) {a : Act} (hT : RT M s.T a)
    {o : Oper} {io : IOp} (hc : cOp P o.op = some io) {x : AV} {m' : Mem} (he : evOp call s.T s.mem io = some (x, m')) {K : Act → World → Prop} {Q : Exit → Act → World → Prop}
    (hK : ∀ M' v w', Post P M s w a.defers (s.put o.dst x m') M' (a.put o.dst v) w' → K (a.put o.dst v) w') : o.wpIn (fen ro) n P a w K Q :=
  oper_gives hcall (m := s.mem) h hf hT hc he fun M' v w' h1 h2 h3 => hK M' v w' ⟨RT.put (hT.mono h3.le) h1, h2, h3, .of_same (by cases o.dst <;> rfl)⟩

theorem wanted_sound {M : Mp} {T : List AV} {a : Act} (hT : RT M T a) {ops : Array Oper} {o : Oper} {g : Option (Nat × Bool)} (hg : cGuard ops o.guard = some g) :
    Region.wanted o (yielded ops a.tmps) = wantedI T g := by
  unfold Region.wanted
  cases hgu : o.guard with
  | none => rw [hgu] at hg; simp [cGuard] at hg; subst hg; rfl
  | some jw =>
    obtain ⟨j, want⟩ := jw
    rw [hgu] at hg
    simp only [cGuard] at hg
    split at hg
    · rename_i t ht
      cases hg
      simp only [wantedI, yielded, ht, Option.bind_some]
      have hr := hT.rel t
      by_cases hlt : t < a.tmps.size
      · rw [ag_of_lt hlt] at hr
        rw [Array.getElem?_eq_getElem hlt]
        generalize a.tmps[t] = v at hr
        generalize gt T t = x at hr
        cases hr <;> simp
      · have hge : a.tmps.size ≤ t := Nat.le_of_not_lt hlt
        rw [gt_of_ge (by rw [hT.len]; exact hge), Array.getElem?_eq_none hge]
        simp
    · cases hg

theorem cOpers_get {P : Program} {ops : Array Oper} : ∀ {l : List Oper} {r : List IOper}, cOpers P ops l = some r → r.length = l.length ∧ ∀ (i : Nat) (o : Oper), l[i]? = some o → ∃ io, r[i]? = some io ∧ cOper P ops o = some io
  | [], r, h => by cases h; simp
  | x :: l, r, h => by
    unfold cOpers at h
    split at h
    · rename_i y r' h1 h2
      cases h
      obtain ⟨g1, g2⟩ := cOpers_get h2
      refine ⟨by simp [g1], fun i o hi => ?_⟩
      cases i with
      | zero => simp at hi; subst hi; exact ⟨y, rfl, h1⟩
      | succ i => simpa using g2 i o (by simpa using hi)
    · cases h

theorem cOper_eq {P : Program} {ops : Array Oper} {o : Oper} {io : IOper} (h : cOper P ops o = some io) : cOp P o.op = some io.op ∧ cGuard ops o.guard = some io.guard ∧ io.dst = o.dst := by
  unfold cOper at h
  split at h
  · cases h; exact ⟨by assumption, by assumption, rfl⟩
  · cases h

/-- **OPERATIONS IN THEIR ORDER.** -/
theorem opers_sound {P : Program} {call : AV → List AV → Mem → Option (AV × Mem)} (hcall : CallOk P call) {ro : Option Nat} {n : Nat} {ops : Array Oper} {Q : Exit → Act → World → Prop} :
    ∀ (idx : List Nat) (l : List IOper), l.length = idx.length → (∀ (j i : Nat), idx[j]? = some i → ∃ o io, ops[i]? = some o ∧ l[j]? = some io ∧ cOper P ops o = some io) →
    ∀ (M : Mp) (s s' : St) (a : Act) (w : World), evOps call l s = some s' → Holds P M s.heap s.loops w → Fresh M s.heap s.loops → RT M s.T a →
    (∀ M' a' w', Post P M s w a.defers s' M' a' w' → Q .normal a' w') → wpOpsIn (fen ro) n P ops Q idx a w
  | [], l, hl, _ => by
    intro M s s' a w he h hf hT hQ
    have : l = [] := List.eq_nil_of_length_eq_zero (by simpa using hl)
    subst this
    simp [evOps] at he
    subst he
    exact hQ M a w ⟨hT, h, Fr.refl _ _ _ _, .refl _ _⟩
  | i :: idx, l, hl, hget => by
    intro M s s' a w he h hf hT hQ
    obtain ⟨o, io, ho, hio, hco⟩ := hget 0 i rfl
    cases l with
    | nil => simp at hl
    | cons io' l =>
      simp at hio
      subst hio
      obtain ⟨c1, c2, c3⟩ := cOper_eq hco
      have hl' : l.length = idx.length := by simpa using hl
      have hget' : ∀ (j i : Nat), idx[j]? = some i → ∃ o io, ops[i]? = some o ∧ l[j]? = some io ∧ cOper P ops o = some io := fun j i hj => by
        simpa using hget (j + 1) i (by simpa using hj)
      simp only [wpOpsIn, ho]
      rw [wanted_sound hT c2]
      simp only [evOps] at he
      split
      · rename_i hw
        rw [if_pos hw] at he
        split at he
        · rename_i v m' hev
          refine oper_sound hcall h hf hT c1 hev (fun M' cv w' hp => ?_)
          rw [← c3] at hp ⊢
          rw [c3] at hp ⊢
          have hp' : Post P M s w a.defers (s.put io'.dst v m') M' (a.put o.dst cv) w' := by rw [c3]; exact hp
          exact opers_sound hcall idx l hl' hget' M' _ s' _ w' he hp'.holds (hf.fr hp'.fr) hp'.rt (fun M'' a'' w'' hp2 => hQ M'' a'' w'' (hp'.trans hp2))
        · cases he
      · rename_i hw
        rw [if_neg hw] at he
        refine ⟨fun _ _ => trivial, ?_⟩
        have hp' : Post P M s w a.defers (s.put io'.dst und s.mem) M (a.put o.dst undef) w := by
          rw [c3]
          exact ⟨RT.put hT .tup0, h, Fr.refl _ _ _ _, .of_same (by cases o.dst <;> rfl)⟩
        exact opers_sound hcall idx l hl' hget' M _ s' _ w he hp'.holds hf hp'.rt (fun M'' a'' w'' hp2 => hQ M'' a'' w'' (hp'.trans hp2))

end Go.Zz
