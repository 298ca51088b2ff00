import Derived.Test.YtgchabldcnmccacGreatDoorAbsM
import Derived.RangeFuncRecord
import Derived.RangeFuncNested

set_option linter.unusedSimpArgs false
set_option linter.unusedVariables false

namespace Go.Zz
def fen (ro : Option Nat) : Fence := { Fence.wide with round := ro }
theorem fen_depth (ro : Option Nat) : (fen ro).depth = none := rfl
theorem callsIn_fen {ro : Option Nat} {n : Nat} {P : Program} {f : FuncId} {args : Array Value} {w : World} {R : Ending → World → Prop} (h : CallsIn (fen none) n P f args w R) : CallsIn (fen ro) n P f args w R := h
def Dfs (w : World) (ds : List Deferred) (w' : World) (ds' : List Deferred) : Prop :=
 ∃ rs : List Nat, ds' = rs.map (fun r => { target := .collected r, args := #[] }) ++ ds ∧ rs.Nodup ∧ ∀ r ∈ rs, w.heap.size ≤ r ∧ w'.heap[r]? = some (.deferred (some []))
theorem Dfs.refl (w : World) (ds : List Deferred) : Dfs w ds w ds := ⟨[], rfl, List.nodup_nil, by simp⟩
theorem Dfs.of_same [Globs] {w w' : World} {ds ds' : List Deferred} (h : ds' = ds) : Dfs w ds w' ds' := ⟨[], by simp [h], List.nodup_nil, by simp⟩
theorem stays [Globs] {P : Program} {M M' : Mp} {H H' : Hp} {L L' : List (Option ALoop)} {w w' : World} (h : Holds P M H L w) (k : Fr M H L w M' H' L' w') {r : Nat} {d : Option (List Deferred)} (hr : w.heap[r]? = some (.deferred d)) :
  w'.heap[r]? = some (.deferred d) := by
 rw [k.keep r (Array.getElem?_eq_some_iff.1 hr).1 ?_ ?_]
 ·exact hr
 ·rintro id bl lc hb hl rfl
  obtain ⟨lc0, hB⟩ := h.blk id bl hb
  have e0 : lc0 = lc := by have := hB.loc; rw [hl] at this; exact (Option.some.inj this).symm
  subst e0
  have := hB.obj
  simp [World.shape?, hr] at this
 ·intro i q hq hl
  obtain ⟨l, h1, h2⟩ := h.lp i q hq
  rw [hl] at h1
  cases h1
  rcases h2.is with ⟨q', g1⟩ | ⟨es, c, g1⟩ <;> (rw [hr] at g1; cases g1)
theorem Dfs.trans [Globs] {P : Program} {M1 M2 : Mp} {H1 H2 : Hp} {L1 L2 : List (Option ALoop)} {w w1 w2 : World} {ds ds1 ds2 : List Deferred} (h : Dfs w ds w1 ds1) (hs : w.heap.size ≤ w1.heap.size)
  (hH : Holds P M1 H1 L1 w1) (k : Fr M1 H1 L1 w1 M2 H2 L2 w2) (h2 : Dfs w1 ds1 w2 ds2) : Dfs w ds w2 ds2 := by
 obtain ⟨rs, e1, n1, a1⟩ := h
 obtain ⟨rs2, e2, n2, a2⟩ := h2
 refine ⟨rs2 ++ rs, by rw [e2, e1]; simp, ?_, ?_⟩
 ·rw [List.nodup_append]
  refine ⟨n2, n1, ?_⟩
  rintro a ha b hb rfl
  have x1 := (a2 a ha).1
  have x2 := (Array.getElem?_eq_some_iff.1 (a1 a hb).2).1
  omega
 ·intro r hr
  rcases List.mem_append.1 hr with hr | hr
  ·exact ⟨Nat.le_trans hs (a2 r hr).1, (a2 r hr).2⟩
  ·exact ⟨(a1 r hr).1, stays hH k (a1 r hr).2⟩
def exitOf : Ex → Exit
 | .normal => .normal
 | .exit id => .exit id
 | .ret => .ret
structure Post [Globs] (P : Program) (M : Mp) (s : St) (w : World) (ds : List Deferred) (s' : St) (M' : Mp) (a' : Act) (w' : World) : Prop where
 rt : RT M' s'.T a'
 holds : Holds P M' s'.heap s'.loops w'
 fr : Fr M s.heap s.loops w M' s'.heap s'.loops w'
 dfs : Dfs w ds w' a'.defers
theorem Post.trans [Globs] {P : Program} {M M1 M2 : Mp} {s s1 s2 : St} {w w1 w2 : World} {ds : List Deferred} {a1 a2 : Act} (h : Post P M s w ds s1 M1 a1 w1) (k : Post P M1 s1 w1 a1.defers s2 M2 a2 w2) : Post P M s w ds s2 M2 a2 w2 :=
 ⟨k.rt, k.holds, h.fr.trans k.fr, h.dfs.trans h.fr.size h.holds k.fr k.dfs⟩
def InRound (ro : Option Nat) (w : World) : Prop := ∀ l, ro = some l → ∃ q, w.heap[l]? = some (.loop q)
theorem InRound.fr [Globs] {ro : Option Nat} {M M' : Mp} {H H' : Hp} {L L' : List (Option ALoop)} {w w' : World} (h : InRound ro w) (k : Fr M H L w M' H' L' w') : InRound ro w' := fun l hl => by
 obtain ⟨q, hq⟩ := h l hl
 exact k.lstay l q hq
def Callable (P : Program) (g : Nat) : Prop := ∃ fn, P.funcs[g]? = some fn ∧ fn.name ≠ "runtime.NumGoroutine" ∧ fn.body.isSome = true
theorem run_callFunc {P : Program} {g : Nat} (h : Callable P g) (args : Array Value) (w : World) : (callFunc g args).run P w = .ok (.enter g args) w := by
 obtain ⟨fn, h1, h2, h3⟩ := h
 obtain ⟨c, hc⟩ := Option.isSome_iff_exists.1 h3
 simp [callFunc, h1, h2, hc]
def Ret (R : Value → World → Prop) : Ending → World → Prop := fun e w' => ∃ v, e = .returned v ∧ R v w'
inductive Answers (P : Program) (n : Nat) (args : Array Value) (w : World) (R : Value → World → Prop) : Value → Prop
 | func (g : Nat) (first cap : Array Value) (hc : Callable P g) (h : CallsIn (fen none) n P g (first ++ args ++ cap) w (Ret R)) : Answers P n args w R (.func (.func g) first cap)
 | yield (l : Nat) (q : Loop) (hq : w.heap[l]? = some (.loop q)) (hs : args.size = q.params.size)
   (h : RoundIn (fen none) n P l q.fn ((q.params.zip args).foldl (fun tmps (t, a) => tmps.setIfInBounds t a) q.tmps) q.assign q.body w (Ret R)) : Answers P n args w R (.func (.yield l) #[] #[])
theorem Answers.mono {P : Program} {n : Nat} {args : Array Value} {w : World} {R R' : Value → World → Prop} {v : Value} (h : Answers P n args w R v) (hr : ∀ v w', R v w' → R' v w') : Answers P n args w R' v := by
 cases h with
 | func g first cap hc h => exact .func g first cap hc (h.mono fun e w' ⟨v, he, hv⟩ => ⟨v, he, hr v w' hv⟩)
 | yield l q hq hs h => exact .yield l q hq hs (h.mono fun e w' ⟨v, he, hv⟩ => ⟨v, he, hr v w' hv⟩)
theorem wpIn_call {P : Program} {ro : Option Nat} {n : Nat} {o : Oper} {c : Call} {f : Operand} (ho : o.op = .call c) (hf : c.callee = .value f) {a : Act} {w : World} {K : Act → World → Prop} {Q : Exit → Act → World → Prop}
  (h : Answers P (n - 1) (c.args.map a.eval) w (fun v w' => K (a.put o.dst v) w') (a.eval f)) : o.wpIn (fen ro) n P a w K Q := by
 refine ⟨fun _ _ => trivial, ?_⟩
 rw [show (fen ro).round = ro from rfl, Oper.semAt_eq ro a.eval o (by rw [ho]; intro c h; cases h)]
 generalize hv : a.eval f = v at h
 cases h with
 | func g first cap hc h =>
  have hrun : (execOp a.eval o).run P w = .ok (.enter g (first ++ c.args.map a.eval ++ cap)) w := by
   simp only [execOp, ho, resolve, hf, hv, Deferred.ofValue, Sem.run_bind, Sem.run_pure, Result.andThen_ok, invoke, run_callFunc hc]
  rw [hrun]
  refine ⟨fun h => by simp [fen_depth] at h, callsIn_fen (h.mono ?_)⟩
  rintro e w' ⟨u, rfl, hu⟩
  exact hu
 | yield l q hq hs h =>
  have hrun : (execOp a.eval o).run P w = .ok (.round l q.fn ((q.params.zip (c.args.map a.eval)).foldl (fun tmps (t, a) => tmps.setIfInBounds t a) q.tmps) q.assign q.body) w := by
   simp only [execOp, ho, resolve, hf, hv, Deferred.ofValue, Sem.run_bind, Sem.run_pure, Result.andThen_ok, invoke]
   have e1 : #[] ++ c.args.map a.eval = c.args.map a.eval := by simp
   rw [e1, run_yield hq hs]
  rw [hrun]
  refine ⟨fun h => by simp [fen_depth] at h, ?_⟩
  have h' : RoundIn (fen ro) (n - 1) P l q.fn ((q.params.zip (c.args.map a.eval)).foldl (fun tmps (t, a) => tmps.setIfInBounds t a) q.tmps) q.assign q.body w (Ret fun v w' => K (a.put o.dst v) w') := h
  refine h'.mono ?_
  rintro e w' ⟨u, rfl, hu⟩
  exact hu
theorem wpIn_gives {P : Program} {ro : Option Nat} {n : Nat} {o : Oper} {a : Act} {w : World} {K : Act → World → Prop} {Q : Exit → Act → World → Prop} (hd : ∀ c, o.op ≠ .defer c) {v : Value} {w' : World}
  (hr : (execOp a.eval o).run P w = .ok (.value v) w' ∨ ((execOp a.eval o).run P w = .ok .skip w' ∧ v = undef)) (hK : K (a.put o.dst v) w') : o.wpIn (fen ro) n P a w K Q := by
 refine ⟨fun _ _ => trivial, ?_⟩
 rw [show (fen ro).round = ro from rfl, Oper.semAt_eq ro a.eval o hd]
 rcases hr with h | ⟨h, rfl⟩ <;> rw [h] <;> exact hK
def CallOk [Globs] (P : Program) (call : AV → List AV → Mem → Option (AV × Mem)) : Prop :=
 ∀ f args m v m', call f args m = some (v, m') → ∀ N M w fv cargs, RV M f fv → RVs M args cargs → Holds P M m.heap m.loops w → Fresh M m.heap m.loops →
  Answers P N cargs w (fun cv w' => ∃ M', RV M' v cv ∧ Holds P M' m'.heap m'.loops w' ∧ Fr M m.heap m.loops w M' m'.heap m'.loops w') fv
theorem cOp_call [Globs] {P : Program} {o : Oper} {f : Opd} {args : List Opd} (h : cOp P o.op = some (.call f args)) : ∃ c g, o.op = .call c ∧ c.callee = .value g ∧ cOpd g = some f ∧ cOpds c.args.toList = some args := by
  cases ho : o.op <;> rw [ho] at h
  case call c =>
    simp only [cOp] at h
    split at h
    · rename_i g hg
      split at h
      · rename_i f' a' h1 h2
        cases h
        exact ⟨c, g, rfl, hg, h1, h2⟩
      · cases h
    · exfalso
      unfold cBuiltin at h
      repeat' split at h
      all_goals first | (cases h; done) | (simp at h; done)
    · cases h
  case makeMap t r =>
    exfalso
    cases r with
    | some r => simp [cOp] at h
    | none =>
      simp only [cOp] at h
      split at h <;> cases h
  case makeFunc fn first cap =>
    cases fn <;> simp only [cOp] at h
    · split at h
      · cases h
      · cases h
    all_goals cases h
  case build t parts =>
    exfalso
    simp only [cOp] at h
    repeat' split at h
    all_goals first | (cases h; done) | (simp at h; done) | skip
    rw [Option.bind_eq_some_iff] at h
    obtain ⟨_, _, h⟩ := h
    cases h
  case fieldAddr t x k =>
    exfalso
    simp only [cOp] at h
    split at h
    · rw [Option.bind_eq_some_iff] at h
      obtain ⟨_, _, h⟩ := h
      split at h <;> cases h
    · cases h
  case field t x k =>
    exfalso
    simp only [cOp] at h
    split at h
    · rw [Option.bind_eq_some_iff] at h
      obtain ⟨_, _, h⟩ := h
      split at h <;> cases h
    · cases h
  all_goals
    exfalso
    first
    | (simp [cOp] at h; done)
    | (simp only [cOp] at h
       repeat' split at h
       all_goals first | (cases h; done) | (simp at h; done))
theorem cOp_defer [Globs] {P : Program} {o : Oper} {io : IOp} (h : cOp P o.op = some io) : ∀ c, o.op ≠ .defer c := by
 intro c e
 rw [e] at h
 simp [cOp] at h
theorem oper_gives [Globs] {P : Program} {call : AV → List AV → Mem → Option (AV × Mem)} (hcall : CallOk P call) {ro : Option Nat} {n : Nat} {M : Mp} {T : List AV} {m : Mem} {w : World} (h : Holds P M m.heap m.loops w) (hf : Fresh M m.heap m.loops) {a : Act} (hT : RT M T a)
  {o : Oper} {io : IOp} (hc : cOp P o.op = some io) {x : AV} {m' : Mem} (he : evOp call T m io = some (x, m')) {K : Act → World → Prop} {Q : Exit → Act → World → Prop}
  (fin : ∀ M' v w', RV M' x v → Holds P M' m'.heap m'.loops w' → Fr M m.heap m.loops w M' m'.heap m'.loops w' → K (a.put o.dst v) w') : o.wpIn (fen ro) n P a w K Q := by
 cases hic : isCall io with
 | false =>
  obtain ⟨v, w', M', h1, h2, h3, h4⟩ := op_sound h (fun _ g => hf.loc _ g (Nat.le_refl _)) hT hc hic he
  exact wpIn_gives (cOp_defer hc) h1 (fin M' v w' h2 h3 h4)
 | true =>
  by_cases hno : ∃ f args, io = .call f args
  ·obtain ⟨f, args, rfl⟩ := hno
   obtain ⟨c, g, ho, hg, h1, h2⟩ := cOp_call hc
   simp only [evOp] at he
   refine wpIn_call ho hg ((hcall _ _ _ _ _ he (n - 1) M w (a.eval g) (c.args.map a.eval) (rv_opd hT h1) (opds_list hT h2) h hf).mono ?_)
   rintro v w' ⟨M', g1, g2, g3⟩
   exact fin M' v w' g1 g2 g3
  ·obtain ⟨v, w', M', h1, h2, h3, h4⟩ := map_sound h hf hT hc hic (fun f args e => hno ⟨f, args, e⟩) he
   exact wpIn_gives (cOp_defer hc) h1 (fin M' v w' h2 h3 h4)
theorem oper_sound [Globs] {P : Program} {call : AV → List AV → Mem → Option (AV × Mem)} (hcall : CallOk P call) {ro : Option Nat} {n : Nat} {M : Mp} {s : St} {w : World} (h : Holds P M s.heap s.loops w) (hf : Fresh M s.heap s.loops) {a : Act} (hT : RT M s.T a)
  {o : Oper} {io : IOp} (hc : cOp P o.op = some io) {x : AV} {m' : Mem} (he : evOp call s.T s.mem io = some (x, m')) {K : Act → World → Prop} {Q : Exit → Act → World → Prop}
  (hK : ∀ M' v w', Post P M s w a.defers (s.put o.dst x m') M' (a.put o.dst v) w' → K (a.put o.dst v) w') : o.wpIn (fen ro) n P a w K Q :=
 oper_gives hcall (m := s.mem) h hf hT hc he fun M' v w' h1 h2 h3 => hK M' v w' ⟨RT.put (hT.mono h3.le) h1, h2, h3, .of_same (by cases o.dst <;> rfl)⟩
theorem wanted_sound [Globs] {M : Mp} {T : List AV} {a : Act} (hT : RT M T a) {ops : Array Oper} {o : Oper} {g : Option (Nat × Bool)} (hg : cGuard ops o.guard = some g) :
  Region.wanted o (yielded ops a.tmps) = wantedI T g := by
 unfold Region.wanted
 cases hgu : o.guard with
 | none => rw [hgu] at hg; simp [cGuard] at hg; subst hg; rfl
 | some jw =>
  obtain ⟨j, want⟩ := jw
  rw [hgu] at hg
  simp only [cGuard] at hg
  split at hg
  ·rename_i t ht
   cases hg
   simp only [wantedI, yielded, ht, Option.bind_some]
   have hr := hT.rel t
   by_cases hlt : t < a.tmps.size
   ·rw [ag_of_lt hlt] at hr
    rw [Array.getElem?_eq_getElem hlt]
    generalize a.tmps[t] = v at hr
    generalize gt T t = x at hr
    cases hr <;> simp
   ·have hge : a.tmps.size ≤ t := Nat.le_of_not_lt hlt
    rw [gt_of_ge (by rw [hT.len]; exact hge), Array.getElem?_eq_none hge]
    simp
  ·cases hg
theorem cOpers_get [Globs] {P : Program} {ops : Array Oper} : ∀ {l : List Oper} {r : List IOper}, cOpers P ops l = some r → r.length = l.length ∧ ∀ (i : Nat) (o : Oper), l[i]? = some o → ∃ io, r[i]? = some io ∧ cOper P ops o = some io
 | [], r, h => by cases h; simp
 | x :: l, r, h => by
  unfold cOpers at h
  split at h
  ·rename_i y r' h1 h2
   cases h
   obtain ⟨g1, g2⟩ := cOpers_get h2
   refine ⟨by simp [g1], fun i o hi => ?_⟩
   cases i with
   | zero => simp at hi; subst hi; exact ⟨y, rfl, h1⟩
   | succ i => simpa using g2 i o (by simpa using hi)
  ·cases h
theorem cOper_eq [Globs] {P : Program} {ops : Array Oper} {o : Oper} {io : IOper} (h : cOper P ops o = some io) : cOp P o.op = some io.op ∧ cGuard ops o.guard = some io.guard ∧ io.dst = o.dst := by
 unfold cOper at h
 split at h
 ·cases h; exact ⟨by assumption, by assumption, rfl⟩
 ·cases h
theorem opers_sound [Globs] {P : Program} {call : AV → List AV → Mem → Option (AV × Mem)} (hcall : CallOk P call) {ro : Option Nat} {n : Nat} {ops : Array Oper} {Q : Exit → Act → World → Prop} :
  ∀ (idx : List Nat) (l : List IOper), l.length = idx.length → (∀ (j i : Nat), idx[j]? = some i → ∃ o io, ops[i]? = some o ∧ l[j]? = some io ∧ cOper P ops o = some io) →
  ∀ (M : Mp) (s s' : St) (a : Act) (w : World), evOps call l s = some s' → Holds P M s.heap s.loops w → Fresh M s.heap s.loops → RT M s.T a →
  (∀ M' a' w', Post P M s w a.defers s' M' a' w' → Q .normal a' w') → wpOpsIn (fen ro) n P ops Q idx a w
 | [], l, hl, _ => by
  intro M s s' a w he h hf hT hQ
  have : l = [] := List.eq_nil_of_length_eq_zero (by simpa using hl)
  subst this
  simp [evOps] at he
  subst he
  exact hQ M a w ⟨hT, h, Fr.refl _ _ _ _, .refl _ _⟩
 | i :: idx, l, hl, hget => by
  intro M s s' a w he h hf hT hQ
  obtain ⟨o, io, ho, hio, hco⟩ := hget 0 i rfl
  cases l with
  | nil => simp at hl
  | cons io' l =>
   simp at hio
   subst hio
   obtain ⟨c1, c2, c3⟩ := cOper_eq hco
   have hl' : l.length = idx.length := by simpa using hl
   have hget' : ∀ (j i : Nat), idx[j]? = some i → ∃ o io, ops[i]? = some o ∧ l[j]? = some io ∧ cOper P ops o = some io := fun j i hj => by
    simpa using hget (j + 1) i (by simpa using hj)
   simp only [wpOpsIn, ho]
   rw [wanted_sound hT c2]
   simp only [evOps] at he
   split
   ·rename_i hw
    rw [if_pos hw] at he
    split at he
    ·rename_i v m' hev
     refine oper_sound hcall h hf hT c1 hev (fun M' cv w' hp => ?_)
     rw [← c3] at hp ⊢
     rw [c3] at hp ⊢
     have hp' : Post P M s w a.defers (s.put io'.dst v m') M' (a.put o.dst cv) w' := by rw [c3]; exact hp
     exact opers_sound hcall idx l hl' hget' M' _ s' _ w' he hp'.holds (hf.fr hp'.fr) hp'.rt (fun M'' a'' w'' hp2 => hQ M'' a'' w'' (hp'.trans hp2))
    ·cases he
   ·rename_i hw
    rw [if_neg hw] at he
    refine ⟨fun _ _ => trivial, ?_⟩
    have hp' : Post P M s w a.defers (s.put io'.dst und s.mem) M (a.put o.dst undef) w := by
     rw [c3]
     exact ⟨RT.put hT .tup0, h, Fr.refl _ _ _ _, .of_same (by cases o.dst <;> rfl)⟩
    exact opers_sound hcall idx l hl' hget' M _ s' _ w he hp'.holds hf hp'.rt (fun M'' a'' w'' hp2 => hQ M'' a'' w'' (hp'.trans hp2))
end Go.Zz


namespace Go.Zz
section
variable {P : Program}
theorem putLoop [Globs] {M : Mp} {H : Hp} {L : List (Option ALoop)} {w : World} (h : Holds P M H L w) {k l : Nat} {r : ALoop} (hk : L[k]? = some (some r)) (hl : M.lp k = some l) (q' : Loop) (x : Option ALoop)
  (hx : ∀ r', x = some r' → ∀ w' : World, w'.heap[l]? = some (.loop q') → HL P M w' l r') :
  Holds P M H (L.set k x) (w.putObj l (.loop q')) ∧ Fr M H L w M H (L.set k x) (w.putObj l (.loop q')) := by
 exact putAt h hk hl (.loop q') (by simp) (fun _ _ => ⟨q', rfl⟩) x hx
theorem shutD [Globs] {M0 M : Mp} {H0 H : Hp} {L0 L : List (Option ALoop)} {w0 w : World} (h : Holds P M H L w) (k : Fr M0 H0 L0 w0 M H L w) {r : Nat} {d d' : Option (List Deferred)} (hr : w.heap[r]? = some (.deferred d)) (hr0 : w0.heap.size ≤ r) :
  Holds P M H L (w.putObj r (.deferred d')) ∧ Fr M0 H0 L0 w0 M H L (w.putObj r (.deferred d')) := by
 have hoth : ∀ b, b ≠ r → (w.putObj r (.deferred d')).heap[b]? = w.heap[b]? := fun b hb => World.putObj_heap_other hb
 have hbl : ∀ id b lc, HB M w id b lc → lc.blk ≠ r := by
  rintro id b lc hB rfl
  have := hB.obj
  simp [World.shape?, hr] at this
 refine ⟨⟨?_, ?_, h.sep, h.inj, h.gen, ?_, h.lpi⟩, ?_⟩
 ·intro b o v hv
  have h0 := h.imm b o v hv
  have hne : b ≠ r := by rintro rfl; simp [World.cell?, hr] at h0
  rw [World.cell?_of_block (w := w) (hoth b hne)]
  exact h0
 ·intro id b hb
  obtain ⟨lc, hB⟩ := h.blk id b hb
  exact ⟨lc, hB.kept (Mp.le.refl M) (hoth _ (hbl id b lc hB)) (by simp)⟩
 ·intro i q hi
  obtain ⟨l, g1, g2⟩ := h.lp i q hi
  refine ⟨l, g1, g2.kept (Mp.le.refl M) (hoth l ?_)⟩
  rintro rfl
  rcases g2.is with ⟨q', hq'⟩ | ⟨es, c, hq'⟩ <;> (rw [hr] at hq'; cases hq')
 ·exact { k with
   os := k.os, output := k.output, size := by simpa using k.size
   froz := fun a => (putObj_froz hr (by simp) (by simp) a).trans (k.froz a)
   keep := fun b hb h1 h2 => (hoth b (by omega)).trans (k.keep b hb h1 h2)
   lstay := fun l q hq => by
    obtain ⟨q', hq'⟩ := k.lstay l q hq
    refine ⟨q', (hoth l ?_).trans hq'⟩
    rintro rfl
    rw [hr] at hq'
    cases hq' }
theorem padTo_len : ∀ (n : Nat) (l : List AV), l.length ≤ n → (padTo n l).length = n
 | n, [], _ => by simp [padTo]
 | 0, _ :: _, h => by simp at h
 | n + 1, x :: l, h => by simp [padTo, padTo_len n l (by simpa using h)]
theorem gt_replicate (n i : Nat) : gt (List.replicate n und) i = und := by
 rw [gt_eq]
 by_cases h : i < n <;> simp [List.getD, h]
theorem gt_padTo : ∀ (n : Nat) (l : List AV), l.length ≤ n → ∀ i, gt (padTo n l) i = gt l i
 | n, [], _ => fun i => by simp only [padTo, gt_replicate]; rfl
 | 0, _ :: _, h => by simp at h
 | n + 1, x :: l, h => fun i => by
  cases i with
  | zero => rfl
  | succ i => exact gt_padTo n l (by simpa using h) i
theorem rv_pad [Globs] {M : Mp} {l : List AV} {c : Array Value} (h : RVs M l c) {n : Nat} (hn : l.length ≤ n) : RVs M (padTo n l) (c ++ Array.replicate (n - c.size) undef) := by
 refine ⟨by rw [padTo_len n l hn]; simp; have := h.len; omega, fun i => ?_⟩
 rw [gt_padTo n l hn, ag_append]
 split
 ·exact h.rel i
 ·rename_i hge
  rw [gt_of_ge (by rw [h.len]; omega)]
  have : ag (Array.replicate (n - c.size) undef) (i - c.size) = undef := by
   unfold ag
   by_cases hi : i - c.size < n - c.size
   ·simp [hi]
   ·simp [hi]
  rw [this]
  exact .tup0
theorem rv_setAll [Globs] {M : Mp} : ∀ (ps : List Nat) (args : List AV) (cargs : List Value) (T : List AV) (c : Array Value), RVs M T c → RVs M args cargs.toArray → args.length = ps.length →
  RVs M (setAll T ps args) ((ps.zip cargs).foldl (fun tmps (x : Nat × Value) => tmps.setIfInBounds x.1 x.2) c)
 | [], [], cargs, T, c, hT, ha, _ => by
  have : cargs = [] := List.eq_nil_of_length_eq_zero (by have := ha.len; simpa using this.symm)
  subst this
  exact hT
 | p :: ps, x :: args, cargs, T, c, hT, ha, hl => by
  cases cargs with
  | nil => have := ha.len; simp at this
  | cons v cargs =>
   have hx := ha.rel 0
   simp [gt, ag] at hx
   have hrest : RVs M args cargs.toArray := by have := ha.drop 1; simpa using this
   simp only [setAll, List.zip_cons_cons, List.foldl_cons]
   exact rv_setAll ps args cargs _ _ (hT.put hx) hrest (by simpa using hl)
 | [], _ :: _, _, _, _, _, _, h => by simp at h
 | _ :: _, [], _, _, _, _, _, h => by simp at h
def resSem (tmps : Array Value) : ResultVar → Sem Value
 | .tmp t => pure (tmps.getD t undef)
 | .cell a t => do loadVar t (← asAddr (tmps.getD a undef))
theorem cRes_sound [Globs] {M : Mp} {H : Hp} {L : List (Option ALoop)} {w : World} (h : Holds P M H L w) {T : List AV} {tmps : Array Value} (hT : RVs M T tmps) : ∀ {rs : List ResultVar} {irs : List IRes} {out : List AV}, cRes P rs = some irs → evRes T H irs = some out →
  ∃ vs : List Value, (rs.mapM (resSem tmps)).run P w = .ok vs w ∧ RVs M out vs.toArray
 | [], irs, out, hc, he => by
  cases hc
  cases he
  exact ⟨[], by simp, RVs.nil M⟩
 | .tmp t :: rs, irs, out, hc, he => by
  simp only [cRes, Option.map_eq_some_iff] at hc
  obtain ⟨irs', hc', rfl⟩ := hc
  simp only [evRes, Option.map_eq_some_iff] at he
  obtain ⟨out', he', rfl⟩ := he
  obtain ⟨vs, g1, g2⟩ := cRes_sound h hT hc' he'
  refine ⟨tmps.getD t undef :: vs, ?_, ?_⟩
  ·simp only [List.mapM_cons, resSem, Sem.run_bind, Sem.run_pure, Result.andThen_ok, g1]
  ·refine ⟨by have := g2.len; simp at this; simp [this], fun i => ?_⟩
   cases i with
   | zero => have := hT.rel t; simpa [gt, ag] using this
   | succ i => have := g2.rel i; simpa [gt, ag] using this
 | .cell t ty :: rs, irs, out, hc, he => by
  simp only [cRes] at hc
  split at hc
  ·rename_i g s l' hg hs hc'
   cases hc
   simp only [evRes] at he
   split at he
   ·rename_i id gn off hp
    cases hk : look H id gn with
    | none => simp [hk] at he
    | some l =>
     simp only [hk, Option.bind_some] at he
     cases hv : loadCs g s l off with
     | none => simp [hv] at he
     | some x =>
      simp only [hv, Option.bind_some, Option.map_eq_some_iff] at he
      obtain ⟨out', he', rfl⟩ := he
      obtain ⟨vs, g1, g2⟩ := cRes_sound h hT hc' he'
      have hr := hT.rel t
      rw [hp] at hr
      have hag : tmps.getD t undef = ag tmps t := rfl
      generalize hpv : ag tmps t = pv at hr
      cases hr with
      | pref _ _ _ lc hl =>
       obtain ⟨u, k1, k2⟩ := run_load (P := P) (cellsAt_blk h hk hl) hg hs hv
       refine ⟨u :: vs, ?_, ?_⟩
       ·simp only [List.mapM_cons, resSem, Sem.run_bind, hag, hpv, asAddr, Sem.run_pure, Result.andThen_ok, k1, g1]
       ·refine ⟨by have := g2.len; simp at this; simp [this], fun i => ?_⟩
        cases i with
        | zero => simpa [gt, ag] using k2
        | succ i => have := g2.rel i; simpa [gt, ag] using this
   ·cases he
  ·cases hc
theorem results_sound [Globs] {M : Mp} {H : Hp} {L : List (Option ALoop)} {w : World} (h : Holds P M H L w) {T : List AV} {tmps : Array Value} (hT : RVs M T tmps) {fn : Func} {irs : List IRes} {out : List AV} (hc : cRes P fn.results.toList = some irs) (he : evRes T H irs = some out) :
  ∃ v, (results fn tmps).run P w = .ok v w ∧ RV M (oneRes out) v := by
 obtain ⟨vs, g1, g2⟩ := cRes_sound h hT hc he
 have hlen : out.length = vs.length := by have := g2.len; simpa using this
 have hrun : (results fn tmps).run P w = .ok (if h : vs.toArray.size = 1 then vs.toArray[0] else .tuple vs.toArray) w := by
  have e : results fn tmps = (do let vs ← fn.results.mapM (resSem tmps); pure (if h : vs.size = 1 then vs[0] else .tuple vs)) := rfl
  rw [e, Sem.run_bind, Array.mapM_eq_mapM_toList]
  simp [g1]
 refine ⟨_, hrun, ?_⟩
 by_cases h1 : vs.length = 1
 ·obtain ⟨v, rfl⟩ := List.length_eq_one_iff.1 h1
  obtain ⟨x, rfl⟩ := List.length_eq_one_iff.1 (hlen.trans h1)
  have := g2.rel 0
  simpa [oneRes, gt, ag] using this
 ·have e1 : oneRes out = .tuple out := by
   unfold oneRes
   split
   ·simp at hlen; omega
   ·rfl
  rw [e1, dif_neg (by simpa using h1)]
  exact .tuple _ _ g2.len g2.rel
end
end Go.Zz


namespace Go.Zz
def SpecOk [Globs] (P : Program) (g : Nat) (S : List AV → Mem → Option (AV × Mem)) : Prop :=
 Callable P g ∧ ∀ args m v m', S args m = some (v, m') → ∀ N M w cargs, RVs M args cargs → Holds P M m.heap m.loops w → Fresh M m.heap m.loops →
  CallsIn (fen none) N P g cargs w (Ret fun cv w' => ∃ M', RV M' v cv ∧ Holds P M' m'.heap m'.loops w' ∧ Fr M m.heap m.loops w M' m'.heap m'.loops w')
structure EnvOk [Globs] (P : Program) (Γ : Env) : Prop where
 fn : ∀ g ifn, Γ.fn g = some ifn → ∃ fn, P.funcs[g]? = some fn ∧ cFunc P fn = some ifn
 spec : ∀ g S, Γ.spec g = some S → SpecOk P g S
def DrawOk [Globs] (P : Program) : Prop := ∀ (call : AV → List AV → Mem → Option (AV × Mem)), CallOk P call → ∀ id ops dops, cCode P (.region id ops true) = some (.draw dops) → ∀ s s', evDraw call dops s [] = some s' →
 ∀ ro N M a w, Holds P M s.heap s.loops w → Fresh M s.heap s.loops → RT M s.T a → ∀ Q : Exit → Act → World → Prop, (∀ M' a' w', Post P M s w a.defers s' M' a' w' → Q .normal a' w') → (Code.region id ops true).wpIn (fen ro) N P Q a w
def CodeOk [Globs] (P : Program) (Γ : Env) (n : Nat) : Prop := ∀ c ir s e s', cCode P c = some ir → evC Γ n ir s = some (e, s') → ∀ ro N M a w, Holds P M s.heap s.loops w → Fresh M s.heap s.loops → RT M s.T a → InRound ro w →
 ∀ Q : Exit → Act → World → Prop, (∀ M' a' w', Post P M s w a.defers s' M' a' w' → Q (exitOf e) a' w') → c.wpIn (fen ro) N P Q a w
section
variable {P : Program} {Γ : Env}
theorem leavesM [Globs] {n : Nat} {fn : Func} {tmps : Array Value} {R : Ending → World → Prop} {M0 M : Mp} {H0 H : Hp} {L0 L : List (Option ALoop)} {w0 : World} : ∀ (rs : List Nat) (w : World), rs.Nodup → (∀ r ∈ rs, w0.heap.size ≤ r ∧ w.heap[r]? = some (.deferred (some []))) →
  Holds P M H L w → Fr M0 H0 L0 w0 M H L w → (∀ w', Holds P M H L w' → Fr M0 H0 L0 w0 M H L w' → ∃ v, (results fn tmps).run P w' = .ok v w' ∧ R (.returned v) w') →
  LeavesInM (fen none) n P fn tmps R (rs.map fun r => { target := .collected r, args := #[] }) .returning w
 | [], w, _, _, h, k, hfin => by
  simp only [List.map_nil, LeavesInM, LeavesIn]
  exact hfin w h k
 | r :: rs, w, hn, hr, h, k, hfin => by
  simp only [List.map_cons, LeavesInM]
  obtain ⟨h1, h2⟩ := hr r (by simp)
  obtain ⟨g1, g2⟩ := shutD (d' := none) h k h2 h1
  refine ⟨by simp, .inl ⟨r, _, rfl, run_takeDeferred h2, ?_⟩⟩
  rw [List.nodup_cons] at hn
  refine leavesM rs _ hn.2 (fun r' hr' => ?_) g1 g2 hfin
  obtain ⟨a1, a2⟩ := hr r' (by simp [hr'])
  refine ⟨a1, (World.putObj_heap_other ?_).trans a2⟩
  rintro rfl
  exact hn.1 hr'
theorem cFunc_eq [Globs] {fn : Func} {ifn : IFunc} (h : cFunc P fn = some ifn) : ∃ c, fn.body = some c ∧ cCode P c = some ifn.body ∧ cRes P fn.results.toList = some ifn.results ∧ ifn.ntmps = fn.ntmps ∧ fn.name ≠ "runtime.NumGoroutine" := by
 unfold cFunc at h
 split at h
 ·rename_i c hb
  split at h
  ·rename_i b rs hc hr
   split at h
   ·cases h
   ·rename_i hn
    cases h
    exact ⟨c, hb, hc, hr, rfl, by simpa using hn⟩
  ·cases h
 ·cases h
theorem isMap_ready {r : ALoop} (h : r.ready = true) : isMap r = false := by unfold isMap; rw [h]
theorem loop_fields [Globs] {r : ALoop} {q : Loop} {M : Mp} {w : World} {l : Nat} (h : HL P M w l r) (hq : w.heap[l]? = some (.loop q)) : RVs M r.tmps q.tmps ∧ r.params = q.params.toList ∧ cCode P q.assign = some r.assign ∧ cCode P q.body = some r.body ∧
  (r.ready = true → q.state = .ready ∧ r.pending = none ∧ q.pending = none) ∧ (r.ready = false → r.pending = none → q.state = .busy) ∧ (r.pending = some .ret → q.state = .done ∧ q.pending = some .ret) ∧ (∀ id, r.pending = some (.exit id) → q.state = .done ∧ q.pending = some (.exit id)) ∧ r.pending ≠ some .normal := by
 have hm : isMap r = false := by
  cases hm : isMap r with
  | true => obtain ⟨es, c, g, _⟩ := h.mobj hm; rw [hq] at g; cases g
  | false => rfl
 obtain ⟨q', h1, h2, h3, h4, h5, h6⟩ := h.obj hm
 rw [hq] at h1
 cases h1
 refine ⟨h2, h3, h4, h5, ?_⟩
 cases hr : r.ready <;> cases hp : r.pending with
 | none => rw [hr, hp] at h6; simp_all
 | some e => cases e <;> rw [hr, hp] at h6 <;> simp_all
theorem call_sound [Globs] (hΓ : EnvOk P Γ) {n : Nat} (ih : CodeOk P Γ n) : CallOk P (fun f args m => evF Γ (n + 1) f args m) := by
 intro f args m v m' he N M w fv cargs hf ha h hfr
 simp only [evF] at he
 cases hf with
 | func g first cap cf cc h1 h2 h3 h4 =>
  have hargs : RVs M (first ++ args ++ cap) (cf ++ cargs ++ cc) := (RVs.append ⟨h1, h3⟩ ha).append ⟨h2, h4⟩
  simp only at he
  split at he
  ·rename_i S hS
   obtain ⟨hc, hs⟩ := hΓ.spec g S hS
   exact .func g cf cc hc (hs _ _ _ _ he N M w _ hargs h hfr)
  ·split at he
   ·rename_i ifn hfn
    obtain ⟨fn, hfn1, hfn2⟩ := hΓ.fn g ifn hfn
    obtain ⟨c, hb, hcode, hres, hnt, hname⟩ := cFunc_eq hfn2
    split at he
    ·rename_i hle
     have hRT : RT M (padTo ifn.ntmps (first ++ args ++ cap)) ⟨(cf ++ cargs ++ cc) ++ Array.replicate (fn.ntmps - (cf ++ cargs ++ cc).size) undef, []⟩ := by
      have := rv_pad hargs hle
      rw [hnt] at this ⊢
      exact this
     refine .func g cf cc ⟨fn, hfn1, hname, by simp [hb]⟩ (callsIn_of_wp_marks hfn1 hb trivial ?_ rfl)
     have body : ∀ e s', (e = .normal ∨ e = .ret) → evC Γ n ifn.body ⟨padTo ifn.ntmps (first ++ args ++ cap), m.heap, m.loops⟩ = some (e, s') → ((evRes s'.T s'.heap ifn.results).map fun l => (oneRes l, s'.mem)) = some (v, m') →
       c.wpIn (fen none) N P (bodyPostM (fen none) N P fn (Ret fun cv w' => ∃ M', RV M' v cv ∧ Holds P M' m'.heap m'.loops w' ∧ Fr M m.heap m.loops w M' m'.heap m'.loops w')) ⟨(cf ++ cargs ++ cc) ++ Array.replicate (fn.ntmps - (cf ++ cargs ++ cc).size) undef, []⟩ w := by
      intro e s' hee hev hr
      refine ih c ifn.body _ e s' hcode hev none N M _ w h hfr hRT (fun l hl => by cases hl) _ (fun M' a' w' hp => ?_)
      simp only [Option.map_eq_some_iff, Prod.mk.injEq] at hr
      obtain ⟨out, ho, rfl, rfl⟩ := hr
      have key : LeavesInM (fen none) N P fn a'.tmps (Ret fun cv w' => ∃ M', RV M' (oneRes out) cv ∧ Holds P M' s'.heap s'.loops w' ∧ Fr M m.heap m.loops w M' s'.heap s'.loops w') a'.defers .returning w' := by
       obtain ⟨rs, e1, e2, e3⟩ := hp.dfs
       simp only [List.append_nil] at e1
       rw [e1]
       refine leavesM rs w' e2 e3 hp.holds hp.fr (fun w'' h'' k'' => ?_)
       obtain ⟨cv, r1, r2⟩ := results_sound h'' hp.rt hres ho
       exact ⟨cv, r1, cv, rfl, M', r2, h'', k''⟩
      rcases hee with rfl | rfl <;> exact key
     split at he
     ·rename_i s' hev; exact body _ s' (.inl rfl) hev he
     ·rename_i s' hev; exact body _ s' (.inr rfl) hev he
     ·cases he
    ·cases he
   ·cases he
 | yield k l hl =>
  simp only at he
  split at he
  ·rename_i r hk
   split at he
   ·rename_i hc0
    simp only [Bool.and_eq_true, decide_eq_true_eq] at hc0
    obtain ⟨hready, hlen⟩ := hc0
    obtain ⟨l0, g1, g2⟩ := h.lp k r hk
    rw [hl] at g1
    cases g1
    obtain ⟨q, hq, _⟩ := id (g2.obj (isMap_ready hready))
    obtain ⟨f1, f2, f3, f4, f5, _⟩ := loop_fields g2 hq
    have hsz : cargs.size = q.params.size := by rw [← ha.len, hlen, f2]; simp
    refine .yield l q hq hsz (roundIn_of_wpIn trivial ?_)
    split at he
    ·rename_i s₁ hev1
     have hRT : RT M (setAll r.tmps r.params args) ⟨(q.params.zip cargs).foldl (fun tmps (t, a) => tmps.setIfInBounds t a) q.tmps, []⟩ := by
      have := rv_setAll r.params args cargs.toList r.tmps q.tmps f1 (by simpa using ha) hlen
      have e1 : (q.params.zip cargs).foldl (fun (tmps : Array Value) (x : Nat × Value) => tmps.setIfInBounds x.1 x.2) q.tmps = (r.params.zip cargs.toList).foldl (fun (tmps : Array Value) (x : Nat × Value) => tmps.setIfInBounds x.1 x.2) q.tmps := by
       rw [f2, ← Array.foldl_toList, Array.toList_zip]
      show RVs M _ ((q.params.zip cargs).foldl (fun (tmps : Array Value) (x : Nat × Value) => tmps.setIfInBounds x.1 x.2) q.tmps)
      rw [e1]
      exact this
     refine ih _ _ _ _ _ f3 hev1 (some l) N M _ w h hfr hRT (fun l' hl' => by cases hl'; exact ⟨q, hq⟩) _ (fun M1 a1 w1 hp1 => ?_)
     split at he
     ·rename_i r₁ hk1
      split at he
      ·rename_i hr1
       obtain ⟨l1, p1, p2⟩ := hp1.holds.lp k r₁ hk1
       have hl1 : M1.lp k = some l := hp1.fr.le.lp _ _ hl
       rw [hl1] at p1
       cases p1
       obtain ⟨q1, hq1, _⟩ := id (p2.obj (isMap_ready hr1))
       obtain ⟨d1, d2, d3, d4, d5, _⟩ := loop_fields p2 hq1
       obtain ⟨st1, pn1, qp1⟩ := d5 hr1
       refine ⟨_, run_beginRound hq1 st1, ?_⟩
       have hfr1 := hfr.fr hp1.fr
       obtain ⟨b1, b2⟩ := putLoop hp1.holds hk1 hl1 { q1 with state := .busy } (some { r₁ with ready := false }) (fun r' hr' w' hw' => by
        cases hr'
        exact ⟨fun hm => by simp [isMap, pn1] at hm, fun _ => ⟨_, hw', d1, d2, d3, d4, by simp only [pn1]⟩⟩)
       split at he
       ·rename_i e s₂ hev2
        refine ih _ _ _ _ _ f4 hev2 (some l) N M1 _ _ b1 (hfr1.fr b2) hp1.rt (fun l' hl' => by cases hl'; exact ⟨_, World.putObj_heap_same (Array.getElem?_eq_some_iff.1 hq1).1⟩) _ (fun M2 a2 w2 hp2 => ?_)
        split at he
        ·rename_i r₂ hk2
         split at he
         ·cases he
         ·rename_i hnm
          obtain ⟨l2, q1', q2'⟩ := hp2.holds.lp k r₂ hk2
          have hl2 : M2.lp k = some l := hp2.fr.le.lp _ _ hl1
          rw [hl2] at q1'
          cases q1'
          obtain ⟨qq, hqq, _⟩ := id (q2'.obj (by simpa using hnm))
          obtain ⟨c1, c2, c3, c4, _⟩ := loop_fields q2' hqq
          have fin : ∀ (jump : Option Code) (x : ALoop) (rb : Bool), (∀ w' : World, w'.heap[l]? = some (.loop { qq with state := if jump.isNone then .ready else .done, pending := jump }) → HL P M2 w' l x) → jump.isNone = rb →
            (∃ v' w', (Instr.endRound l jump).run P w2 = .ok v' w' ∧ Ret (fun cv w' => ∃ M', RV M' (.bool rb) cv ∧ Holds P M' s₂.heap (setLoop s₂.loops k (some x)) w' ∧ Fr M m.heap m.loops w M' s₂.heap (setLoop s₂.loops k (some x)) w') (.returned v') w') := by
           intro jump x rb hx hrb
           refine ⟨_, _, run_endRound jump hqq, _, rfl, M2, by rw [hrb]; exact .bool rb, ?_⟩
           obtain ⟨e1, e2⟩ := putLoop hp2.holds hk2 hl2 { qq with state := if jump.isNone then .ready else .done, pending := jump } (some x) (fun r' hr' w' hw' => by cases hr'; exact hx w' hw')
           exact ⟨e1, ((hp1.fr.trans b2).trans hp2.fr).trans e2⟩
          cases e with
          | normal =>
           simp at he
           obtain ⟨rfl, rfl⟩ := he
           exact fin none _ true (fun w' hw' => ⟨fun hm => by simp [isMap] at hm, fun _ => ⟨_, hw', c1, c2, c3, c4, by simp⟩⟩) rfl
          | ret =>
           simp at he
           obtain ⟨rfl, rfl⟩ := he
           exact fin (some .ret) _ false (fun w' hw' => ⟨fun hm => by simp [isMap] at hm, fun _ => ⟨_, hw', c1, c2, c3, c4, by simp⟩⟩) rfl
          | exit id =>
           simp at he
           obtain ⟨rfl, rfl⟩ := he
           exact fin (some (.exit id)) _ false (fun w' hw' => ⟨fun hm => by simp [isMap] at hm, fun _ => ⟨_, hw', c1, c2, c3, c4, by simp⟩⟩) rfl
        ·cases he
       ·cases he
      ·cases he
     ·cases he
    ·cases he
   ·cases he
  ·cases he
 | _ => simp at he
end
end Go.Zz


namespace Go.Zz
section
variable {P : Program} {Γ : Env}
theorem heap_alloc' (w : World) (o : Obj) (k : Nat) (h : k < w.heap.size) : (w.alloc o).heap[k]? = w.heap[k]? := by
 show (w.heap.push o)[k]? = _
 rw [Array.getElem?_push, if_neg (by omega)]
theorem size_alloc' (w : World) (o : Obj) : (w.alloc o).heap.size = w.heap.size + 1 := by
 show (w.heap.push o).size = _
 simp
theorem enter_run (fn : FuncId) (tmps : Array Value) (ps : Array Tmp) (ca cb : Code) {ro : Option Nat} {w : World} (hro : InRound ro w) :
  ∃ l mark w₁, (Instr.enterLoop fn tmps ps ca cb ro).run P w = .ok (l, mark) w₁ ∧ w.heap.size ≤ w₁.heap.size ∧ (∀ b, b < w.heap.size → w₁.heap[b]? = w.heap[b]?) ∧ (∀ b, w.heap.size ≤ b → ∀ c e f, w₁.heap[b]? ≠ some (.cells c e f)) ∧
   w.heap.size ≤ l ∧ (∃ d, w₁.heap[l]? = some (.loop { state := .ready, pending := none, fn, tmps := tmps, params := ps, assign := ca, body := cb, defers := d })) ∧ w₁.os = w.os ∧ w₁.output = w.output ∧
   ((mark = [] ) ∨ ∃ r, mark = [{ target := .collected r, args := #[] }] ∧ w.heap.size ≤ r ∧ w₁.heap[r]? = some (.deferred (some []))) := by
 cases ro with
 | none =>
  have hlast := World.alloc_heap_new (w.alloc (.deferred (some []))) (.loop { state := .ready, pending := none, fn, tmps := tmps, params := ps, assign := ca, body := cb, defers := w.heap.size })
  rw [size_alloc'] at hlast
  have hmid : ((w.alloc (.deferred (some []))).alloc (.loop { state := .ready, pending := none, fn, tmps := tmps, params := ps, assign := ca, body := cb, defers := w.heap.size })).heap[w.heap.size]? = some (.deferred (some [])) := by
   rw [heap_alloc' _ _ _ (by rw [size_alloc']; omega), World.alloc_heap_new]
  refine ⟨_, _, _, run_enterLoop_outer fn tmps ps ca cb, by rw [size_alloc', size_alloc']; omega, ?_, ?_, Nat.le_succ _, ⟨w.heap.size, hlast⟩, rfl, rfl, .inr ⟨w.heap.size, rfl, Nat.le_refl _, hmid⟩⟩
  ·intro b hb
   rw [heap_alloc' _ _ _ (by rw [size_alloc']; omega), heap_alloc' _ _ _ hb]
  ·intro b hb c e f hc
   by_cases e1 : b = w.heap.size
   ·subst e1
    rw [hmid] at hc
    cases hc
   ·by_cases e2 : b = w.heap.size + 1
    ·rw [e2, hlast] at hc
     cases hc
    ·have hlt := (Array.getElem?_eq_some_iff.1 hc).1
     rw [size_alloc', size_alloc'] at hlt
     omega
 | some l0 =>
  obtain ⟨q0, hq0⟩ := hro l0 rfl
  refine ⟨_, _, _, run_enterLoop_inner hq0 fn tmps ps ca cb, by rw [size_alloc']; omega, fun b hb => heap_alloc' _ _ _ hb, ?_, Nat.le_refl _, ⟨q0.defers, World.alloc_heap_new _ _⟩, rfl, rfl, .inl rfl⟩
  intro b hb c e f hc
  by_cases e1 : b = w.heap.size
  ·subst e1
   rw [World.alloc_heap_new] at hc
   cases hc
  ·have hlt := (Array.getElem?_eq_some_iff.1 hc).1
   rw [size_alloc'] at hlt
   omega
theorem rangeFunc_sound [Globs] {n : Nat} (hcall : CallOk P (fun f args m => evF Γ n f args m)) {f : Operand} {f' : Opd} {ps : Array Tmp} {ca cb : Code} {x y : IR} (hf : cOpd f = some f') (hca : cCode P ca = some x) (hcb : cCode P cb = some y)
  {s s' : St} {e : Ex} (he : evC Γ (n + 1) (.rangeFunc f' ps.toList x y) s = some (e, s')) (ro : Option Nat) (N : Nat) (M : Mp) (a : Act) (w : World) (h : Holds P M s.heap s.loops w) (hfr : Fresh M s.heap s.loops) (hT : RT M s.T a) (hro : InRound ro w)
  (Q : Exit → Act → World → Prop) (hQ : ∀ M' a' w', Post P M s w a.defers s' M' a' w' → Q (exitOf e) a' w') : (Code.rangeFunc f ps ca cb).wpIn (fen ro) N P Q a w := by
 refine wpIn_rangeFunc (fun fn _ => ?_)
 simp only [evC] at he
 have hfv := rv_opd hT hf
 split at he
 ·rename_i v m hev
  split at hev
  ·rename_i g fs cp hfe
   rw [hfe] at hfv
   generalize hav : a.eval f = fv at hfv
   cases hfv with
   | func _ _ _ cf cc h1 h2 h3 h4 =>
    obtain ⟨l, mark, w₁, r0, r1, r2, r3, r4, ⟨d, r5⟩, r6, r7, r8⟩ := enter_run (P := P) fn a.tmps ps ca cb hro
    obtain ⟨k1, k2, k3⟩ := enterL (r := ⟨true, none, s.T, ps.toList, x, y⟩) h hfr r1 r2 r3 r4 r6 r7 (fun M' hle => ⟨fun hm => by simp [isMap] at hm, fun _ => ⟨_, r5, hT.mono hle, rfl, hca, hcb, by simp⟩⟩)
    generalize hM1 : ({ M with lp := fun k => if k = s.loops.length then some l else M.lp k } : Mp) = M1 at k1 k2 k3
    have hA := hcall (.func g fs cp) [.yield s.loops.length] _ v m hev (N - 1) M1 w₁ (.func (.func g) cf cc) #[.func (.yield l) #[] #[]] (.func _ _ _ _ _ h1 h2 (fun i => (h3 i).mono k2.le) (fun i => (h4 i).mono k2.le))
     (RVs.of_lt rfl fun i i1 i2 => by
      have : i = 0 := by simp at i1; omega
      subst this
      exact .yield _ _ k3) k1 (hfr.fr k2)
    cases hA with
    | func _ _ _ hc hcl =>
     have hres : (resolve a.eval (rangeCall f l) 0).run P w₁ = .ok { target := .fn (.func g) cc, args := cf ++ #[.func (.yield l) #[] #[]] } w₁ := by
      have e1 : a.eval (.const (.func (.yield l) #[] #[])) = .func (.yield l) #[] #[] := rfl
      simp [resolve, hav, Deferred.ofValue, e1]
     have hinv : (invoke (.fn (.func g) cc) (cf ++ #[.func (.yield l) #[] #[]])).run P w₁ = .ok (.enter g (cf ++ #[.func (.yield l) #[] #[]] ++ cc)) w₁ := run_callFunc hc _ _
     refine ⟨l, mark, w₁, _, w₁, g, _, w₁, r0, hres, fun _ _ => trivial, hinv, fun hd => by simp [fen_depth] at hd, ?_⟩
     refine CallsIn.mono (callsIn_fen hcl) ?_
     ·rintro ee w3 ⟨cv, rfl, M3, p1, p2, p3⟩
      simp only [rangePost]
      split at he
      ·rename_i r hk
       have hl3 : M3.lp s.loops.length = some l := p3.le.lp _ _ k3
       obtain ⟨l3, q1, q2⟩ := p2.lp _ r hk
       rw [hl3] at q1
       cases q1
       have hnm : isMap r = false := by
        cases hm : isMap r with
        | true => simp [hm] at he
        | false => rfl
       rw [hnm] at he
       simp only [Bool.false_eq_true, if_false] at he
       obtain ⟨q, hq, _⟩ := id (q2.obj hnm)
       obtain ⟨_, _, _, _, f5, f6, f7, f8, f9⟩ := loop_fields q2 hq
       have fin : ∀ (jump : Option Code), q.state ≠ .busy → q.pending = jump → ∀ ex, (match jump with | none => ex = Ex.normal | some .ret => ex = .ret | some (.exit id) => ex = .exit id | _ => False) →
         (ex, (⟨s.T, m.heap, setLoop m.loops s.loops.length none⟩ : St)) = (e, s') →
         ∃ jump w₄, (Instr.endLoop l).run P w3 = .ok jump w₄ ∧ (match jump with | none => Q .normal { a with defers := mark ++ a.defers } w₄ | some c => c.wpIn (fen ro) N P Q { a with defers := mark ++ a.defers } w₄) := by
        intro jump hb hj ex hex hes
        refine ⟨_, _, run_endLoop hq hb, ?_⟩
        obtain ⟨b1, b2⟩ := putLoop p2 hk hl3 { q with state := .exhausted } none (fun r' hr' => by cases hr')
        cases hes
        have hpost : Post P M s w a.defers ⟨s.T, m.heap, setLoop m.loops s.loops.length none⟩ M3 { a with defers := mark ++ a.defers } (w3.putObj l (.loop { q with state := .exhausted })) := by
         refine ⟨hT.mono (k2.le.trans p3.le), b1, (k2.trans p3).trans b2, ?_⟩
         rcases r8 with rfl | ⟨r, rfl, g1, g2⟩
         ·exact .of_same rfl
         ·refine ⟨[r], rfl, by simp, ?_⟩
          intro r' hr'
          simp at hr'
          subst hr'
          have hst := stays k1 p3 g2
          refine ⟨g1, (World.putObj_heap_other ?_).trans hst⟩
          rintro rfl
          rw [hq] at hst
          cases hst
        have hq' := hQ M3 _ _ hpost
        simp only [hj] at hq' ⊢
        split at hex
        ·subst hex; exact hq'
        ·subst hex; exact wpIn_ret hq'
        ·subst hex; exact wpIn_exit hq'
        ·exact hex.elim
       split at he
       ·rename_i hpn
        split at he
        ·rename_i hrd
         obtain ⟨e1, _, e3⟩ := f5 hrd
         exact fin none (by rw [e1]; simp) e3 .normal rfl (Option.some.inj he)
        ·cases he
       ·rename_i ex hpn
        cases ex with
        | normal => exact absurd hpn f9
        | ret =>
         obtain ⟨e1, e2⟩ := f7 hpn
         exact fin (some .ret) (by rw [e1]; simp) e2 .ret rfl (Option.some.inj he)
        | exit id =>
         obtain ⟨e1, e2⟩ := f8 id hpn
         exact fin (some (.exit id)) (by rw [e1]; simp) e2 (.exit id) rfl (Option.some.inj he)
      ·cases he
  ·cases hev
 ·cases he
theorem stepR_scope {P : Program} {b : Frame} {a : Act} {k : List Item} {cs : List Frame} {w : World} {c : Code} :
  step P (lone (b.atR a (.code (.scope c) :: k)) cs w) = .next (lone (b.atR a (.code c :: .inScope c :: k)) cs w) :=
 step_lone_go (by simp [stepG, stepG.exec, Frame.atR])
theorem stepR_inScope {P : Program} {b : Frame} {a : Act} {k : List Item} {cs : List Frame} {w : World} {c : Code} :
  step P (lone (b.atR a (.inScope c :: k)) cs w) = .next (lone (b.atR a k) cs w) :=
 step_lone_go (by simp [stepG, stepG.exec, Frame.atR])
theorem evC_never {Γ : Env} (s : St) : ∀ n, evC Γ n (.loop .skip) s = none
 | 0 => rfl
 | 1 => rfl
 | n + 2 => by
  have ih := evC_never (Γ := Γ) s (n + 1)
  show (match evC Γ (n + 1) .skip s with | some (.normal, s') => evC Γ (n + 1) (.loop .skip) s' | r => r) = none
  exact ih
theorem code_step [Globs] (hD : DrawOk P) {n : Nat} (ih : CodeOk P Γ n) (ihl : ∀ m, m ≤ n → CodeOk P Γ m) (hcall : CallOk P (fun f args m => evF Γ n f args m)) : CodeOk P Γ (n + 1) := by
 intro c ir s e s' hc he ro N M a w h hfr hT hro Q hQ
 cases c with
 | skip =>
  simp [cCode] at hc
  subst hc
  simp [evC] at he
  obtain ⟨rfl, rfl⟩ := he
  exact wpIn_skip (hQ M a w ⟨hT, h, Fr.refl _ _ _ _, .refl _ _⟩)
 | region id ops draw =>
  cases draw with
  | false =>
   simp only [cCode] at hc
   split at hc
   ·rename_i l hl
    cases hc
    simp only [evC, Option.map_eq_some_iff, Prod.mk.injEq] at he
    obtain ⟨s1, hev, rfl, rfl⟩ := he
    obtain ⟨g1, g2⟩ := cOpers_get hl
    refine wpIn_region (opers_sound hcall (List.range ops.size) l (by simp [g1]) ?_ M s s1 a w hev h hfr hT hQ)
    intro j i hj
    have hjs : j < ops.size := by
     have := (List.getElem?_eq_some_iff.1 hj).1
     simpa using this
    have hij : i = j := by
     rw [List.getElem?_range hjs] at hj
     exact (Option.some.inj hj).symm
    subst hij
    obtain ⟨io, k1, k2⟩ := g2 i ops[i] (by simp [hjs])
    exact ⟨ops[i], io, by simp [hjs], k1, k2⟩
   ·split at hc
    ·cases hc
     rw [evC_never] at he
     cases he
    ·cases hc
  | true =>
   have hc' := hc
   simp only [cCode] at hc'
   split at hc'
   ·split at hc'
    ·cases hc'
     simp only [evC, Option.map_eq_some_iff, Prod.mk.injEq] at he
     obtain ⟨s1, hev, rfl, rfl⟩ := he
     exact hD _ hcall id ops _ hc s s1 hev ro N M a w h hfr hT Q hQ
    ·cases hc'
   ·cases hc'
 | seq x y =>
  simp only [cCode] at hc
  split at hc
  ·rename_i x' y' hx hy
   cases hc
   simp only [evC] at he
   cases hev : evC Γ n x' s with
   | none => rw [hev] at he; simp at he
   | some r =>
    obtain ⟨e1, s1⟩ := r
    rw [hev] at he
    refine wpIn_seq (ih x x' s e1 s1 hx hev ro N M a w h hfr hT hro _ (fun M1 a1 w1 hp => ?_))
    cases e1 with
    | normal =>
     simp only at he
     exact ih y y' s1 e s' hy he ro N M1 a1 w1 hp.holds (hfr.fr hp.fr) hp.rt (hro.fr hp.fr) Q (fun M2 a2 w2 hp2 => hQ M2 a2 w2 (hp.trans hp2))
    | exit id => simp at he; obtain ⟨rfl, rfl⟩ := he; exact hQ M1 a1 w1 hp
    | ret => simp at he; obtain ⟨rfl, rfl⟩ := he; exact hQ M1 a1 w1 hp
  ·cases hc
 | cond co x y =>
  simp only [cCode] at hc
  split at hc
  ·rename_i co' x' y' hco hx hy
   cases hc
   simp only [evC] at he
   split at he
   ·rename_i t ht
    have hr := rv_opd hT hco
    rw [ht] at hr
    generalize hv : a.eval co = v at hr
    cases hr
    refine wpIn_cond hv ?_
    cases t with
    | true => simp only [if_true] at he ⊢; exact ih x x' s e s' hx he ro N M a w h hfr hT hro Q hQ
    | false => simp only [Bool.false_eq_true, if_false] at he ⊢; exact ih y y' s e s' hy he ro N M a w h hfr hT hro Q hQ
   ·cases he
  ·cases hc
 | block id x =>
  simp [cCode] at hc
  obtain ⟨x', hx, rfl⟩ := hc
  simp only [evC] at he
  cases hev : evC Γ n x' s with
  | none => rw [hev] at he; simp at he
  | some r =>
   obtain ⟨e1, s1⟩ := r
   rw [hev] at he
   refine wpIn_block (ih x x' s e1 s1 hx hev ro N M a w h hfr hT hro _ (fun M1 a1 w1 hp => ?_))
   cases e1 with
   | normal => simp at he; obtain ⟨rfl, rfl⟩ := he; exact hQ M1 a1 w1 hp
   | exit id' =>
    simp only at he
    simp only [exitOf, Exit.inBlock]
    split at he
    ·rename_i e2
     cases he
     rw [if_pos e2]
     exact hQ M1 a1 w1 hp
    ·rename_i e2
     cases he
     rw [if_neg e2]
     exact hQ M1 a1 w1 hp
   | ret => simp at he; obtain ⟨rfl, rfl⟩ := he; exact hQ M1 a1 w1 hp
 | loop x =>
  simp [cCode] at hc
  obtain ⟨x', hx, rfl⟩ := hc
  intro b k cs hrb hb hr
  have key : ∀ (j : Nat), j ≤ n + 1 → ∀ (s : St) (M1 : Mp) (a1 : Act) (w1 : World), evC Γ j (.loop x') s = some (e, s') → Holds P M1 s.heap s.loops w1 → Fresh M1 s.heap s.loops → RT M1 s.T a1 → InRound ro w1 →
    (∀ M' a' w', Post P M1 s w1 a1.defers s' M' a' w' → Q (exitOf e) a' w') →
    ∃ ee a' w', Q ee a' w' ∧ ArrivesIn (Machine.fenced P (fen ro)) P (lone (b.atR a1 (.code x :: .inLoop x :: k)) cs w1) b k cs ee a' w' := by
   intro j
   induction j with
   | zero => intro _ s M1 a1 w1 hev; simp [evC] at hev
   | succ j ihj =>
    intro hjn s M1 a1 w1 hev h1 hf1 hT1 hro1 hQ1
    simp only [evC] at hev
    cases hev1 : evC Γ j x' s with
    | none => rw [hev1] at hev; simp at hev
    | some r =>
     obtain ⟨e1, s1⟩ := r
     rw [hev1] at hev
     have hbody := ihl j (by omega) x x' s e1 s1 hx hev1 ro N M1 a1 w1 h1 hf1 hT1 hro1 (fun ee a' w' => ∃ M', Post P M1 s w1 a1.defers s1 M' a' w' ∧ ee = exitOf e1) (fun M' a' w' hp => ⟨M', hp, rfl⟩)
     obtain ⟨ee, a2, w2, ⟨M2, hp, rfl⟩, harr⟩ := hbody b (.inLoop x :: k) cs hrb hb hr
     cases e1 with
     | normal =>
      simp only at hev
      obtain ⟨e3, a3, w3, hq3, harr3⟩ := ihj (by omega) s1 M2 a2 w2 hev hp.holds (hf1.fr hp.fr) hp.rt (hro1.fr hp.fr) (fun M' a' w' hp2 => hQ1 M' a' w' (hp.trans hp2))
      exact ⟨e3, a3, w3, hq3, .of_steps (StepsIn.trans harr (.one (fenced_calm hb hr rfl) stepR_inLoop)) harr3⟩
     | exit id => simp at hev; obtain ⟨rfl, rfl⟩ := hev; exact ⟨_, a2, w2, hQ1 M2 a2 w2 hp, .pass (x := .inLoop x) rfl (fun _ _ => .inl (by simp [exitOf])) harr⟩
     | ret => simp at hev; obtain ⟨rfl, rfl⟩ := hev; exact ⟨_, a2, w2, hQ1 M2 a2 w2 hp, .pass (x := .inLoop x) rfl (fun _ _ => .inl (by simp [exitOf])) harr⟩
  obtain ⟨ee, a', w', hq, harr⟩ := key (n + 1) (Nat.le_refl _) s M a w he h hfr hT hro hQ
  exact ⟨ee, a', w', hq, .of_steps (.one (fenced_calm hb hr rfl) stepR_loop) harr⟩
 | rangeFunc f ps x y =>
  simp only [cCode] at hc
  split at hc
  ·rename_i f' x' y' hf hx hy
   cases hc
   exact rangeFunc_sound hcall hf hx hy he ro N M a w h hfr hT hro Q hQ
  ·cases hc
 | exit id =>
  simp [cCode] at hc
  subst hc
  simp [evC] at he
  obtain ⟨rfl, rfl⟩ := he
  exact wpIn_exit (hQ M a w ⟨hT, h, Fr.refl _ _ _ _, .refl _ _⟩)
 | label l =>
  simp [cCode] at hc
  subst hc
  simp [evC] at he
  obtain ⟨rfl, rfl⟩ := he
  exact wpIn_label (hQ M a w ⟨hT, h, Fr.refl _ _ _ _, .refl _ _⟩)
 | scope x =>
  simp [cCode] at hc
  obtain ⟨x', hx, rfl⟩ := hc
  simp only [evC] at he
  cases hev : evC Γ n x' s with
  | none => rw [hev] at he; simp at he
  | some r =>
   obtain ⟨e1, s1⟩ := r
   rw [hev] at he
   have he' : (e, s') = (e1, s1) := by
    cases e1 with
    | normal =>
     simp only at he
     cases n with
     | zero => simp [evC] at he
     | succ n => simp [evC] at he; obtain ⟨rfl, rfl⟩ := he; rfl
    | exit id => exact (Option.some.inj he).symm
    | ret => exact (Option.some.inj he).symm
   obtain ⟨rfl, rfl⟩ := Prod.mk.injEq .. ▸ he'
   intro b k cs hrb hb hr
   obtain ⟨ee, a2, w2, ⟨M2, hp, rfl⟩, harr⟩ := ih x x' s e s' hx hev ro N M a w h hfr hT hro (fun ee a' w' => ∃ M', Post P M s w a.defers s' M' a' w' ∧ ee = exitOf e) (fun M' a' w' hp => ⟨M', hp, rfl⟩) b (.inScope x :: k) cs hrb hb hr
   refine ⟨exitOf e, a2, w2, hQ M2 a2 w2 hp, .of_steps (.one (fenced_calm hb hr rfl) stepR_scope) ?_⟩
   cases e with
   | normal => exact StepsIn.trans harr (.one (fenced_calm hb hr rfl) stepR_inScope)
   | exit id =>
    have hx : exitTo id (.inScope x :: k) = exitTo id k := by simp [exitTo]
    exact ⟨fun k' hk => harr.1 k' (by rw [hx]; exact hk), fun hr' hk => harr.2 hr' (by rw [hx]; exact hk)⟩
   | ret => exact harr
 | ret =>
  simp [cCode] at hc
  subst hc
  simp [evC] at he
  obtain ⟨rfl, rfl⟩ := he
  exact wpIn_ret (hQ M a w ⟨hT, h, Fr.refl _ _ _ _, .refl _ _⟩)
 | _ => simp [cCode] at hc
theorem all_sound [Globs] (hΓ : EnvOk P Γ) (hD : DrawOk P) : ∀ n, (∀ m, m ≤ n → CodeOk P Γ m) ∧ CallOk P (fun f args m => evF Γ n f args m)
 | 0 => by
  refine ⟨fun m hm => ?_, fun f args m v m' he => by simp [evF] at he⟩
  have : m = 0 := by omega
  subst this
  intro c ir s e s' _ he
  simp [evC] at he
 | n + 1 => by
  obtain ⟨h1, h2⟩ := all_sound hΓ hD n
  refine ⟨fun m hm => ?_, call_sound hΓ (h1 n (Nat.le_refl _))⟩
  by_cases e : m = n + 1
  ·subst e; exact code_step hD (h1 n (Nat.le_refl _)) h1 h2
  ·exact h1 m (by omega)
end
end Go.Zz


namespace Go.Zz
def fo {κ V : Type} (u : Nat → κ → Option V) (f0 : κ → V) (D : Nat → Bool) : Nat → κ → V
 | 0, x => f0 x
 | n + 1, x => if D n then (u n x).getD (fo u f0 D n x) else fo u f0 D n x
def upto (k : Nat) : Nat → Bool := fun i => decide (i < k)
theorem fo_agree {κ V : Type} {u : Nat → κ → Option V} {f0 : κ → V} {D D' : Nat → Bool} {x : κ} : ∀ (n : Nat), (∀ i, i < n → (u i x).isSome = true → D i = D' i) → fo u f0 D n x = fo u f0 D' n x
 | 0, _ => rfl
 | n + 1, h => by
  have ih := fo_agree (f0 := f0) (x := x) n fun i hi => h i (by omega)
  simp only [fo, ih]
  cases hu : u n x with
  | none => simp
  | some v => rw [h n (by omega) (by simp [hu])]
theorem fo_upto {κ V : Type} {u : Nat → κ → Option V} {f0 : κ → V} {x : κ} {k : Nat} : ∀ (n : Nat), k ≤ n → fo u f0 (upto k) n x = fo u f0 (upto k) k x
 | 0, h => by rw [Nat.le_zero.1 h]
 | n + 1, h => by
  by_cases e : k = n + 1
  ·rw [e]
  ·rw [fo, if_neg (by simp [upto]; omega)]
   exact fo_upto n (by omega)
theorem fo_text {κ V : Type} {u : Nat → κ → Option V} {f0 : κ → V} {D : Nat → Bool} {x : κ} {n k : Nat} (hk : k ≤ n) (h : ∀ i, i < n → (u i x).isSome = true → (D i = true ↔ i < k)) : fo u f0 D n x = fo u f0 (upto k) k x := by
 rw [← fo_upto n hk]
 refine fo_agree n fun i hi hu => ?_
 have := h i hi hu
 cases hD : D i <;> simp_all [upto]
theorem fo_succ {κ V : Type} {u : Nat → κ → Option V} {f0 : κ → V} {x : κ} (k : Nat) : fo u f0 (upto (k + 1)) (k + 1) x = (u k x).getD (fo u f0 (upto k) k x) := by
 rw [fo, if_pos (by simp [upto]), fo_agree (D' := upto k) k fun i hi _ => by simp [upto]; omega]
inductive Fact (call : AV → List AV → Mem → Option (AV × Mem)) (seen : List (Hp × Nat × Nat)) (s s' : St) (sn : Hp × Nat × Nat) (d : DOper) : Prop
 | skip (hw : wantedI s.T d.o.guard = false) (e : s' = s.put d.o.dst und s.mem) (hn : sn = ([], 0, 0))
 | free (hw : wantedI s.T d.o.guard = true) (hf : freeOp d.o.op = true) (v : AV) (m' : Mem) (h : evOp call s.T s.mem d.o.op = some (v, m')) (e : s' = s.put d.o.dst v m') (hn : sn = ([], 0, 0))
 | op (hw : wantedI s.T d.o.guard = true) (hf : freeOp d.o.op = false) (v : AV) (m' : Mem) (h : evOp call s.T ⟨limit s.T d.o.op (strikes s.heap seen d.ms), s.loops⟩ d.o.op = some (v, m'))
   (hd : stillDead (limit s.T d.o.op (strikes s.heap seen d.ms)) m'.heap = true) (e : s' = s.put d.o.dst v ⟨back s.heap (limit s.T d.o.op (strikes s.heap seen d.ms)) m'.heap, m'.loops⟩)
   (hn : sn = (limit s.T d.o.op (strikes s.heap seen d.ms), s.heap.length, m'.heap.length))
def seenOf (sn : Nat → Hp × Nat × Nat) (k : Nat) : List (Hp × Nat × Nat) := (List.range k).map sn
def consT {α : Type} (s : α) (tx : Nat → α) : Nat → α
 | 0 => s
 | k + 1 => tx k
theorem seen_cons (x : Hp × Nat × Nat) (sn : Nat → Hp × Nat × Nat) (k : Nat) : seenOf (consT x sn) (k + 1) = x :: seenOf sn k := by
 unfold seenOf
 rw [List.range_succ_eq_map]
 simp [consT, Function.comp_def]
theorem draw_trace {call : AV → List AV → Mem → Option (AV × Mem)} : ∀ (ops : List DOper) (s s' : St) (seen : List (Hp × Nat × Nat)), evDraw call ops s seen = some s' →
  ∃ (tx : Nat → St) (sn : Nat → Hp × Nat × Nat), tx 0 = s ∧ tx ops.length = s' ∧ ∀ k d, ops[k]? = some d → Fact call (seen ++ seenOf sn k) (tx k) (tx (k + 1)) (sn k) d
 | [], s, s', seen, h => by
  simp [evDraw] at h
  exact ⟨fun _ => s, fun _ => ([], 0, 0), rfl, h, by simp⟩
 | d :: r, s, s', seen, h => by
  have fin : ∀ (s1 : St) (x : Hp × Nat × Nat), evDraw call r s1 (seen ++ [x]) = some s' → Fact call seen s s1 x d →
    ∃ (tx : Nat → St) (sn : Nat → Hp × Nat × Nat), tx 0 = s ∧ tx (d :: r).length = s' ∧ ∀ k e, (d :: r)[k]? = some e → Fact call (seen ++ seenOf sn k) (tx k) (tx (k + 1)) (sn k) e := by
   intro s1 x h1 hf
   obtain ⟨tx, sn, t0, t1, t2⟩ := draw_trace r s1 s' _ h1
   refine ⟨consT s tx, consT x sn, rfl, t1, fun k e he => ?_⟩
   cases k with
   | zero =>
    simp at he
    subst he
    show Fact call _ s (tx 0) x d
    rw [t0]
    simpa [seenOf] using hf
   | succ k =>
    have := t2 k e (by simpa using he)
    rw [seen_cons]
    rw [List.append_assoc, List.singleton_append] at this
    exact this
  simp only [evDraw] at h
  split at h
  ·rename_i hw
   split at h
   ·rename_i hf
    split at h
    ·rename_i v m' hv
     exact fin _ _ h (.free hw hf v m' hv rfl rfl)
    ·cases h
   ·rename_i hf
    split at h
    ·rename_i v m' hv
     split at h
     ·rename_i hd
      exact fin _ _ h (.op hw (by simpa using hf) v m' hv hd rfl rfl)
     ·cases h
    ·cases h
  ·rename_i hw
   exact fin _ _ h (.skip (by simpa using hw) rfl rfl)
def Part (H' H : Hp) : Prop := H'.length = H.length ∧ ∀ (id : Nat) (b : Blk), H'[id]? = some (some b) → H[id]? = some (some b)
theorem Part.refl (H : Hp) : Part H H := ⟨rfl, fun _ _ h => h⟩
theorem Part.trans {A B C : Hp} (h : Part A B) (k : Part B C) : Part A C := ⟨h.1.trans k.1, fun id b x => k.2 id b (h.2 id b x)⟩
theorem blanks_part (H : Hp) : Part (blanks H) H := by
 refine ⟨by simp [blanks], fun id b h => ?_⟩
 simp [blanks] at h
theorem onlyAt_part : ∀ (H : Hp) (i : Nat), Part (onlyAt H i) H
 | [], i => by cases i <;> exact ⟨rfl, fun _ _ h => by simp [onlyAt] at h⟩
 | h :: H, 0 => by
  refine ⟨by simp [onlyAt, blanks], fun id b hb => ?_⟩
  cases id with
  | zero => simpa [onlyAt] using hb
  | succ id => simp [onlyAt, blanks] at hb
 | h :: H, i + 1 => by
  obtain ⟨e1, e2⟩ := onlyAt_part H i
  refine ⟨by simp [onlyAt, e1], fun id b hb => ?_⟩
  cases id with
  | zero => simp [onlyAt] at hb
  | succ id => simpa using e2 id b (by simpa [onlyAt] using hb)
theorem limit_part (T : List AV) (op : IOp) (H : Hp) : Part (limit T op H) H := by
 unfold limit
 split
 ·split
  ·exact onlyAt_part _ _
  ·exact blanks_part _
 ·split
  ·exact onlyAt_part _ _
  ·exact blanks_part _
 ·split
  ·exact onlyAt_part _ _
  ·exact blanks_part _
 ·split
  ·exact blanks_part _
  ·split
   ·exact onlyAt_part _ _
   ·exact blanks_part _
 ·exact blanks_part _
 ·exact blanks_part _
 ·exact blanks_part _
 ·exact blanks_part _
 ·exact Part.refl _
theorem strikeV_spec : ∀ (H V : Hp), Part (strikeV H V) H ∧ ∀ (id : Nat) (b : Blk), (strikeV H V)[id]? = some (some b) → ∀ x : Blk, V[id]? ≠ some (some x)
 | [], V => by cases V <;> exact ⟨⟨rfl, fun _ _ h => by simp [strikeV] at h⟩, fun _ _ h => by simp [strikeV] at h⟩
 | h :: H, [] => ⟨by simp only [strikeV]; exact Part.refl _, fun _ _ _ x hx => by simp at hx⟩
 | h :: H, some v :: V => by
  obtain ⟨⟨e1, e2⟩, e3⟩ := strikeV_spec H V
  refine ⟨⟨by simp [strikeV, e1], fun id b hb => ?_⟩, fun id b hb => ?_⟩
  ·cases id with
   | zero => simp [strikeV] at hb
   | succ id => simpa using e2 id b (by simpa [strikeV] using hb)
  ·cases id with
   | zero => simp [strikeV] at hb
   | succ id => simpa using e3 id b (by simpa [strikeV] using hb)
 | h :: H, none :: V => by
  obtain ⟨⟨e1, e2⟩, e3⟩ := strikeV_spec H V
  refine ⟨⟨by simp [strikeV, e1], fun id b hb => ?_⟩, fun id b hb => ?_⟩
  ·cases id with
   | zero => simpa [strikeV] using hb
   | succ id => simpa using e2 id b (by simpa [strikeV] using hb)
  ·cases id with
   | zero => simp
   | succ id => simpa using e3 id b (by simpa [strikeV] using hb)
theorem strike_spec {H : Hp} {a b : Nat} (h2 : b ≤ H.length) : Part (strike H a b) H ∧ ∀ (id : Nat) (x : Blk), (strike H a b)[id]? = some (some x) → ¬ (a ≤ id ∧ id < b) := by
 unfold strike
 split
 ·rename_i hab
  have get : ∀ id : Nat, (H.take a ++ List.replicate (b - a) none ++ H.drop b)[id]? = if a ≤ id ∧ id < b then some none else H[id]? := by
   intro id
   by_cases c1 : id < a
   ·rw [List.append_assoc, List.getElem?_append_left (by simp; omega), List.getElem?_take, if_pos c1, if_neg (by omega)]
   ·by_cases c2 : id < b
    ·rw [List.append_assoc, List.getElem?_append_right (by simp; omega), List.getElem?_append_left (by simp; omega), if_pos (by omega), List.getElem?_replicate, if_pos (by simp; omega)]
    ·rw [List.getElem?_append_right (by simp; omega), if_neg (by omega), List.getElem?_drop]
     congr 1
     simp
     omega
  refine ⟨⟨by simp; omega, fun id x h => ?_⟩, fun id x h => ?_⟩
  ·rw [get] at h
   split at h
   ·cases h
   ·exact h
  ·rw [get] at h
   split at h
   ·cases h
   ·assumption
 ·exact ⟨Part.refl _, fun id x _ => by omega⟩
theorem strikes_spec {seen : List (Hp × Nat × Nat)} : ∀ (ms : List Nat) (H : Hp), (∀ (i : Nat) (V : Hp) (a b : Nat), seen[i]? = some (V, a, b) → b ≤ H.length) →
  Part (strikes H seen ms) H ∧ ∀ (id : Nat) (x : Blk), (strikes H seen ms)[id]? = some (some x) → ∀ i ∈ ms, ∀ V a b, seen[i]? = some (V, a, b) → ¬ (a ≤ id ∧ id < b) ∧ ∀ y : Blk, V[id]? ≠ some (some y)
 | [], H, _ => ⟨Part.refl _, fun id x _ => by simp⟩
 | i :: ms, H, hm => by
  cases hi : seen[i]? with
  | none =>
   have e : strikes H seen (i :: ms) = strikes H seen ms := by simp [strikes, hi]
   rw [e]
   obtain ⟨g1, g2⟩ := strikes_spec ms H hm
   refine ⟨g1, fun id x h j hj V a b hab => ?_⟩
   rcases List.mem_cons.1 hj with rfl | hj
   ·rw [hi] at hab; cases hab
   ·exact g2 id x h j hj V a b hab
  | some q =>
   obtain ⟨V, a, b⟩ := q
   have e : strikes H seen (i :: ms) = strikes (strikeV (strike H a b) V) seen ms := by simp [strikes, hi]
   rw [e]
   obtain ⟨p1, p2⟩ := strike_spec (a := a) (hm i V a b hi)
   obtain ⟨q1, q2⟩ := strikeV_spec (strike H a b) V
   obtain ⟨g1, g2⟩ := strikes_spec (seen := seen) ms (strikeV (strike H a b) V) (fun (i : Nat) V a b h => by rw [q1.1, p1.1]; exact hm i V a b h)
   refine ⟨g1.trans (q1.trans p1), fun id x h j hj V2 a2 b2 hab => ?_⟩
   rcases List.mem_cons.1 hj with rfl | hj
   ·rw [hi] at hab; cases hab
    have h1 := g1.2 id x h
    exact ⟨p2 id x (q1.2 id x h1), q2 id x h1⟩
   ·exact g2 id x h j hj V2 a2 b2 hab
theorem back_get : ∀ (H V H' : Hp), V.length = H.length → H.length ≤ H'.length → (back H V H').length = H'.length ∧ ∀ id, (back H V H')[id]? = if id < H.length then (if (V[id]?).join.isSome then H'[id]? else H[id]?) else H'[id]?
 | [], V, H', _, _ => by cases V <;> simp [back]
 | h :: H, [], H', e, _ => by simp at e
 | h :: H, v :: V, [], _, hl => by simp at hl
 | h :: H, v :: V, h' :: H', e, hl => by
  obtain ⟨g1, g2⟩ := back_get H V H' (by simpa using e) (by simpa using hl)
  refine ⟨by simp [back, g1], fun id => ?_⟩
  cases id with
  | zero => cases v <;> simp [back]
  | succ id => simpa [back] using g2 id
theorem stillDead_spec : ∀ (V H' : Hp), stillDead V H' = true → V.length ≤ H'.length ∧ ∀ (id : Nat) (x : Blk), id < V.length → H'[id]? = some (some x) → ∃ y : Blk, V[id]? = some (some y)
 | [], H', _ => ⟨by simp, fun id x h => by simp at h⟩
 | none :: V, none :: H', h => by
  obtain ⟨g1, g2⟩ := stillDead_spec V H' (by simpa [stillDead] using h)
  refine ⟨by simpa using g1, fun id x hlt hx => ?_⟩
  cases id with
  | zero => simp at hx
  | succ id => simpa using g2 id x (by simpa using hlt) (by simpa using hx)
 | some v :: V, h' :: H', h => by
  obtain ⟨g1, g2⟩ := stillDead_spec V H' (by simpa [stillDead] using h)
  refine ⟨by simpa using g1, fun id x hlt hx => ?_⟩
  cases id with
  | zero => exact ⟨v, rfl⟩
  | succ id => simpa using g2 id x (by simpa using hlt) (by simpa using hx)
 | none :: V, some h' :: H', h => by simp [stillDead] at h
 | none :: V, [], h => by simp [stillDead] at h
 | some v :: V, [], h => by simp [stillDead] at h
theorem ev_congr {T T' : List AV} {x : Opd} (h : ∀ t ∈ x.slots, gt T t = gt T' t) : x.ev T = x.ev T' := by
 cases x with
 | tmp t => exact h t (by simp [Opd.slots])
 | con v => rfl
theorem evO_congr {T T' : List AV} {x : Option Opd} (h : ∀ t ∈ slotsO x, gt T t = gt T' t) : x.map (·.ev T) = x.map (·.ev T') := by
 cases x with
 | none => rfl
 | some x => simp [ev_congr (x := x) (T := T) (T' := T') (by simpa [slotsO] using h)]
theorem evL_congr {T T' : List AV} : ∀ {xs : List Opd}, (∀ t ∈ slotsL xs, gt T t = gt T' t) → xs.map (·.ev T) = xs.map (·.ev T')
 | [], _ => rfl
 | x :: r, h => by
  simp only [slotsL, List.mem_append] at h
  simp [ev_congr (x := x) fun t ht => h t (.inl ht), evL_congr (xs := r) fun t ht => h t (.inr ht)]
theorem fillP_congr {T T' : List AV} : ∀ {ps : List (Nat × Nat × Opd)} {cs : List AV}, (∀ t ∈ slotsP ps, gt T t = gt T' t) → fillP T cs ps = fillP T' cs ps
 | [], _, _ => rfl
 | (o, s, x) :: r, cs, h => by
  simp only [slotsP, List.mem_append] at h
  simp only [fillP, ev_congr (x := x) fun t ht => h t (.inl ht)]
  cases (x.ev T').cells with
  | none => rfl
  | some c =>
   simp only [Option.bind_eq_bind, Option.bind_some]
   split
   ·cases over cs o c with
    | none => rfl
    | some cs' => exact fillP_congr fun t ht => h t (.inr ht)
   ·rfl
theorem evOp_congr {call : AV → List AV → Mem → Option (AV × Mem)} {T T' : List AV} {m : Mem} {op : IOp} (h : ∀ t ∈ op.slots, gt T t = gt T' t) : evOp call T m op = evOp call T' m op := by
 cases op <;> simp only [IOp.slots, List.mem_append] at h <;> simp only [evOp]
 case move x => rw [ev_congr (x := x) h]
 case pick c a b => rw [ev_congr (x := c) fun t ht => h t (.inl ht), ev_congr (x := a) fun t ht => h t (.inr (.inl ht)), ev_congr (x := b) fun t ht => h t (.inr (.inr ht))]
 case build z ps => rw [fillP_congr h]
 case buildSlice n s z ps => rw [fillP_congr h]
 case makeFunc f a b => rw [evL_congr (xs := a) fun t ht => h t (.inl ht), evL_congr (xs := b) fun t ht => h t (.inr ht)]
 case slice s x lo hi mx =>
  rw [ev_congr (x := x) fun t ht => h t (.inl ht), evO_congr (x := lo) fun t ht => h t (.inr (.inl ht)), evO_congr (x := hi) fun t ht => h t (.inr (.inr (.inl ht))), evO_congr (x := mx) fun t ht => h t (.inr (.inr (.inr ht)))]
 case sliceArr n s x lo hi mx =>
  rw [ev_congr (x := x) fun t ht => h t (.inl ht), evO_congr (x := lo) fun t ht => h t (.inr (.inl ht)), evO_congr (x := hi) fun t ht => h t (.inr (.inr (.inl ht))), evO_congr (x := mx) fun t ht => h t (.inr (.inr (.inr ht)))]
 case minmax b xs => rw [evL_congr (xs := xs) h]
 case strOp k xs => rw [evL_congr (xs := xs) h]
 case mkIf t x => rw [ev_congr (x := x) h]
 case ifNil g x => rw [ev_congr (x := x) h]
 case call f args => rw [ev_congr (x := f) fun t ht => h t (.inl ht), evL_congr (xs := args) fun t ht => h t (.inr ht)]
 case box x => rw [ev_congr (x := x) h]
 case nilCheck x => rw [ev_congr (x := x) h]
 case un o x => rw [ev_congr (x := x) h]
 case conv o x => rw [ev_congr (x := x) h]
 case fieldAddr o x => rw [ev_congr (x := x) h]
 case field a o s x => rw [ev_congr (x := x) h]
 case extract x i => rw [ev_congr (x := x) h]
 case lenS x => rw [ev_congr (x := x) h]
 case capS x => rw [ev_congr (x := x) h]
 case clear s z x => rw [ev_congr (x := x) h]
 case load a s x => rw [ev_congr (x := x) h]
 case store s x y => rw [ev_congr (x := x) fun t ht => h t (.inl ht), ev_congr (x := y) fun t ht => h t (.inr ht)]
 case bin s x y => rw [ev_congr (x := x) fun t ht => h t (.inl ht), ev_congr (x := y) fun t ht => h t (.inr ht)]
 case beq s x y => rw [ev_congr (x := x) fun t ht => h t (.inl ht), ev_congr (x := y) fun t ht => h t (.inr ht)]
 case aggEq s g x y => rw [ev_congr (x := x) fun t ht => h t (.inl ht), ev_congr (x := y) fun t ht => h t (.inr ht)]
 case nilEq s g x y => rw [ev_congr (x := x) fun t ht => h t (.inl ht), ev_congr (x := y) fun t ht => h t (.inr ht)]
 case makeSlice s b z x y => rw [ev_congr (x := x) fun t ht => h t (.inl ht), ev_congr (x := y) fun t ht => h t (.inr ht)]
 case indexAddr s x y => rw [ev_congr (x := x) fun t ht => h t (.inl ht), ev_congr (x := y) fun t ht => h t (.inr ht)]
 case indexAddrArr n s x y => rw [ev_congr (x := x) fun t ht => h t (.inl ht), ev_congr (x := y) fun t ht => h t (.inr ht)]
 case index n a s x y => rw [ev_congr (x := x) fun t ht => h t (.inl ht), ev_congr (x := y) fun t ht => h t (.inr ht)]
 case append s b x y => rw [ev_congr (x := x) fun t ht => h t (.inl ht), ev_congr (x := y) fun t ht => h t (.inr ht)]
 case appendZ s b z x y => rw [ev_congr (x := x) fun t ht => h t (.inl ht), ev_congr (x := y) fun t ht => h t (.inr ht)]
 case copy s x y => rw [ev_congr (x := x) fun t ht => h t (.inl ht), ev_congr (x := y) fun t ht => h t (.inr ht)]
 case mapSet kd x k v => rw [ev_congr (x := x) fun t ht => h t (.inl ht), ev_congr (x := k) fun t ht => h t (.inr (.inl ht)), ev_congr (x := v) fun t ht => h t (.inr (.inr ht))]
 case mapGet kd ok z x k => rw [ev_congr (x := x) fun t ht => h t (.inl ht), ev_congr (x := k) fun t ht => h t (.inr ht)]
 case lenM x => rw [ev_congr (x := x) h]
theorem wanted_congr {T T' : List AV} {g : Option (Nat × Bool)} (h : ∀ t b, g = some (t, b) → gt T t = gt T' t) : wantedI T g = wantedI T' g := by
 cases g with
 | none => rfl
 | some tb => simp only [wantedI, h _ _ rfl]
theorem free_any {call call' : AV → List AV → Mem → Option (AV × Mem)} {T : List AV} {m m' : Mem} {op : IOp} {v : AV} (hf : freeOp op = true) (h : evOp call T m op = some (v, m')) : m' = m ∧ ∀ m2, evOp call' T m2 op = some (v, m2) := by
 cases op <;> simp [freeOp] at hf <;> simp only [evOp] at h ⊢
 case beq n x y =>
  split at h
  ·simp at h; obtain ⟨rfl, rfl⟩ := h; exact ⟨rfl, fun m2 => by simp_all⟩
  ·cases h
 case pick c a b =>
  split at h
  ·simp at h; obtain ⟨rfl, rfl⟩ := h; exact ⟨rfl, fun m2 => by simp_all⟩
  ·cases h
 case aggEq n sg x y =>
  split at h
  ·rename_i ha hb
   simp only [Option.map_eq_some_iff, Prod.mk.injEq] at h
   obtain ⟨r, hr, rfl, rfl⟩ := h
   exact ⟨rfl, fun m2 => by simp [ha, hb, hr]⟩
  ·cases h
 case conv k x =>
  split at h
  ·simp at h; obtain ⟨rfl, rfl⟩ := h; exact ⟨rfl, fun m2 => by simp_all⟩
  ·cases h
 case field a o s x =>
  split at h
  ·rename_i hx
   simp only [Option.map_eq_some_iff, Prod.mk.injEq] at h
   obtain ⟨r, hr, rfl, rfl⟩ := h
   exact ⟨rfl, fun m2 => by simp [hx, hr]⟩
  ·cases h
 case indexAddrArr n s x i =>
  simp only [Option.bind_eq_some_iff, Option.map_eq_some_iff, Prod.mk.injEq] at h
  obtain ⟨j, hj, r, hr, rfl, rfl⟩ := h
  exact ⟨rfl, fun m2 => by simp [hj, hr]⟩
 case index n a s x i =>
  split at h
  ·rename_i hx
   simp only [Option.bind_eq_some_iff, Option.map_eq_some_iff, Prod.mk.injEq] at h
   obtain ⟨j, hj, r, hr, rfl, rfl⟩ := h
   exact ⟨rfl, fun m2 => by simp [hx, hj, hr]⟩
  ·cases h
 case lenS x =>
  cases hx : slen (x.ev T) with
  | none => simp [hx] at h
  | some n =>
   simp [hx] at h
   exact ⟨h.2.symm, fun m2 => by simp [h.1]⟩
 case extract x i =>
  split at h
  ·rename_i hx
   simp only [Option.map_eq_some_iff, Prod.mk.injEq] at h
   obtain ⟨r, hr, rfl, rfl⟩ := h
   exact ⟨rfl, fun m2 => by simp [hx, hr]⟩
  ·cases h
 all_goals first
  | (simp only [Option.some.injEq, Prod.mk.injEq] at h; obtain ⟨rfl, rfl⟩ := h; exact ⟨rfl, fun m2 => rfl⟩)
  | (simp only [Option.map_eq_some_iff, Prod.mk.injEq] at h; obtain ⟨r, hr, rfl, rfl⟩ := h; exact ⟨rfl, fun m2 => by simp [hr]⟩)
theorem evOp_loops {call : AV → List AV → Mem → Option (AV × Mem)} {T : List AV} {m m' : Mem} {op : IOp} {v : AV} (hc : isCall op = false) (h : evOp call T m op = some (v, m')) :
  m'.loops = m.loops ∧ ∀ (call' : AV → List AV → Mem → Option (AV × Mem)) (L : List (Option ALoop)), evOp call' T ⟨m.heap, L⟩ op = some (v, ⟨m'.heap, L⟩) := by
 by_cases hf : freeOp op = true
 ·have := (free_any (call' := call) hf h).1
  subst this
  exact ⟨rfl, fun call' L => (free_any (call' := call') hf h).2 _⟩
 cases op <;> simp [freeOp] at hf <;> simp [isCall] at hc <;> simp only [evOp] at h ⊢
 case alloc z =>
  simp only [Option.some.injEq, Prod.mk.injEq] at h
  obtain ⟨rfl, rfl⟩ := h
  exact ⟨rfl, fun _ _ => rfl⟩
 case box x =>
  simp only [Option.map_eq_some_iff, Prod.mk.injEq] at h
  obtain ⟨c, hx, rfl, rfl⟩ := h
  exact ⟨rfl, fun _ _ => by simp [hx, newBlk]⟩
 case buildSlice n s z ps =>
  simp only [Option.map_eq_some_iff, Prod.mk.injEq] at h
  obtain ⟨c, hx, rfl, rfl⟩ := h
  exact ⟨rfl, fun _ _ => by simp [hx, newBlk]⟩
 case load a s x =>
  simp only [Option.map_eq_some_iff, Prod.mk.injEq] at h
  obtain ⟨c, hx, rfl, rfl⟩ := h
  exact ⟨rfl, fun _ _ => by simp [hx]⟩
 case sliceArr n s x lo hi mx =>
  simp only [Option.map_eq_some_iff, Prod.mk.injEq] at h
  obtain ⟨c, hx, rfl, rfl⟩ := h
  exact ⟨rfl, fun _ _ => by simp [hx]⟩
 case slice s x lo hi mx =>
  simp only [Option.map_eq_some_iff, Prod.mk.injEq] at h
  obtain ⟨c, hx, rfl, rfl⟩ := h
  exact ⟨rfl, fun _ _ => by simp [hx]⟩
 case makeSlice s b z l c =>
  split at h
  ·rename_i hl hc
   split at h
   ·rename_i hcond
    simp only [Option.some.injEq, Prod.mk.injEq] at h
    obtain ⟨rfl, rfl⟩ := h
    exact ⟨rfl, fun _ _ => by rw [if_pos hcond]; rfl⟩
   ·cases h
  ·cases h
 case store size a x =>
  split at h
  ·rename_i id g off ha
   simp only [Option.bind_eq_some_iff] at h
   obtain ⟨c, hc, h⟩ := h
   split at h
   ·rename_i hs
    simp only [Option.map_eq_some_iff, Prod.mk.injEq] at h
    obtain ⟨H, hH, rfl, rfl⟩ := h
    exact ⟨rfl, fun _ _ => by simp [hc, hs, hH]⟩
   ·cases h
  ·cases h
 case appendZ s b z x y =>
  revert h
  unfold appendZAV
  generalize x.ev T = xs
  generalize y.ev T = ys
  intro h
  split at h
  ·split at h
   ·rename_i hcond
    simp only [Option.some.injEq, Prod.mk.injEq] at h
    obtain ⟨rfl, rfl⟩ := h
    exact ⟨rfl, fun _ _ => by simp only [if_pos hcond]; rfl⟩
   ·cases h
  ·cases h
 case append s b x y =>
  revert h
  unfold appendAV
  generalize x.ev T = xs
  generalize y.ev T = ys
  intro h
  simp only [Option.bind_eq_bind, Option.bind_eq_some_iff] at h
  obtain ⟨c, hc, n, hn, h⟩ := h
  simp only [hc, hn, Option.bind_eq_bind, Option.bind_some]
  split at h
  ·split at h
   ·simp at h; obtain ⟨rfl, rfl⟩ := h; refine ⟨rfl, fun _ _ => by simp_all⟩
   ·split at h
    ·simp at h; obtain ⟨rfl, rfl⟩ := h; refine ⟨rfl, fun _ _ => by simp_all [newBlk]⟩
    ·cases h
  ·split at h
   ·simp at h; obtain ⟨rfl, rfl⟩ := h; refine ⟨rfl, fun _ _ => by simp_all⟩
   ·split at h
    ·simp at h; obtain ⟨rfl, rfl⟩ := h; refine ⟨rfl, fun _ _ => by simp_all [newBlk]⟩
    ·cases h
  ·split at h
   ·rename_i hsz
    simp only [Option.bind_eq_some_iff] at h
    obtain ⟨l, hl, old, ho, h⟩ := h
    split at h
    ·split at h
     ·rename_i hle
      simp only [Option.bind_eq_some_iff, Option.some.injEq, Prod.mk.injEq] at h
      obtain ⟨H, hH, rfl, rfl⟩ := h
      exact ⟨rfl, fun _ _ => by simp [hsz, hl, ho, hle, hH]⟩
     ·rename_i hle
      split at h
      ·rename_i hb
       simp only [Option.some.injEq, Prod.mk.injEq] at h
       obtain ⟨rfl, rfl⟩ := h
       exact ⟨rfl, fun _ _ => by simp only [hsz, hl, ho, if_true, Option.bind_some, if_neg hle, if_pos hb]; rfl⟩
      ·cases h
    ·split at h
     ·rename_i hle
      simp only [Option.bind_eq_some_iff, Option.some.injEq, Prod.mk.injEq] at h
      obtain ⟨H, hH, rfl, rfl⟩ := h
      exact ⟨rfl, fun _ _ => by simp [hsz, hl, ho, hle, hH]⟩
     ·rename_i hle
      split at h
      ·rename_i hb
       simp only [Option.some.injEq, Prod.mk.injEq] at h
       obtain ⟨rfl, rfl⟩ := h
       exact ⟨rfl, fun _ _ => by simp only [hsz, hl, ho, if_true, Option.bind_some, if_neg hle, if_pos hb]⟩
      ·cases h
   ·cases h
  ·cases h
 case copy s d x =>
  revert h
  unfold copyAV
  generalize d.ev T = ds
  generalize x.ev T = xs
  intro h
  simp only [Option.bind_eq_bind, Option.bind_eq_some_iff] at h
  obtain ⟨c, hc, n, hn, h⟩ := h
  simp only [hc, hn, Option.bind_eq_bind, Option.bind_some]
  split at h
  ·simp at h; obtain ⟨rfl, rfl⟩ := h; exact ⟨rfl, fun _ _ => by simp⟩
  ·split at h
   ·rename_i hsz
    simp only [Option.bind_eq_some_iff, Option.some.injEq, Prod.mk.injEq] at h
    obtain ⟨H, hH, rfl, rfl⟩ := h
    exact ⟨rfl, fun _ _ => by simp [hsz, hH]⟩
   ·cases h
  ·cases h
 case clear s z x =>
  revert h
  unfold clearAV
  generalize x.ev T = xs
  intro h
  simp only [Option.map_eq_some_iff, Prod.mk.injEq] at h
  obtain ⟨m2, hm, rfl, rfl⟩ := h
  split at hm
  ·cases hm; exact ⟨rfl, fun _ _ => by simp⟩
  ·cases hm; exact ⟨rfl, fun _ _ => by simp⟩
  ·split at hm
   ·rename_i h0
    cases hm; exact ⟨rfl, fun _ _ => by simp [h0]⟩
   ·rename_i h0
    simp only [Option.map_eq_some_iff] at hm
    obtain ⟨H, hH, rfl⟩ := hm
    exact ⟨rfl, fun _ _ => by simp [h0, hH]⟩
  ·cases hm
theorem read_still {call : AV → List AV → Mem → Option (AV × Mem)} {T : List AV} {m m' : Mem} {op : IOp} {v : AV} (hr : readOp op = true) (h : evOp call T m op = some (v, m')) : m' = m := by
 cases op <;> simp [readOp] at hr <;> simp only [evOp, Option.map_eq_some_iff, Prod.mk.injEq] at h <;> (obtain ⟨_, _, _, rfl⟩ := h; rfl)
theorem none_made {call : AV → List AV → Mem → Option (AV × Mem)} {T : List AV} {m m' : Mem} {op : IOp} {v : AV} (hr : makesNone op = true) (h : evOp call T m op = some (v, m')) : m'.heap.length = m.heap.length := by
 by_cases hf : freeOp op = true
 ·rw [(free_any (call' := call) hf h).1]
 by_cases hd : readOp op = true
 ·rw [read_still hd h]
 cases op <;> simp [makesNone, freeOp] at hr <;> simp [freeOp] at hf <;> simp [readOp] at hd
 simp only [evOp] at h
 split at h
 ·simp only [Option.bind_eq_some_iff] at h
  obtain ⟨c, hc, h⟩ := h
  split at h
  ·simp only [Option.map_eq_some_iff, Prod.mk.injEq, storeAt, Option.bind_eq_bind, Option.bind_eq_some_iff, Option.some.injEq] at h
   obtain ⟨H, ⟨l, _, l', _, rfl⟩, _, rfl⟩ := h
   simp [setBlk]
  ·cases h
 ·cases h
end Go.Zz

