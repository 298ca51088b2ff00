/-
  Code: Part 3: whole codes, whole calls.
-/
import Derived.Test.YtpddngcgajjacaaAbs12
namespace Go.Zz

/-- An answer for a whole call does what the function does. -/
def SpecOk (P : Program) (g : Nat) (S : List AV → Mem → Option (AV × Mem)) : Prop :=
  Callable P g ∧ ∀ args m v m', S args m = some (v, m') → ∀ N M w cargs, RVs M args cargs → Holds P M m.heap m.loops w → Fresh M m.heap m.loops →
    CallsIn (fen none) N P g cargs w (Ret fun cv w' => ∃ M', RV M' v cv ∧ Holds P M' m'.heap m'.loops w' ∧ Fr M m.heap m.loops w M' m'.heap m'.loops w')

structure EnvOk (P : Program) (Γ : Env) : Prop where
  fn : ∀ g ifn, Γ.fn g = some ifn → ∃ fn, P.funcs[g]? = some fn ∧ cFunc P fn = some ifn
  spec : ∀ g S, Γ.spec g = some S → SpecOk P g S

/-- What a drawn region does (ZzDraw). -/
def DrawOk (P : Program) : Prop := ∀ (call : AV → List AV → Mem → Option (AV × Mem)), CallOk P call → ∀ id ops dops, cCode P (.region id ops true) = some (.draw dops) → ∀ s s', evDraw call dops s [] = some s' →
  ∀ ro N M a w, Holds P M s.heap s.loops w → Fresh M s.heap s.loops → RT M s.T a → ∀ Q : Exit → Act → World → Prop, (∀ M' a' w', Post P M s w a.defers s' M' a' w' → Q .normal a' w') → (Code.region id ops true).wpIn (fen ro) N P Q a w

def CodeOk (P : Program) (Γ : Env) (n : Nat) : Prop := ∀ c ir s e s', cCode P c = some ir → evC Γ n ir s = some (e, s') → ∀ ro N M a w, Holds P M s.heap s.loops w → Fresh M s.heap s.loops → RT M s.T a → InRound ro w →
  ∀ Q : Exit → Act → World → Prop, (∀ M' a' w', Post P M s w a.defers s' M' a' w' → Q (exitOf e) a' w') → c.wpIn (fen ro) N P Q a w

section
variable {P : Program} {Γ : Env}

theorem leavesM {n : Nat} {fn : Func} {tmps : Array Value} {R : Ending → World → Prop} {M0 M : Mp} {H0 H : Hp} {L0 L : List (Option ALoop)} {w0 : World} : ∀ (rs : List Nat) (w : World), rs.Nodup → (∀ r ∈ rs, w0.heap.size ≤ r ∧ w.heap[r]? = some (.deferred (some []))) →
    Holds P M H L w → Fr M0 H0 L0 w0 M H L w → (∀ w', Holds P M H L w' → Fr M0 H0 L0 w0 M H L w' → ∃ v, (results fn tmps).run P w' = .ok v w' ∧ R (.returned v) w') →
    LeavesInM (fen none) n P fn tmps R (rs.map fun r => { target := .collected r, args := #[] }) .returning w
  | [], w, _, _, h, k, hfin => by
    simp only [List.map_nil, LeavesInM, LeavesIn]
    exact hfin w h k
  | r :: rs, w, hn, hr, h, k, hfin => by
    simp only [List.map_cons, LeavesInM]
    obtain ⟨h1, h2⟩ := hr r (by simp)
    obtain ⟨g1, g2⟩ := shutD (d' := none) h k h2 h1
    refine ⟨by simp, .inl ⟨r, _, rfl, run_takeDeferred h2, ?_⟩⟩
    rw [List.nodup_cons] at hn
    refine leavesM rs _ hn.2 (fun r' hr' => ?_) g1 g2 hfin
    obtain ⟨a1, a2⟩ := hr r' (by simp [hr'])
    refine ⟨a1, (World.putObj_heap_other ?_).trans a2⟩
    rintro rfl
    exact hn.1 hr'

theorem cFunc_eq {fn : Func} {ifn : IFunc} (h : cFunc P fn = some ifn) : ∃ c, fn.body = some c ∧ cCode P c = some ifn.body ∧ cRes P fn.results.toList = some ifn.results ∧ ifn.ntmps = fn.ntmps ∧ fn.name ≠ "runtime.NumGoroutine" := by
  unfold cFunc at h
  split at h
  · rename_i c hb
    split at h
    · rename_i b rs hc hr
      split at h
      · cases h
      · rename_i hn
        cases h
        exact ⟨c, hb, hc, hr, rfl, by simpa using hn⟩
    · cases h
  · cases h

theorem loop_fields {r : ALoop} {q : Loop} {M : Mp} {w : World} {l : Nat} (h : HL P M w l r) (hq : w.heap[l]? = some (.loop q)) : RVs M r.tmps q.tmps ∧ r.params = q.params.toList ∧ cCode P q.assign = some r.assign ∧ cCode P q.body = some r.body ∧
    (r.ready = true → q.state = .ready ∧ r.pending = none ∧ q.pending = none) ∧ (r.ready = false → r.pending = none → q.state = .busy) ∧ (r.pending = some .ret → q.state = .done ∧ q.pending = some .ret) ∧ (∀ id, r.pending = some (.exit id) → q.state = .done ∧ q.pending = some (.exit id)) ∧ r.pending ≠ some .normal := by
  obtain ⟨q', h1, h2, h3, h4, h5, h6⟩ := h.obj
  rw [hq] at h1
  cases h1
  refine ⟨h2, h3, h4, h5, ?_⟩
  cases hr : r.ready <;> cases hp : r.pending with
  | none => rw [hr, hp] at h6; simp_all
  | some e => cases e <;> rw [hr, hp] at h6 <;> simp_all

/-- **A CALL, OUT OF THE BODIES.** -/
theorem call_sound (hΓ : EnvOk P Γ) {n : Nat} (ih : CodeOk P Γ n) : CallOk P (fun f args m => evF Γ (n + 1) f args m) := by
  intro f args m v m' he N M w fv cargs hf ha h hfr
  simp only [evF] at he
  cases hf with
  | func g first cap cf cc h1 h2 h3 h4 =>
    have hargs : RVs M (first ++ args ++ cap) (cf ++ cargs ++ cc) := (RVs.append ⟨h1, h3⟩ ha).append ⟨h2, h4⟩
    simp only at he
    split at he
    · rename_i S hS
      obtain ⟨hc, hs⟩ := hΓ.spec g S hS
      exact .func g cf cc hc (hs _ _ _ _ he N M w _ hargs h hfr)
    · split at he
      · rename_i ifn hfn
        obtain ⟨fn, hfn1, hfn2⟩ := hΓ.fn g ifn hfn
        obtain ⟨c, hb, hcode, hres, hnt, hname⟩ := cFunc_eq hfn2
        split at he
        · rename_i hle
          have hRT : RT M (padTo ifn.ntmps (first ++ args ++ cap)) ⟨(cf ++ cargs ++ cc) ++ Array.replicate (fn.ntmps - (cf ++ cargs ++ cc).size) undef, []⟩ := by
            have := rv_pad hargs hle
            rw [hnt] at this ⊢
            exact this
          refine .func g cf cc ⟨fn, hfn1, hname, by simp [hb]⟩ (callsIn_of_wp_marks hfn1 hb trivial ?_ rfl)
          have body : ∀ e s', (e = .normal ∨ e = .ret) → evC Γ n ifn.body ⟨padTo ifn.ntmps (first ++ args ++ cap), m.heap, m.loops⟩ = some (e, s') → ((evRes s'.T s'.heap ifn.results).map fun l => (oneRes l, s'.mem)) = some (v, m') →
              c.wpIn (fen none) N P (bodyPostM (fen none) N P fn (Ret fun cv w' => ∃ M', RV M' v cv ∧ Holds P M' m'.heap m'.loops w' ∧ Fr M m.heap m.loops w M' m'.heap m'.loops w')) ⟨(cf ++ cargs ++ cc) ++ Array.replicate (fn.ntmps - (cf ++ cargs ++ cc).size) undef, []⟩ w := by
            intro e s' hee hev hr
            refine ih c ifn.body _ e s' hcode hev none N M _ w h hfr hRT (fun l hl => by cases hl) _ (fun M' a' w' hp => ?_)
            simp only [Option.map_eq_some_iff, Prod.mk.injEq] at hr
            obtain ⟨out, ho, rfl, rfl⟩ := hr
            have key : LeavesInM (fen none) N P fn a'.tmps (Ret fun cv w' => ∃ M', RV M' (oneRes out) cv ∧ Holds P M' s'.heap s'.loops w' ∧ Fr M m.heap m.loops w M' s'.heap s'.loops w') a'.defers .returning w' := by
              obtain ⟨rs, e1, e2, e3⟩ := hp.dfs
              simp only [List.append_nil] at e1
              rw [e1]
              refine leavesM rs w' e2 e3 hp.holds hp.fr (fun w'' h'' k'' => ?_)
              obtain ⟨cv, r1, r2⟩ := results_sound h'' hp.rt hres ho
              exact ⟨cv, r1, cv, rfl, M', r2, h'', k''⟩
            rcases hee with rfl | rfl <;> exact key
          split at he
          · rename_i s' hev; exact body _ s' (.inl rfl) hev he
          · rename_i s' hev; exact body _ s' (.inr rfl) hev he
          · cases he
        · cases he
      · cases he
  | yield k l hl =>
    simp only at he
    split at he
    · rename_i r hk
      split at he
      · rename_i hc0
        simp only [Bool.and_eq_true, decide_eq_true_eq] at hc0
        obtain ⟨hready, hlen⟩ := hc0
        obtain ⟨l0, g1, g2⟩ := h.lp k r hk
        rw [hl] at g1
        cases g1
        obtain ⟨q, hq, _⟩ := id g2.obj
        obtain ⟨f1, f2, f3, f4, f5, _⟩ := loop_fields g2 hq
        have hsz : cargs.size = q.params.size := by rw [← ha.len, hlen, f2]; simp
        refine .yield l q hq hsz (roundIn_of_wpIn trivial ?_)
        split at he
        · rename_i s₁ hev1
          have hRT : RT M (setAll r.tmps r.params args) ⟨(q.params.zip cargs).foldl (fun tmps (t, a) => tmps.setIfInBounds t a) q.tmps, []⟩ := by
            have := rv_setAll r.params args cargs.toList r.tmps q.tmps f1 (by simpa using ha) hlen
            have e1 : (q.params.zip cargs).foldl (fun (tmps : Array Value) (x : Nat × Value) => tmps.setIfInBounds x.1 x.2) q.tmps = (r.params.zip cargs.toList).foldl (fun (tmps : Array Value) (x : Nat × Value) => tmps.setIfInBounds x.1 x.2) q.tmps := by
              rw [f2, ← Array.foldl_toList, Array.toList_zip]
            show RVs M _ ((q.params.zip cargs).foldl (fun (tmps : Array Value) (x : Nat × Value) => tmps.setIfInBounds x.1 x.2) q.tmps)
            rw [e1]
            exact this
          refine ih _ _ _ _ _ f3 hev1 (some l) N M _ w h hfr hRT (fun l' hl' => by cases hl'; exact ⟨q, hq⟩) _ (fun M1 a1 w1 hp1 => ?_)
          split at he
          · rename_i r₁ hk1
            split at he
            · rename_i hr1
              obtain ⟨l1, p1, p2⟩ := hp1.holds.lp k r₁ hk1
              have hl1 : M1.lp k = some l := hp1.fr.le.lp _ _ hl
              rw [hl1] at p1
              cases p1
              obtain ⟨q1, hq1, _⟩ := id p2.obj
              obtain ⟨d1, d2, d3, d4, d5, _⟩ := loop_fields p2 hq1
              obtain ⟨st1, pn1, qp1⟩ := d5 hr1
              refine ⟨_, run_beginRound hq1 st1, ?_⟩
              have hfr1 := hfr.fr hp1.fr
              obtain ⟨b1, b2⟩ := putLoop hp1.holds hk1 hl1 { q1 with state := .busy } (some { r₁ with ready := false }) (fun r' hr' w' hw' => by
                cases hr'
                exact ⟨_, hw', d1, d2, d3, d4, by simp only [pn1]⟩)
              split at he
              · rename_i e s₂ hev2
                refine ih _ _ _ _ _ f4 hev2 (some l) N M1 _ _ b1 (hfr1.fr b2) hp1.rt (fun l' hl' => by cases hl'; exact ⟨_, World.putObj_heap_same (Array.getElem?_eq_some_iff.1 hq1).1⟩) _ (fun M2 a2 w2 hp2 => ?_)
                split at he
                · rename_i r₂ hk2
                  obtain ⟨l2, q1', q2'⟩ := hp2.holds.lp k r₂ hk2
                  have hl2 : M2.lp k = some l := hp2.fr.le.lp _ _ hl1
                  rw [hl2] at q1'
                  cases q1'
                  obtain ⟨qq, hqq, _⟩ := id q2'.obj
                  obtain ⟨c1, c2, c3, c4, _⟩ := loop_fields q2' hqq
                  have fin : ∀ (jump : Option Code) (x : ALoop) (rb : Bool), (∀ w' : World, w'.heap[l]? = some (.loop { qq with state := if jump.isNone then .ready else .done, pending := jump }) → HL P M2 w' l x) → jump.isNone = rb →
                      (∃ v' w', (Instr.endRound l jump).run P w2 = .ok v' w' ∧ Ret (fun cv w' => ∃ M', RV M' (.bool rb) cv ∧ Holds P M' s₂.heap (setLoop s₂.loops k (some x)) w' ∧ Fr M m.heap m.loops w M' s₂.heap (setLoop s₂.loops k (some x)) w') (.returned v') w') := by
                    intro jump x rb hx hrb
                    refine ⟨_, _, run_endRound jump hqq, _, rfl, M2, by rw [hrb]; exact .bool rb, ?_⟩
                    obtain ⟨e1, e2⟩ := putLoop hp2.holds hk2 hl2 { qq with state := if jump.isNone then .ready else .done, pending := jump } (some x) (fun r' hr' w' hw' => by cases hr'; exact hx w' hw')
                    exact ⟨e1, ((hp1.fr.trans b2).trans hp2.fr).trans e2⟩
                  cases e with
                  | normal =>
                    simp at he
                    obtain ⟨rfl, rfl⟩ := he
                    exact fin none _ true (fun w' hw' => ⟨_, hw', c1, c2, c3, c4, by simp⟩) rfl
                  | ret =>
                    simp at he
                    obtain ⟨rfl, rfl⟩ := he
                    exact fin (some .ret) _ false (fun w' hw' => ⟨_, hw', c1, c2, c3, c4, by simp⟩) rfl
                  | exit id =>
                    simp at he
                    obtain ⟨rfl, rfl⟩ := he
                    exact fin (some (.exit id)) _ false (fun w' hw' => ⟨_, hw', c1, c2, c3, c4, by simp⟩) rfl
                · cases he
              · cases he
            · cases he
          · cases he
        · cases he
      · cases he
    · cases he
  | _ => simp at he

end
end Go.Zz
