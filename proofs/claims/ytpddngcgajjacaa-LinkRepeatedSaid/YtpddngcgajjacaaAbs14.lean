/-
  Code: Part 4: the theorem.
-/
import Derived.Test.YtpddngcgajjacaaAbs13
namespace Go.Zz
section
variable {P : Program} {Γ : Env}

theorem heap_alloc' (w : World) (o : Obj) (k : Nat) (h : k < w.heap.size) : (w.alloc o).heap[k]? = w.heap[k]? := by
  show (w.heap.push o)[k]? = _
  rw [Array.getElem?_push, if_neg (by omega)]
theorem size_alloc' (w : World) (o : Obj) : (w.alloc o).heap.size = w.heap.size + 1 := by
  show (w.heap.push o).size = _
  simp

/-- The record is laid. -/
theorem enter_run (fn : FuncId) (tmps : Array Value) (ps : Array Tmp) (ca cb : Code) {ro : Option Nat} {w : World} (hro : InRound ro w) :
    ∃ l mark w₁, (Instr.enterLoop fn tmps ps ca cb ro).run P w = .ok (l, mark) w₁ ∧ w.heap.size ≤ w₁.heap.size ∧ (∀ b, b < w.heap.size → w₁.heap[b]? = w.heap[b]?) ∧ (∀ b, w.heap.size ≤ b → ∀ c e f, w₁.heap[b]? ≠ some (.cells c e f)) ∧
      w.heap.size ≤ l ∧ (∃ d, w₁.heap[l]? = some (.loop { state := .ready, pending := none, fn, tmps := tmps, params := ps, assign := ca, body := cb, defers := d })) ∧ w₁.os = w.os ∧ w₁.output = w.output ∧
      ((mark = [] ) ∨ ∃ r, mark = [{ target := .collected r, args := #[] }] ∧ w.heap.size ≤ r ∧ w₁.heap[r]? = some (.deferred (some []))) := by
  cases ro with
  | none =>
    have hlast := World.alloc_heap_new (w.alloc (.deferred (some []))) (.loop { state := .ready, pending := none, fn, tmps := tmps, params := ps, assign := ca, body := cb, defers := w.heap.size })
    rw [size_alloc'] at hlast
    have hmid : ((w.alloc (.deferred (some []))).alloc (.loop { state := .ready, pending := none, fn, tmps := tmps, params := ps, assign := ca, body := cb, defers := w.heap.size })).heap[w.heap.size]? = some (.deferred (some [])) := by
      rw [heap_alloc' _ _ _ (by rw [size_alloc']; omega), World.alloc_heap_new]
    refine ⟨_, _, _, run_enterLoop_outer fn tmps ps ca cb, by rw [size_alloc', size_alloc']; omega, ?_, ?_, Nat.le_succ _, ⟨w.heap.size, hlast⟩, rfl, rfl, .inr ⟨w.heap.size, rfl, Nat.le_refl _, hmid⟩⟩
    · intro b hb
      rw [heap_alloc' _ _ _ (by rw [size_alloc']; omega), heap_alloc' _ _ _ hb]
    · intro b hb c e f hc
      by_cases e1 : b = w.heap.size
      · subst e1
        rw [hmid] at hc
        cases hc
      · by_cases e2 : b = w.heap.size + 1
        · rw [e2, hlast] at hc
          cases hc
        · have hlt := (Array.getElem?_eq_some_iff.1 hc).1
          rw [size_alloc', size_alloc'] at hlt
          omega
  | some l0 =>
    obtain ⟨q0, hq0⟩ := hro l0 rfl
    refine ⟨_, _, _, run_enterLoop_inner hq0 fn tmps ps ca cb, by rw [size_alloc']; omega, fun b hb => heap_alloc' _ _ _ hb, ?_, Nat.le_refl _, ⟨q0.defers, World.alloc_heap_new _ _⟩, rfl, rfl, .inl rfl⟩
    intro b hb c e f hc
    by_cases e1 : b = w.heap.size
    · subst e1
      rw [World.alloc_heap_new] at hc
      cases hc
    · have hlt := (Array.getElem?_eq_some_iff.1 hc).1
      rw [size_alloc'] at hlt
      omega

theorem rangeFunc_sound {n : Nat} (hcall : CallOk P (fun f args m => evF Γ n f args m)) {f : Operand} {f' : Opd} {ps : Array Tmp} {ca cb : Code} {x y : IR} (hf : cOpd f = some f') (hca : cCode P ca = some x) (hcb : cCode P cb = some y)
    {s s' : St} {e : Ex} (he : evC Γ (n + 1) (.rangeFunc f' ps.toList x y) s = some (e, s')) (ro : Option Nat) (N : Nat) (M : Mp) (a : Act) (w : World) (h : Holds P M s.heap s.loops w) (hfr : Fresh M s.heap s.loops) (hT : RT M s.T a) (hro : InRound ro w)
    (Q : Exit → Act → World → Prop) (hQ : ∀ M' a' w', Post P M s w a.defers s' M' a' w' → Q (exitOf e) a' w') : (Code.rangeFunc f ps ca cb).wpIn (fen ro) N P Q a w := by
  refine wpIn_rangeFunc (fun fn _ => ?_)
  simp only [evC] at he
  have hfv := rv_opd hT hf
  split at he
  · rename_i v m hev
    split at hev
    · rename_i g fs cp hfe
      rw [hfe] at hfv
      generalize hav : a.eval f = fv at hfv
      cases hfv with
      | func _ _ _ cf cc h1 h2 h3 h4 =>
        obtain ⟨l, mark, w₁, r0, r1, r2, r3, r4, ⟨d, r5⟩, r6, r7, r8⟩ := enter_run (P := P) fn a.tmps ps ca cb hro
        obtain ⟨k1, k2, k3⟩ := enterL (r := ⟨true, none, s.T, ps.toList, x, y⟩) h hfr r1 r2 r3 r4 r6 r7 (fun M' hle => ⟨_, r5, hT.mono hle, rfl, hca, hcb, by simp⟩)
        generalize hM1 : ({ M with lp := fun k => if k = s.loops.length then some l else M.lp k } : Mp) = M1 at k1 k2 k3
        have hA := hcall (.func g fs cp) [.yield s.loops.length] _ v m hev (N - 1) M1 w₁ (.func (.func g) cf cc) #[.func (.yield l) #[] #[]] (.func _ _ _ _ _ h1 h2 (fun i => (h3 i).mono k2.le) (fun i => (h4 i).mono k2.le))
          (RVs.of_lt rfl fun i i1 i2 => by
            have : i = 0 := by simp at i1; omega
            subst this
            exact .yield _ _ k3) k1 (hfr.fr k2)
        cases hA with
        | func _ _ _ hc hcl =>
          have hres : (resolve a.eval (rangeCall f l) 0).run P w₁ = .ok { target := .fn (.func g) cc, args := cf ++ #[.func (.yield l) #[] #[]] } w₁ := by
            have e1 : a.eval (.const (.func (.yield l) #[] #[])) = .func (.yield l) #[] #[] := rfl
            simp [resolve, hav, Deferred.ofValue, e1]
          have hinv : (invoke (.fn (.func g) cc) (cf ++ #[.func (.yield l) #[] #[]])).run P w₁ = .ok (.enter g (cf ++ #[.func (.yield l) #[] #[]] ++ cc)) w₁ := run_callFunc hc _ _
          refine ⟨l, mark, w₁, _, w₁, g, _, w₁, r0, hres, fun _ _ => trivial, hinv, fun hd => by simp [fen_depth] at hd, ?_⟩
          refine CallsIn.mono (callsIn_fen hcl) ?_
          · rintro ee w3 ⟨cv, rfl, M3, p1, p2, p3⟩
            simp only [rangePost]
            split at he
            · rename_i r hk
              have hl3 : M3.lp s.loops.length = some l := p3.le.lp _ _ k3
              obtain ⟨l3, q1, q2⟩ := p2.lp _ r hk
              rw [hl3] at q1
              cases q1
              obtain ⟨q, hq, _⟩ := id q2.obj
              obtain ⟨_, _, _, _, f5, f6, f7, f8, f9⟩ := loop_fields q2 hq
              have fin : ∀ (jump : Option Code), q.state ≠ .busy → q.pending = jump → ∀ ex, (match jump with | none => ex = Ex.normal | some .ret => ex = .ret | some (.exit id) => ex = .exit id | _ => False) →
                  (ex, (⟨s.T, m.heap, setLoop m.loops s.loops.length none⟩ : St)) = (e, s') →
                  ∃ jump w₄, (Instr.endLoop l).run P w3 = .ok jump w₄ ∧ (match jump with | none => Q .normal { a with defers := mark ++ a.defers } w₄ | some c => c.wpIn (fen ro) N P Q { a with defers := mark ++ a.defers } w₄) := by
                intro jump hb hj ex hex hes
                refine ⟨_, _, run_endLoop hq hb, ?_⟩
                obtain ⟨b1, b2⟩ := putLoop p2 hk hl3 { q with state := .exhausted } none (fun r' hr' => by cases hr')
                cases hes
                have hpost : Post P M s w a.defers ⟨s.T, m.heap, setLoop m.loops s.loops.length none⟩ M3 { a with defers := mark ++ a.defers } (w3.putObj l (.loop { q with state := .exhausted })) := by
                  refine ⟨hT.mono (k2.le.trans p3.le), b1, (k2.trans p3).trans b2, ?_⟩
                  rcases r8 with rfl | ⟨r, rfl, g1, g2⟩
                  · exact .of_same rfl
                  · refine ⟨[r], rfl, by simp, ?_⟩
                    intro r' hr'
                    simp at hr'
                    subst hr'
                    have hst := stays k1 p3 g2
                    refine ⟨g1, (World.putObj_heap_other ?_).trans hst⟩
                    rintro rfl
                    rw [hq] at hst
                    cases hst
                have hq' := hQ M3 _ _ hpost
                simp only [hj] at hq' ⊢
                split at hex
                · subst hex; exact hq'
                · subst hex; exact wpIn_ret hq'
                · subst hex; exact wpIn_exit hq'
                · exact hex.elim
              split at he
              · rename_i hpn
                split at he
                · rename_i hrd
                  obtain ⟨e1, _, e3⟩ := f5 hrd
                  exact fin none (by rw [e1]; simp) e3 .normal rfl (Option.some.inj he)
                · cases he
              · rename_i ex hpn
                cases ex with
                | normal => exact absurd hpn f9
                | ret =>
                  obtain ⟨e1, e2⟩ := f7 hpn
                  exact fin (some .ret) (by rw [e1]; simp) e2 .ret rfl (Option.some.inj he)
                | exit id =>
                  obtain ⟨e1, e2⟩ := f8 id hpn
                  exact fin (some (.exit id)) (by rw [e1]; simp) e2 (.exit id) rfl (Option.some.inj he)
            · cases he
    · cases hev
  · cases he

theorem code_step (hD : DrawOk P) {n : Nat} (ih : CodeOk P Γ n) (ihl : ∀ m, m ≤ n → CodeOk P Γ m) (hcall : CallOk P (fun f args m => evF Γ n f args m)) : CodeOk P Γ (n + 1) := by
  intro c ir s e s' hc he ro N M a w h hfr hT hro Q hQ
  cases c with
  | skip =>
    simp [cCode] at hc
    subst hc
    simp [evC] at he
    obtain ⟨rfl, rfl⟩ := he
    exact wpIn_skip (hQ M a w ⟨hT, h, Fr.refl _ _ _ _, .refl _ _⟩)
  | region id ops draw =>
    cases draw with
    | false =>
      simp [cCode] at hc
      obtain ⟨l, hl, rfl⟩ := hc
      simp only [evC, Option.map_eq_some_iff, Prod.mk.injEq] at he
      obtain ⟨s1, hev, rfl, rfl⟩ := he
      obtain ⟨g1, g2⟩ := cOpers_get hl
      refine wpIn_region (opers_sound hcall (List.range ops.size) l (by simp [g1]) ?_ M s s1 a w hev h hfr hT hQ)
      intro j i hj
      have hjs : j < ops.size := by
        have := (List.getElem?_eq_some_iff.1 hj).1
        simpa using this
      have hij : i = j := by
        rw [List.getElem?_range hjs] at hj
        exact (Option.some.inj hj).symm
      subst hij
      obtain ⟨io, k1, k2⟩ := g2 i ops[i] (by simp [hjs])
      exact ⟨ops[i], io, by simp [hjs], k1, k2⟩
    | true =>
      have hc' := hc
      simp only [cCode] at hc'
      split at hc'
      · split at hc'
        · cases hc'
          simp only [evC, Option.map_eq_some_iff, Prod.mk.injEq] at he
          obtain ⟨s1, hev, rfl, rfl⟩ := he
          exact hD _ hcall id ops _ hc s s1 hev ro N M a w h hfr hT Q hQ
        · cases hc'
      · cases hc'
  | seq x y =>
    simp only [cCode] at hc
    split at hc
    · rename_i x' y' hx hy
      cases hc
      simp only [evC] at he
      cases hev : evC Γ n x' s with
      | none => rw [hev] at he; simp at he
      | some r =>
        obtain ⟨e1, s1⟩ := r
        rw [hev] at he
        refine wpIn_seq (ih x x' s e1 s1 hx hev ro N M a w h hfr hT hro _ (fun M1 a1 w1 hp => ?_))
        cases e1 with
        | normal =>
          simp only at he
          exact ih y y' s1 e s' hy he ro N M1 a1 w1 hp.holds (hfr.fr hp.fr) hp.rt (hro.fr hp.fr) Q (fun M2 a2 w2 hp2 => hQ M2 a2 w2 (hp.trans hp2))
        | exit id => simp at he; obtain ⟨rfl, rfl⟩ := he; exact hQ M1 a1 w1 hp
        | ret => simp at he; obtain ⟨rfl, rfl⟩ := he; exact hQ M1 a1 w1 hp
    · cases hc
  | cond co x y =>
    simp only [cCode] at hc
    split at hc
    · rename_i co' x' y' hco hx hy
      cases hc
      simp only [evC] at he
      split at he
      · rename_i t ht
        have hr := rv_opd hT hco
        rw [ht] at hr
        generalize hv : a.eval co = v at hr
        cases hr
        refine wpIn_cond hv ?_
        cases t with
        | true => simp only [if_true] at he ⊢; exact ih x x' s e s' hx he ro N M a w h hfr hT hro Q hQ
        | false => simp only [Bool.false_eq_true, if_false] at he ⊢; exact ih y y' s e s' hy he ro N M a w h hfr hT hro Q hQ
      · cases he
    · cases hc
  | block id x =>
    simp [cCode] at hc
    obtain ⟨x', hx, rfl⟩ := hc
    simp only [evC] at he
    cases hev : evC Γ n x' s with
    | none => rw [hev] at he; simp at he
    | some r =>
      obtain ⟨e1, s1⟩ := r
      rw [hev] at he
      refine wpIn_block (ih x x' s e1 s1 hx hev ro N M a w h hfr hT hro _ (fun M1 a1 w1 hp => ?_))
      cases e1 with
      | normal => simp at he; obtain ⟨rfl, rfl⟩ := he; exact hQ M1 a1 w1 hp
      | exit id' =>
        simp only at he
        simp only [exitOf, Exit.inBlock]
        split at he
        · rename_i e2
          cases he
          rw [if_pos e2]
          exact hQ M1 a1 w1 hp
        · rename_i e2
          cases he
          rw [if_neg e2]
          exact hQ M1 a1 w1 hp
      | ret => simp at he; obtain ⟨rfl, rfl⟩ := he; exact hQ M1 a1 w1 hp
  | loop x =>
    simp [cCode] at hc
    obtain ⟨x', hx, rfl⟩ := hc
    intro b k cs hrb hb hr
    have key : ∀ (j : Nat), j ≤ n + 1 → ∀ (s : St) (M1 : Mp) (a1 : Act) (w1 : World), evC Γ j (.loop x') s = some (e, s') → Holds P M1 s.heap s.loops w1 → Fresh M1 s.heap s.loops → RT M1 s.T a1 → InRound ro w1 →
        (∀ M' a' w', Post P M1 s w1 a1.defers s' M' a' w' → Q (exitOf e) a' w') →
        ∃ ee a' w', Q ee a' w' ∧ ArrivesIn (Machine.fenced P (fen ro)) P (lone (b.atR a1 (.code x :: .inLoop x :: k)) cs w1) b k cs ee a' w' := by
      intro j
      induction j with
      | zero => intro _ s M1 a1 w1 hev; simp [evC] at hev
      | succ j ihj =>
        intro hjn s M1 a1 w1 hev h1 hf1 hT1 hro1 hQ1
        simp only [evC] at hev
        cases hev1 : evC Γ j x' s with
        | none => rw [hev1] at hev; simp at hev
        | some r =>
          obtain ⟨e1, s1⟩ := r
          rw [hev1] at hev
          have hbody := ihl j (by omega) x x' s e1 s1 hx hev1 ro N M1 a1 w1 h1 hf1 hT1 hro1 (fun ee a' w' => ∃ M', Post P M1 s w1 a1.defers s1 M' a' w' ∧ ee = exitOf e1) (fun M' a' w' hp => ⟨M', hp, rfl⟩)
          obtain ⟨ee, a2, w2, ⟨M2, hp, rfl⟩, harr⟩ := hbody b (.inLoop x :: k) cs hrb hb hr
          cases e1 with
          | normal =>
            simp only at hev
            obtain ⟨e3, a3, w3, hq3, harr3⟩ := ihj (by omega) s1 M2 a2 w2 hev hp.holds (hf1.fr hp.fr) hp.rt (hro1.fr hp.fr) (fun M' a' w' hp2 => hQ1 M' a' w' (hp.trans hp2))
            exact ⟨e3, a3, w3, hq3, .of_steps (StepsIn.trans harr (.one (fenced_calm hb hr rfl) stepR_inLoop)) harr3⟩
          | exit id => simp at hev; obtain ⟨rfl, rfl⟩ := hev; exact ⟨_, a2, w2, hQ1 M2 a2 w2 hp, .pass (x := .inLoop x) rfl (fun _ _ => .inl (by simp [exitOf])) harr⟩
          | ret => simp at hev; obtain ⟨rfl, rfl⟩ := hev; exact ⟨_, a2, w2, hQ1 M2 a2 w2 hp, .pass (x := .inLoop x) rfl (fun _ _ => .inl (by simp [exitOf])) harr⟩
    obtain ⟨ee, a', w', hq, harr⟩ := key (n + 1) (Nat.le_refl _) s M a w he h hfr hT hro hQ
    exact ⟨ee, a', w', hq, .of_steps (.one (fenced_calm hb hr rfl) stepR_loop) harr⟩
  | rangeFunc f ps x y =>
    simp only [cCode] at hc
    split at hc
    · rename_i f' x' y' hf hx hy
      cases hc
      exact rangeFunc_sound hcall hf hx hy he ro N M a w h hfr hT hro Q hQ
    · cases hc
  | exit id =>
    simp [cCode] at hc
    subst hc
    simp [evC] at he
    obtain ⟨rfl, rfl⟩ := he
    exact wpIn_exit (hQ M a w ⟨hT, h, Fr.refl _ _ _ _, .refl _ _⟩)
  | ret =>
    simp [cCode] at hc
    subst hc
    simp [evC] at he
    obtain ⟨rfl, rfl⟩ := he
    exact wpIn_ret (hQ M a w ⟨hT, h, Fr.refl _ _ _ _, .refl _ _⟩)
  | _ => simp [cCode] at hc

/-- **WHAT THE SMALL CODE ANSWERS, THE MODEL ANSWERS.** -/
theorem all_sound (hΓ : EnvOk P Γ) (hD : DrawOk P) : ∀ n, (∀ m, m ≤ n → CodeOk P Γ m) ∧ CallOk P (fun f args m => evF Γ n f args m)
  | 0 => by
    refine ⟨fun m hm => ?_, fun f args m v m' he => by simp [evF] at he⟩
    have : m = 0 := by omega
    subst this
    intro c ir s e s' _ he
    simp [evC] at he
  | n + 1 => by
    obtain ⟨h1, h2⟩ := all_sound hΓ hD n
    refine ⟨fun m hm => ?_, call_sound hΓ (h1 n (Nat.le_refl _))⟩
    by_cases e : m = n + 1
    · subst e; exact code_step hD (h1 n (Nat.le_refl _)) h1 h2
    · exact h1 m (by omega)

end
end Go.Zz
