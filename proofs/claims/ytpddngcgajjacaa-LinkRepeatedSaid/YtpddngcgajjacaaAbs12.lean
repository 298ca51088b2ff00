/-
  Code: Part 2: loops' records, results, padding.
-/
import Derived.Test.YtpddngcgajjacaaAbs11
import Derived.RangeFuncNested
namespace Go.Zz
section
variable {P : Program}

/-! ### A loop's record is made, turned, struck -/

theorem putObj_froz {w : World} {r : Nat} {o : Obj} {q : Obj} (hr : w.heap[r]? = some q) (hq : ∀ c e f, q ≠ .cells c e f) (ho : ∀ c e f, o ≠ .cells c e f) (a : Addr) : (w.putObj r o).frozen? a = w.frozen? a := by
  have hlt := (Array.getElem?_eq_some_iff.1 hr).1
  by_cases e : a.block = r
  · simp only [World.frozen?, e, World.putObj_heap_same hlt, hr]
    cases o <;> cases q <;> simp_all
  · exact World.frozen?_of_block (World.putObj_heap_other e)

/-- The record of loop k is turned (or the loop is over). -/
theorem putLoop {M : Mp} {H : Hp} {L : List (Option ALoop)} {w : World} (h : Holds P M H L w) {k l : Nat} {r : ALoop} (hk : L[k]? = some (some r)) (hl : M.lp k = some l) (q' : Loop) (x : Option ALoop)
    (hx : ∀ r', x = some r' → ∀ w' : World, w'.heap[l]? = some (.loop q') → HL P M w' l r') :
    Holds P M H (L.set k x) (w.putObj l (.loop q')) ∧ Fr M H L w M H (L.set k x) (w.putObj l (.loop q')) := by
  obtain ⟨l0, h1, h2⟩ := h.lp k r hk
  rw [hl] at h1
  cases h1
  obtain ⟨q, hq, _⟩ := h2.obj
  have hlt : l < w.heap.size := h2.lt
  have hklt : k < L.length := (List.getElem?_eq_some_iff.1 hk).1
  have hoth : ∀ b, b ≠ l → (w.putObj l (.loop q')).heap[b]? = w.heap[b]? := fun b hb => World.putObj_heap_other hb
  have hnc : ∀ {b o : Nat} {v : Value}, w.cell? ⟨b, o, none⟩ = some v → b ≠ l := fun hc => h2.ne (by rw [hc]; rfl)
  have hfz : ∀ a, (w.putObj l (.loop q')).frozen? a = w.frozen? a := putObj_froz hq (by simp) (by simp)
  have hbl : ∀ id b lc, HB M w id b lc → lc.blk ≠ l := by
    rintro id b lc hB rfl
    have := hB.obj
    simp [World.shape?, hq] at this
  have hget : ∀ (i : Nat) (r' : ALoop), (L.set k x)[i]? = some (some r') → (i = k ∧ x = some r') ∨ (i ≠ k ∧ L[i]? = some (some r')) := by
    intro i r' hi
    rw [List.getElem?_set] at hi
    split at hi
    · rename_i e; subst e; simp at hi; exact .inl ⟨rfl, hi⟩
    · rename_i e; exact .inr ⟨Ne.symm e, hi⟩
  refine ⟨⟨?_, ?_, h.sep, h.inj, h.gen, ?_, ?_⟩, ?_⟩
  · intro b o v hv
    have h0 := h.imm b o v hv
    rw [World.cell?_of_block (w := w) (hoth b (hnc h0))]
    exact h0
  · intro id b hb
    obtain ⟨lc, hB⟩ := h.blk id b hb
    exact ⟨lc, hB.kept (Mp.le.refl M) (hoth _ (hbl id b lc hB)) (by simp)⟩
  · intro i r' hi
    rcases hget i r' hi with ⟨rfl, rfl⟩ | ⟨hne, hi⟩
    · exact ⟨l, hl, hx r' rfl _ (World.putObj_heap_same hlt)⟩
    · obtain ⟨l1, g1, g2⟩ := h.lp i r' hi
      refine ⟨l1, g1, g2.kept (Mp.le.refl M) (hoth l1 ?_)⟩
      rintro rfl
      exact hne (h.lpi i k r' r l1 hi hk g1 hl)
  · intro i i' r1 r2 l1 h1 h2' h3 h4
    have key : ∀ (i : Nat) (r' : ALoop), (L.set k x)[i]? = some (some r') → ∃ r'', L[i]? = some (some r'') := by
      intro i r' hi
      rcases hget i r' hi with ⟨rfl, _⟩ | ⟨_, hi⟩
      · exact ⟨r, hk⟩
      · exact ⟨r', hi⟩
    obtain ⟨a1, b1⟩ := key i r1 h1
    obtain ⟨a2, b2⟩ := key i' r2 h2'
    exact h.lpi i i' a1 a2 l1 b1 b2 h3 h4
  · refine { os := rfl, output := rfl, size := by simp, froz := hfz, keep := ?_, old := fun id bl lc a b _ => ⟨bl, lc, a, b, rfl⟩, oldl := ?_, hlen := Nat.le_refl _, llen := by simp, le := Mp.le.refl M, only := ?_, live := fun id b hb => ⟨b, hb⟩, imm := fun _ _ _ => rfl, onlyl := ?_, lstay := ?_ }
    · intro b _ _ h2'
      exact hoth b (fun e => h2' k r hk (e ▸ hl))
    · intro i r' l1 hi hl1 _
      rcases hget i r' hi with ⟨rfl, _⟩ | ⟨_, hi⟩
      · exact ⟨r, hk, hl1⟩
      · exact ⟨r', hi, hl1⟩
    · intro id g lc h1 h0; rw [h1] at h0; cases h0
    · intro i l1 h1 h0; rw [h1] at h0; cases h0
    · intro l1 q1 hq1
      by_cases e : l1 = l
      · exact ⟨q', by rw [e]; exact World.putObj_heap_same hlt⟩
      · exact ⟨q1, (hoth l1 e).trans hq1⟩

/-- Blocks that are no cells are laid: a loop's record, and perhaps the block for its deferred calls. -/
theorem enterL {M : Mp} {H : Hp} {L : List (Option ALoop)} {w w' : World} (h : Holds P M H L w) (hf : Fresh M H L) {l : Nat} {r : ALoop} (hsz : w.heap.size ≤ w'.heap.size) (hold : ∀ b, b < w.heap.size → w'.heap[b]? = w.heap[b]?)
    (hnew : ∀ b, w.heap.size ≤ b → ∀ c e f, w'.heap[b]? ≠ some (.cells c e f)) (hlw : w.heap.size ≤ l) (hos : w'.os = w.os) (hout : w'.output = w.output)
    (hr : ∀ M', M.le M' → HL P M' w' l r) :
    let M' : Mp := { M with lp := fun k => if k = L.length then some l else M.lp k }
    Holds P M' H (L ++ [some r]) w' ∧ Fr M H L w M' H (L ++ [some r]) w' ∧ M'.lp L.length = some l := by
  intro M'
  have hle : M.le M' := ⟨fun _ _ _ h => h, fun _ _ _ h => h, fun k l' hk => by
    simp only [M']
    split
    · rename_i e; rw [e, hf.lp L.length (Nat.le_refl _)] at hk; cases hk
    · exact hk⟩
  have hget : ∀ (i : Nat) (r' : ALoop), (L ++ [some r])[i]? = some (some r') → (i < L.length ∧ L[i]? = some (some r')) ∨ (i = L.length ∧ r' = r) := by
    intro i r' hi
    rw [List.getElem?_append] at hi
    split at hi
    · rename_i hlt; exact .inl ⟨hlt, hi⟩
    · rename_i hge
      by_cases e0 : i = L.length
      · subst e0; simp at hi; exact .inr ⟨rfl, hi.symm⟩
      · cases hd : i - L.length with
        | zero => omega
        | succ n => simp [hd] at hi
  have hlp : ∀ k, k < L.length → M'.lp k = M.lp k := fun k hk => by simp only [M']; rw [if_neg (by omega)]
  have hsame : M'.lp L.length = some l := by simp [M']
  have hllt : ∀ k r' l', L[k]? = some (some r') → M.lp k = some l' → l' < w.heap.size := fun k r' l' hk hl => by
    obtain ⟨l1, g1, g2⟩ := h.lp k r' hk
    rw [hl] at g1
    cases g1
    exact g2.lt
  refine ⟨⟨?_, ?_, ?_, ?_, h.gen, ?_, ?_⟩, ?_, hsame⟩
  · intro b o v hv
    have h0 := h.imm b o v hv
    rw [World.cell?_of_block (w := w) (hold b (cell_lt h0))]
    exact h0
  · intro id b hb
    obtain ⟨lc, hB⟩ := h.blk id b hb
    exact ⟨lc, hB.kept hle (hold _ hB.lt) hsz⟩
  · exact h.sep
  · exact h.inj
  · intro k r' hk
    rcases hget k r' hk with ⟨hlt, hk⟩ | ⟨rfl, rfl⟩
    · obtain ⟨l', g1, g2⟩ := h.lp k r' hk
      exact ⟨l', by rw [hlp k hlt]; exact g1, g2.kept hle (hold l' g2.lt)⟩
    · exact ⟨l, hsame, hr M' hle⟩
  · intro k k' r1 r2 l' h1 h2 h3 h4
    rcases hget k r1 h1 with ⟨hlt, g1⟩ | ⟨e1, _⟩ <;> rcases hget k' r2 h2 with ⟨hlt', g2⟩ | ⟨e2, _⟩
    · rw [hlp k hlt] at h3
      rw [hlp k' hlt'] at h4
      exact h.lpi k k' r1 r2 l' g1 g2 h3 h4
    · rw [hlp k hlt] at h3
      rw [e2, hsame] at h4
      cases h4
      have := hllt k r1 l g1 h3
      omega
    · rw [hlp k' hlt'] at h4
      rw [e1, hsame] at h3
      cases h3
      have := hllt k' r2 l g2 h4
      omega
    · rw [e1, e2]
  · refine { os := hos, output := hout, size := hsz, froz := ?_, keep := fun b hb _ _ => hold b hb, old := fun id bl lc a b _ => ⟨bl, lc, a, b, rfl⟩, oldl := ?_, hlen := Nat.le_refl _, llen := by simp, le := hle, only := ?_, live := fun id b hb => ⟨b, hb⟩, imm := fun _ _ _ => rfl, onlyl := ?_, lstay := fun l1 q1 h1 => ⟨q1, (hold l1 (Array.getElem?_eq_some_iff.1 h1).1).trans h1⟩ }
    · intro a
      by_cases hlt : a.block < w.heap.size
      · exact World.frozen?_of_block (hold _ hlt)
      · have e1 : w.heap[a.block]? = none := by simpa using hlt
        have := hnew a.block (by omega)
        simp only [World.frozen?, e1]
        cases hw : w'.heap[a.block]? with
        | none => rfl
        | some o => cases o <;> first | rfl | exact absurd hw (this _ _ _)
    · intro k r' l' hk hl' hlt
      rcases hget k r' hk with ⟨hk1, hk⟩ | ⟨rfl, rfl⟩
      · rw [hlp k hk1] at hl'; exact ⟨r', hk, hl'⟩
      · rw [hsame] at hl'; cases hl'; omega
    · intro id g lc h1 h0; rw [show M'.loc id g = M.loc id g from rfl, h0] at h1; cases h1
    · intro k l' h1 h0
      by_cases e : k = L.length
      · simp [e]
      · rw [show M'.lp k = M.lp k by simp [M', e], h0] at h1; cases h1

/-- A block for deferred calls is shut. -/
theorem shutD {M0 M : Mp} {H0 H : Hp} {L0 L : List (Option ALoop)} {w0 w : World} (h : Holds P M H L w) (k : Fr M0 H0 L0 w0 M H L w) {r : Nat} {d d' : Option (List Deferred)} (hr : w.heap[r]? = some (.deferred d)) (hr0 : w0.heap.size ≤ r) :
    Holds P M H L (w.putObj r (.deferred d')) ∧ Fr M0 H0 L0 w0 M H L (w.putObj r (.deferred d')) := by
  have hoth : ∀ b, b ≠ r → (w.putObj r (.deferred d')).heap[b]? = w.heap[b]? := fun b hb => World.putObj_heap_other hb
  have hbl : ∀ id b lc, HB M w id b lc → lc.blk ≠ r := by
    rintro id b lc hB rfl
    have := hB.obj
    simp [World.shape?, hr] at this
  refine ⟨⟨?_, ?_, h.sep, h.inj, h.gen, ?_, h.lpi⟩, ?_⟩
  · intro b o v hv
    have h0 := h.imm b o v hv
    have hne : b ≠ r := by rintro rfl; simp [World.cell?, hr] at h0
    rw [World.cell?_of_block (w := w) (hoth b hne)]
    exact h0
  · intro id b hb
    obtain ⟨lc, hB⟩ := h.blk id b hb
    exact ⟨lc, hB.kept (Mp.le.refl M) (hoth _ (hbl id b lc hB)) (by simp)⟩
  · intro i q hi
    obtain ⟨l, g1, g2⟩ := h.lp i q hi
    refine ⟨l, g1, g2.kept (Mp.le.refl M) (hoth l ?_)⟩
    rintro rfl
    obtain ⟨q', hq', _⟩ := g2.obj
    rw [hr] at hq'
    cases hq'
  · exact { k with
      os := k.os, output := k.output, size := by simpa using k.size
      froz := fun a => (putObj_froz hr (by simp) (by simp) a).trans (k.froz a)
      keep := fun b hb h1 h2 => (hoth b (by omega)).trans (k.keep b hb h1 h2)
      lstay := fun l q hq => by
        obtain ⟨q', hq'⟩ := k.lstay l q hq
        refine ⟨q', (hoth l ?_).trans hq'⟩
        rintro rfl
        rw [hr] at hq'
        cases hq' }

/-! ### Padding, parameters -/

theorem padTo_len : ∀ (n : Nat) (l : List AV), l.length ≤ n → (padTo n l).length = n
  | n, [], _ => by simp [padTo]
  | 0, _ :: _, h => by simp at h
  | n + 1, x :: l, h => by simp [padTo, padTo_len n l (by simpa using h)]

theorem gt_replicate (n i : Nat) : gt (List.replicate n und) i = und := by
  rw [gt_eq]
  by_cases h : i < n <;> simp [List.getD, h]

theorem gt_padTo : ∀ (n : Nat) (l : List AV), l.length ≤ n → ∀ i, gt (padTo n l) i = gt l i
  | n, [], _ => fun i => by simp only [padTo, gt_replicate]; rfl
  | 0, _ :: _, h => by simp at h
  | n + 1, x :: l, h => fun i => by
    cases i with
    | zero => rfl
    | succ i => exact gt_padTo n l (by simpa using h) i

theorem rv_pad {M : Mp} {l : List AV} {c : Array Value} (h : RVs M l c) {n : Nat} (hn : l.length ≤ n) : RVs M (padTo n l) (c ++ Array.replicate (n - c.size) undef) := by
  refine ⟨by rw [padTo_len n l hn]; simp; have := h.len; omega, fun i => ?_⟩
  rw [gt_padTo n l hn, ag_append]
  split
  · exact h.rel i
  · rename_i hge
    rw [gt_of_ge (by rw [h.len]; omega)]
    have : ag (Array.replicate (n - c.size) undef) (i - c.size) = undef := by
      unfold ag
      by_cases hi : i - c.size < n - c.size
      · simp [hi]
      · simp [hi]
    rw [this]
    exact .tup0

theorem rv_setAll {M : Mp} : ∀ (ps : List Nat) (args : List AV) (cargs : List Value) (T : List AV) (c : Array Value), RVs M T c → RVs M args cargs.toArray → args.length = ps.length →
    RVs M (setAll T ps args) ((ps.zip cargs).foldl (fun tmps (x : Nat × Value) => tmps.setIfInBounds x.1 x.2) c)
  | [], [], cargs, T, c, hT, ha, _ => by
    have : cargs = [] := List.eq_nil_of_length_eq_zero (by have := ha.len; simpa using this.symm)
    subst this
    exact hT
  | p :: ps, x :: args, cargs, T, c, hT, ha, hl => by
    cases cargs with
    | nil => have := ha.len; simp at this
    | cons v cargs =>
      have hx := ha.rel 0
      simp [gt, ag] at hx
      have hrest : RVs M args cargs.toArray := by have := ha.drop 1; simpa using this
      simp only [setAll, List.zip_cons_cons, List.foldl_cons]
      exact rv_setAll ps args cargs _ _ (hT.put hx) hrest (by simpa using hl)
  | [], _ :: _, _, _, _, _, _, h => by simp at h
  | _ :: _, [], _, _, _, _, _, h => by simp at h

/-! ### Results -/

def resSem (tmps : Array Value) : ResultVar → Sem Value
  | .tmp t => pure (tmps.getD t undef)
  | .cell a t => do loadVar t (← asAddr (tmps.getD a undef))

theorem cRes_sound {M : Mp} {H : Hp} {L : List (Option ALoop)} {w : World} (h : Holds P M H L w) {T : List AV} {tmps : Array Value} (hT : RVs M T tmps) : ∀ {rs : List ResultVar} {irs : List IRes} {out : List AV}, cRes P rs = some irs → evRes T H irs = some out →
    ∃ vs : List Value, (rs.mapM (resSem tmps)).run P w = .ok vs w ∧ RVs M out vs.toArray
  | [], irs, out, hc, he => by
    cases hc
    cases he
    exact ⟨[], by simp, RVs.nil M⟩
  | .tmp t :: rs, irs, out, hc, he => by
    simp only [cRes, Option.map_eq_some_iff] at hc
    obtain ⟨irs', hc', rfl⟩ := hc
    simp only [evRes, Option.map_eq_some_iff] at he
    obtain ⟨out', he', rfl⟩ := he
    obtain ⟨vs, g1, g2⟩ := cRes_sound h hT hc' he'
    refine ⟨tmps.getD t undef :: vs, ?_, ?_⟩
    · simp only [List.mapM_cons, resSem, Sem.run_bind, Sem.run_pure, Result.andThen_ok, g1]
    · refine ⟨by have := g2.len; simp at this; simp [this], fun i => ?_⟩
      cases i with
      | zero => have := hT.rel t; simpa [gt, ag] using this
      | succ i => have := g2.rel i; simpa [gt, ag] using this
  | .cell t ty :: rs, irs, out, hc, he => by
    simp only [cRes] at hc
    split at hc
    · rename_i g s l' hg hs hc'
      cases hc
      simp only [evRes] at he
      split at he
      · rename_i id gn off hp
        cases hk : look H id gn with
        | none => simp [hk] at he
        | some l =>
          simp only [hk, Option.bind_some] at he
          cases hv : loadCs g s l off with
          | none => simp [hv] at he
          | some x =>
            simp only [hv, Option.bind_some, Option.map_eq_some_iff] at he
            obtain ⟨out', he', rfl⟩ := he
            obtain ⟨vs, g1, g2⟩ := cRes_sound h hT hc' he'
            have hr := hT.rel t
            rw [hp] at hr
            have hag : tmps.getD t undef = ag tmps t := rfl
            generalize hpv : ag tmps t = pv at hr
            cases hr with
            | pref _ _ _ lc hl =>
              obtain ⟨u, k1, k2⟩ := run_load (P := P) (cellsAt_blk h hk hl) hg hs hv
              refine ⟨u :: vs, ?_, ?_⟩
              · simp only [List.mapM_cons, resSem, Sem.run_bind, hag, hpv, asAddr, Sem.run_pure, Result.andThen_ok, k1, g1]
              · refine ⟨by have := g2.len; simp at this; simp [this], fun i => ?_⟩
                cases i with
                | zero => simpa [gt, ag] using k2
                | succ i => have := g2.rel i; simpa [gt, ag] using this
      · cases he
    · cases hc

theorem results_sound {M : Mp} {H : Hp} {L : List (Option ALoop)} {w : World} (h : Holds P M H L w) {T : List AV} {tmps : Array Value} (hT : RVs M T tmps) {fn : Func} {irs : List IRes} {out : List AV} (hc : cRes P fn.results.toList = some irs) (he : evRes T H irs = some out) :
    ∃ v, (results fn tmps).run P w = .ok v w ∧ RV M (oneRes out) v := by
  obtain ⟨vs, g1, g2⟩ := cRes_sound h hT hc he
  have hlen : out.length = vs.length := by have := g2.len; simpa using this
  have hrun : (results fn tmps).run P w = .ok (if h : vs.toArray.size = 1 then vs.toArray[0] else .tuple vs.toArray) w := by
    have e : results fn tmps = (do let vs ← fn.results.mapM (resSem tmps); pure (if h : vs.size = 1 then vs[0] else .tuple vs)) := rfl
    rw [e, Sem.run_bind, Array.mapM_eq_mapM_toList]
    simp [g1]
  refine ⟨_, hrun, ?_⟩
  by_cases h1 : vs.length = 1
  · obtain ⟨v, rfl⟩ := List.length_eq_one_iff.1 h1
    obtain ⟨x, rfl⟩ := List.length_eq_one_iff.1 (hlen.trans h1)
    have := g2.rel 0
    simpa [oneRes, gt, ag] using this
  · have e1 : oneRes out = .tuple out := by
      unfold oneRes
      split
      · simp at hlen; omega
      · rfl
    rw [e1, dif_neg (by simpa using h1)]
    exact .tuple _ _ g2.len g2.rel

end
end Go.Zz
