/-
  One operation. Part 4: append, copy, clear.
-/
import Derived.Test.YtpddngcgajjacaaAbs8
namespace Go.Zz

section
variable {P : Program}

theorem run_app0 {w : World} {t ty e : TypeId} {i : TypeInfo} (ht : P.underlying t = some (.slice e)) (hi : P.info? e = some i) (ad ad' : Option Addr) (n cap c : Nat) (h : n ≤ cap) :
    (Builtin.append_ #[t, t] ty #[.slice ad n cap, .slice ad' 0 c]).run P w = .ok (.slice ad n cap) w := by
  cases ad <;> cases ad' <;> simp [Builtin.append_, run_underlying ht, sizeOf, typeInfo, hi, Builtin.lenOf, Builtin.firstCells, h, loadCells, loadCellsFrom, storeCells]

theorem zeroCells_size (z : Array Value) (n : Nat) : (Builtin.zeroCells z n).size = n * z.size := by simp [Builtin.zeroCells]

/-- The cells of the world, block by block, do not see a draw. -/
theorem drew_heap (w : World) : w.drew.heap = w.heap := rfl

theorem ag_append (a b : Array Value) (i : Nat) : ag (a ++ b) i = if i < a.size then ag a i else ag b (i - a.size) := by
  simp only [ag, Array.getD_eq_getD_getElem?, Array.getElem?_append]
  split <;> rfl

theorem one_of_list {vs : List Value} (h1 : ∀ v ∈ vs, v.oneCell' = true) {i : Nat} (hi : i < vs.length) : (ag vs.toArray i).oneCell' = true := by
  rw [ag_of_lt (by simpa using hi)]
  exact h1 _ (by simp)

/-- A slice's block goes over into a new generation. -/
theorem regrown {M : Mp} {m : Mem} {w w' : World} (h : Holds P M m.heap m.loops w) {id g : Nat} {l : List AV} {lc : Loc} (hk : look m.heap id g = some l) (hl : M.loc id g = some lc) {cs : List AV} (lc' : Loc)
    (hlen : lc'.len = cs.length) (hroom : cs.length ≤ lc'.room) (hthere : ∀ i, i < lc'.room → (w'.cell? ⟨lc'.blk, lc'.base + i, none⟩).isSome = true)
    (hrel : ∀ i, i < cs.length → ∃ v, w'.cell? ⟨lc'.blk, lc'.base + i, none⟩ = some v ∧ RV M (gt cs i) v ∧ v.oneCell' = true) (hfroz : ∀ o, w'.frozen? ⟨lc'.blk, o, none⟩ = false) (hlt : lc'.blk < w'.heap.size) (hobj : (w'.shape? lc'.blk).isSome = true)
    (hat : lc'.blk = lc.blk ∨ w.heap.size ≤ lc'.blk) (hother : ∀ x, x < w.heap.size → x ≠ lc.blk → w'.heap[x]? = w.heap[x]?) (hfz : ∀ a, w'.frozen? a = w.frozen? a) (hos : w'.os = w.os) (hout : w'.output = w.output) (hsz : w.heap.size ≤ w'.heap.size) :
    Holds P (M.ext id (g + 1) lc') (setBlk m.heap id (g + 1) cs) m.loops w' ∧ Fr M m.heap m.loops w (M.ext id (g + 1) lc') (setBlk m.heap id (g + 1) cs) m.loops w' ∧ (M.ext id (g + 1) lc').loc id (g + 1) = some lc' := by
  have hb := look_eq hk
  have hfresh : M.loc id (g + 1) = none := h.gen id _ (g + 1) hb (Nat.lt_succ_self g)
  have hle : M.le (M.ext id (g + 1) lc') := Mp.ext_le hfresh
  obtain ⟨a, b⟩ := moved (M' := M.ext id (g + 1) lc') (b' := ⟨g + 1, cs⟩) (lc' := lc') h hb hl hle rfl rfl (fun i j l' h1 h0 => by
      by_cases e : i = id ∧ j = g + 1
      · exact e
      · rw [Mp.ext_other e, h0] at h1; cases h1) (by simp)
    ⟨Mp.ext_same, hlen, hroom, hthere, fun i hi => by obtain ⟨v, x1, x2, x3⟩ := hrel i hi; exact ⟨v, x1, x2.mono hle, x3⟩, hfroz, hlt, hobj⟩ hat hother hfz hos hout hsz
  exact ⟨a, b, Mp.ext_same⟩

theorem alloc_facts (w : World) (c : Array Value) (e : TypeId) : let w' := w.drew.alloc (.cells c e)
    (∀ x, x < w.heap.size → w'.heap[x]? = w.heap[x]?) ∧ w'.heap[w.heap.size]? = some (.cells c e) ∧ w.heap.size < w'.heap.size ∧ (∀ a, w'.frozen? a = w.frozen? a) := by
  intro w'
  have hw : w'.heap = w.heap.push (.cells c e) := rfl
  have h1 : ∀ x, x < w.heap.size → w'.heap[x]? = w.heap[x]? := fun x hx => by rw [hw, Array.getElem?_push]; simp [Nat.ne_of_lt hx]
  have h2 : w'.heap[w.heap.size]? = some (.cells c e) := by rw [hw]; simp
  refine ⟨h1, h2, by rw [hw]; simp, fun a => ?_⟩
  by_cases hlt : a.block < w.heap.size
  · exact World.frozen?_of_block (h1 _ hlt)
  · have e1 : w.heap[a.block]? = none := by simpa using hlt
    by_cases e2 : a.block = w.heap.size
    · simp [World.frozen?, e2, h2]
    · have : w'.heap[a.block]? = none := by rw [hw]; simp; omega
      simp [World.frozen?, e1, this]

set_option maxHeartbeats 2000000 in
theorem gives_append {M : Mp} {m m' : Mem} {w : World} (h : Holds P M m.heap m.loops w) (hf : m.heap.length < m'.heap.length → ∀ g, M.loc m.heap.length g = none) {t e ty : TypeId} {sz : Nat} {i : TypeInfo} {zz : List AV}
    (hu : P.underlying t = some (.slice e)) (hs : szOf P e = some sz) (hi : P.info? e = some i) (hz : zeroOf P e = some zz) {s x z : AV} {v u : Value} (hv : RV M s v) (hx : RV M x u)
    (ha : appendAV sz i.bytes m s x = some (z, m')) : Gives P M m m' w (Builtin.append_ #[t, t] ty #[v, u]) z := by
  obtain ⟨i', hi', hsz, hpos⟩ := szOf_eq hs
  rw [hi] at hi'
  cases hi'
  obtain ⟨i2, zv, hi2, hzv, hcc, hzl, _⟩ := zeroOf_eq hz
  rw [hi] at hi2
  cases hi2
  have hzs : zv.cells.size = sz := by
    obtain ⟨r1, _⟩ := rv_cells (M := M) hcc
    have := r1.len; simp at this; omega
  unfold appendAV at ha
  cases hxs : scells m.heap sz x with
  | none => simp [hxs] at ha
  | some xs =>
    cases hn : slen x with
    | none => simp [hxs, hn] at ha
    | some n =>
      simp only [hxs, hn, Option.bind_eq_bind, Option.bind_some] at ha
      obtain ⟨hxl, hsrc⟩ := scells_at h hx hxs hn
      -- the source as the model has it
      have hsrc' : (n = 0 ∧ ∃ (ad : Option Addr) (c : Nat), u = .slice ad 0 c) ∨ (0 < n ∧ ∃ (b o c : Nat) (vs : List Value), u = .slice (some ⟨b, o, none⟩) n c ∧ vs.length = n * sz ∧ (∀ j v, vs[j]? = some v → w.cell? ((⟨b, o, none⟩ : Addr).add j) = some v) ∧ RVs M xs vs.toArray ∧ ∀ v ∈ vs, v.oneCell' = true) := by
        rcases hsrc with ⟨_, rfl, _, rfl⟩ | ⟨_, b, o, c, rfl, hc⟩
        · exact .inl ⟨rfl, none, 0, rfl⟩
        · by_cases h0 : n = 0
          · subst h0; exact .inl ⟨rfl, _, c, rfl⟩
          · obtain ⟨vs, q1, q2, q3, q4⟩ := firstCells_at hxl hc
            exact .inr ⟨by omega, b, o, c, vs, rfl, q1, q2, q3, q4⟩
      clear hsrc
      -- a new block behind a draw
      have fresh : ∀ (olds : List Value) (old : List AV) (len ccap0 : Nat) (vs : List Value), RVs M old olds.toArray → (∀ v ∈ olds, v.oneCell' = true) → RVs M xs vs.toArray → (∀ v ∈ vs, v.oneCell' = true) → old.length = len * sz → vs.length = n * sz → len + n ≤ 70368744177664 →
          let cap' := grownCap w (len + n) ccap0 e
          let c := olds.toArray ++ vs.toArray ++ Builtin.zeroCells zv.cells (cap' - (len + n))
          (∀ j, j < (old ++ xs).length → RV M (gt (old ++ xs) j) (ag c j) ∧ (ag c j).oneCell' = true) ∧ (old ++ xs).length ≤ c.size ∧ len + n ≤ cap' ∧ c.size = cap' * sz := by
        intro olds old len ccap0 vs ho ho1 hvs hvs1 hol hvl hsmall cap' c
        have hge : len + n ≤ cap' := grownCap_ge w (len + n) ccap0 e
        have hcs : c.size = cap' * sz := by
          simp only [c, Array.size_append, List.size_toArray, zeroCells_size, hzs, hvl]
          have := ho.len
          simp at this
          rw [← this, hol, ← Nat.add_mul, ← Nat.add_mul]
          congr 1
          omega
        have hcat := ho.append hvs
        have hcl : (old ++ xs).length = (olds.toArray ++ vs.toArray).size := hcat.len
        refine ⟨fun j hj => ?_, ?_, hge, hcs⟩
        · have hj' : j < (olds.toArray ++ vs.toArray).size := by rw [← hcl]; exact hj
          have e1 : ag c j = ag (olds.toArray ++ vs.toArray) j := by simp only [c]; rw [ag_append, if_pos hj']
          rw [e1]
          refine ⟨hcat.rel j, ?_⟩
          rw [ag_of_lt hj']
          have hm : (olds.toArray ++ vs.toArray)[j] ∈ (olds.toArray ++ vs.toArray) := Array.getElem_mem hj'
          rw [Array.mem_append] at hm
          rcases hm with hm | hm
          · exact ho1 _ (by simpa using hm)
          · exact hvs1 _ (by simpa using hm)
        · rw [hcl]
          exact Nat.le_trans (Nat.le_add_right _ _) (Nat.le_of_eq Array.size_append.symm)
      cases hv with
      | snil =>
        simp only at ha
        split at ha
        · rename_i h0
          subst h0
          cases ha
          rcases hsrc' with ⟨_, ad, c, rfl⟩ | ⟨h0, _⟩
          · exact Gives.same h (run_app0 hu hi none ad 0 0 c (Nat.le_refl _)) .snil
          · omega
        · rename_i h0
          split at ha
          · rename_i hbd
            cases ha
            rcases hsrc' with ⟨h1, _⟩ | ⟨_, b, o, c, vs, rfl, q1, q2, q3, q4⟩
            · exact absurd h1 h0
            · have hrun := run_append_nil (P := P) w t ty e i zv hu hi hzv ⟨b, o, none⟩ n c vs (by rw [hsz]; exact q1) q2 (by omega) (by omega) (by omega)
              obtain ⟨f1, f2, f3, f4⟩ := fresh [] [] 0 0 vs (RVs.nil M) (by simp) q3 q4 (by simp) q1 (by omega)
              simp only [Nat.zero_add, List.nil_append, Array.empty_append] at f1 f2 f3 f4
              refine madeSl h (hf (by simp [newBlk])) (w' := w.drew.alloc (.cells _ e)) e sz n (grownCap w n 0 e) none rfl rfl rfl hrun f1 f2 f3 (by rw [f4]; exact Nat.le_refl _) (fun k hk => by cases hk) (fun _ => ?_)
              rw [hxl]
              exact Nat.mul_le_mul_right _ f3
          · cases ha
      | sval full len l b0 o0 cap f hc hfull hi0 hr h10 =>
        simp only at ha
        split at ha
        · rename_i h0
          subst h0
          cases ha
          rcases hsrc' with ⟨_, ad, c, rfl⟩ | ⟨h0, _⟩
          · exact Gives.same h (run_app0 hu hi _ ad len cap c hc) (.sval full len l b0 o0 cap f hc hfull hi0 hr h10)
          · omega
        · rename_i h0
          split at ha
          · rename_i hbd
            obtain ⟨hb1, hb2, hb3, hb4⟩ := hbd
            cases ha
            rcases hsrc' with ⟨h1, _⟩ | ⟨_, b, o, c, vs, rfl, q1, q2, q3, q4⟩
            · exact absurd h1 h0
            · obtain ⟨olds, p1, p2, p3, p4⟩ := firstCells_at hb2 (cellsAt_imm h hi0 hr h10)
              have ecap := hfull hb1
              subst ecap
              have hrun := run_append_grow (P := P) w t ty e i zv hu hi hzv ⟨b0, o0, none⟩ cap cap olds (by rw [hsz]; exact p1) p2 ⟨b, o, none⟩ n c vs (by rw [hsz]; exact q1) q2 (by omega) (by omega) (growslice_fits (by omega) (by omega))
              obtain ⟨f1, f2, f3, f4⟩ := fresh olds l cap cap vs p3 p4 q3 q4 hb2 q1 hb4
              refine madeSl h (hf (by simp [newBlk])) (w' := w.drew.alloc (.cells _ e)) e sz (cap + n) (grownCap w (cap + n) cap e) none rfl rfl rfl hrun f1 f2 f3 (by rw [f4]; exact Nat.le_refl _) (fun k hk => by cases hk) (fun _ => ?_)
              rw [List.length_append, hb2, hxl, ← Nat.add_mul]
              exact Nat.mul_le_mul_right _ f3
          · cases ha
      | sref id g off sz' len cap lc ccap hl hc hr he ho =>
        simp only at ha
        split at ha
        · rename_i esz
          subst esz
          cases hk : look m.heap id g with
          | none => simp [hk] at ha
          | some l =>
            simp only [hk, Option.bind_some] at ha
            cases hcut : cut l off (len * sz') with
            | none => simp [hcut] at ha
            | some old =>
              simp only [hcut, Option.bind_some] at ha
              obtain ⟨hold, hin⟩ := cut_eq hcut
              have hol : old.length = len * sz' := by rw [hold]; simp; omega
              have hcells : CellsAt M w lc.blk (lc.base + off) old := by rw [hold]; exact ((cellsAt_blk h hk hl).drop off).take _
              obtain ⟨olds, p1, p2, p3, p4⟩ := firstCells_at hol hcells
              obtain ⟨lc0, hB⟩ := h.blk id _ (look_eq hk)
              have e0 : lc0 = lc := by have := hB.loc; simp only at this; rw [hl] at this; exact (Option.some.inj this).symm
              subst e0
              -- in place
              have inplace : ∀ (H : Hp), storeAt m.heap id g (off + len * sz') xs = some H → len + n ≤ ccap → ∃ w', (Builtin.append_ #[t, t] ty #[.slice (some ⟨lc0.blk, lc0.base + off, none⟩) len ccap, u]).run P w = .ok (.slice (some ⟨lc0.blk, lc0.base + off, none⟩) (len + n) ccap) w' ∧
                  Holds P M H m.loops w' ∧ Fr M m.heap m.loops w M H m.loops w' := by
                intro H hst hle
                rcases hsrc' with ⟨rfl, ad, c, rfl⟩ | ⟨_, b, o, c, vs, rfl, q1, q2, q3, q4⟩
                · have hx0 : xs = [] := List.eq_nil_of_length_eq_zero (by omega)
                  subst hx0
                  obtain ⟨_, _, s3, s4⟩ := stored h hl (vs := []) (RVs.nil M) (by simp) hst
                  exact ⟨_, run_app0 hu hi _ ad len ccap c hc, s3, s4⟩
                · obtain ⟨s1, s2, s3, s4⟩ := stored h hl q3 q4 hst
                  refine ⟨_, ?_, s3, s4⟩
                  have hrun := run_append_room_cells (P := P) w t ty e i hu hi lc0.blk (lc0.base + off) len ccap ⟨b, o, none⟩ n c vs (by rw [hsz]; exact q1) q2 q4 hle
                    (fun j hj => by have := s1 j hj; rw [hsz]; rwa [show lc0.base + (off + len * sz') + j = lc0.base + off + len * sz' + j by omega] at this) (fun j _ => s2 _)
                  rw [hrun, hsz, show lc0.base + off + len * sz' = lc0.base + (off + len * sz') by omega]
              cases cap with
              | some c0 =>
                have ec := he c0 rfl
                subst ec
                simp only at ha
                split at ha
                · rename_i hroom
                  cases hst : storeAt m.heap id g (off + len * sz') xs with
                  | none => simp [hst] at ha
                  | some H =>
                    simp [hst] at ha
                    obtain ⟨rfl, rfl⟩ := ha
                    obtain ⟨w', r1, r2, r3⟩ := inplace H hst hroom
                    exact ⟨_, w', M, r1, .sref _ _ _ _ _ _ lc0 _ hl hroom hr (fun k hk => he k hk) (fun e => by cases e), r2, r3⟩
                · rename_i hroom
                  split at ha
                  · rename_i hbd
                    cases ha
                    rcases hsrc' with ⟨h1, _⟩ | ⟨_, b, o, c, vs, rfl, q1, q2, q3, q4⟩
                    · omega
                    · have hrun := run_append_grow (P := P) w t ty e i zv hu hi hzv ⟨lc0.blk, lc0.base + off, none⟩ len ccap olds (by rw [hsz]; exact p1) p2 ⟨b, o, none⟩ n c vs (by rw [hsz]; exact q1) q2 (by omega) (by omega) (growslice_fits (by omega) (by omega))
                      obtain ⟨f1, f2, f3, f4⟩ := fresh olds old len ccap vs p3 p4 q3 q4 hol q1 hbd.2
                      refine madeSl h (hf (by simp [newBlk])) (w' := w.drew.alloc (.cells _ e)) e sz' (len + n) (grownCap w (len + n) ccap e) none rfl rfl rfl hrun f1 f2 f3 (by rw [f4]; exact Nat.le_refl _) (fun k hk => by cases hk) (fun _ => ?_)
                      rw [List.length_append, hol, hxl, ← Nat.add_mul]
                      exact Nat.mul_le_mul_right _ f3
                  · cases ha
              | none =>
                have hopen := ho rfl
                have hlen := hB.len
                simp only at hlen
                simp only at ha
                split at ha
                · rename_i hfit
                  cases hst : storeAt m.heap id g (off + len * sz') xs with
                  | none => simp [hst] at ha
                  | some H =>
                    simp [hst] at ha
                    obtain ⟨rfl, rfl⟩ := ha
                    have hroom : len + n ≤ ccap := by
                      have : (len + n) * sz' ≤ ccap * sz' := by omega
                      exact Nat.le_of_mul_le_mul_right this hpos
                    obtain ⟨w', r1, r2, r3⟩ := inplace H hst hroom
                    exact ⟨_, w', M, r1, .sref _ _ _ _ _ _ lc0 _ hl hroom hr (fun k hk => by cases hk) (fun _ => hopen), r2, r3⟩
                · rename_i hfit
                  split at ha
                  · rename_i hbd
                    cases ha
                    rcases hsrc' with ⟨h1, _⟩ | ⟨_, b, o, c, vs, rfl, q1, q2, q3, q4⟩
                    · exfalso
                      subst h1
                      simp only [Nat.add_zero] at hfit
                      omega
                    · by_cases hroom : len + n ≤ ccap
                      · -- the model writes in place
                        have hmul : (len + n) * sz' ≤ ccap * sz' := Nat.mul_le_mul_right _ hroom
                        rw [Nat.add_mul] at hmul
                        have hr' : off + len * sz' + n * sz' ≤ lc0.room := by omega
                        have hthere : ∀ j, j < vs.length → (w.cell? ⟨lc0.blk, lc0.base + off + len * sz' + j, none⟩).isSome = true := fun j hj => by
                          have := hB.there (off + len * sz' + j) (by omega)
                          rwa [show lc0.base + (off + len * sz' + j) = lc0.base + off + len * sz' + j by omega] at this
                        have hrun := run_append_room_cells (P := P) w t ty e i hu hi lc0.blk (lc0.base + off) len ccap ⟨b, o, none⟩ n c vs (by rw [hsz]; exact q1) q2 q4 hroom
                          (fun j hj => by rw [hsz]; exact hthere j hj) (fun j _ => hB.froz _)
                        rw [hsz] at hrun
                        have hsome : ∀ x : Addr, (w.cell? x).isSome = true → ((w.setCells lc0.blk (lc0.base + off + len * sz') vs).cell? x).isSome = true := fun x hx => World.isSome_setCells lc0.blk vs _ w x hx
                        obtain ⟨a1, a2, a3⟩ := regrown (w' := w.setCells lc0.blk (lc0.base + off + len * sz') vs) (cs := old ++ xs) h hk hl ⟨lc0.blk, lc0.base + off, (old ++ xs).length, lc0.room - off⟩ rfl (by simp only [List.length_append]; omega)
                          (fun j hj => hsome _ (by have := hB.there (off + j) (by simp only at hj; omega); simp only; rwa [← Nat.add_assoc] at this))
                          (fun j hj => by
                            simp only [List.length_append] at hj
                            rw [gt_append]
                            by_cases hj0 : j < old.length
                            · rw [if_pos hj0]
                              obtain ⟨f, hf'⟩ := hcells
                              obtain ⟨c1, c2, c3⟩ := hf' j hj0
                              refine ⟨f j, ?_, c2, c3⟩
                              rw [World.cell?_setCells_out lc0.blk vs _ w _ (fun _ _ => by simp only; omega)]
                              exact c1
                            · rw [if_neg hj0]
                              have hj1 : j - old.length < vs.length := by omega
                              have hcin := World.cell?_setCells_in lc0.blk vs (lc0.base + off + len * sz') w hthere (j - old.length) hj1
                              rw [show lc0.base + off + len * sz' + (j - old.length) = lc0.base + off + j by omega] at hcin
                              refine ⟨vs[j - old.length], hcin, ?_, q4 _ (List.getElem_mem hj1)⟩
                              have := q3.rel (j - old.length)
                              rwa [ag_of_lt (by simpa using hj1), List.getElem_toArray] at this)
                          (fun o' => (World.frozen?_setCells lc0.blk vs _ w _).trans (hB.froz o')) (by rw [setCells_size]; exact hB.lt)
                          (by
                            have hthis : ∀ (vs : List Value) (o : Nat) (w : World), (w.shape? lc0.blk).isSome = true → ((w.setCells lc0.blk o vs).shape? lc0.blk).isSome = true := by
                              intro vs
                              induction vs with
                              | nil => intro o w h; exact h
                              | cons v r ih =>
                                intro o w h
                                rw [World.setCells]
                                refine ih _ _ ?_
                                simp only [World.shape?, World.setCell, Array.getElem?_modify, if_pos]
                                simp only [World.shape?] at h
                                cases hh : w.heap[lc0.blk]? with
                                | none => simp [hh] at h
                                | some o' => cases o' <;> simp_all
                            exact hthis vs _ w hB.obj)
                          (.inl rfl) (fun x _ hne => setCells_other lc0.blk vs _ w x hne) (fun a => World.frozen?_setCells lc0.blk vs _ w a) (setCells_os _ _ _ _).1 (setCells_os _ _ _ _).2 (by rw [setCells_size]; exact Nat.le_refl _)
                        refine ⟨_, _, _, hrun, ?_, a1, a2⟩
                        have := RV.sref (M := M.ext id (g + 1) ⟨lc0.blk, lc0.base + off, (old ++ xs).length, lc0.room - off⟩) id (g + 1) 0 sz' (len + n) none _ ccap a3 hroom (by simp only; omega) (fun k hk => by cases hk) (fun _ => by simp only [List.length_append, hol, hxl, ← Nat.add_mul, Nat.zero_add]; exact Nat.mul_le_mul_right _ hroom)
                        simpa using this
                      · -- the model makes a new block
                        have hrun := run_append_grow (P := P) w t ty e i zv hu hi hzv ⟨lc0.blk, lc0.base + off, none⟩ len ccap olds (by rw [hsz]; exact p1) p2 ⟨b, o, none⟩ n c vs (by rw [hsz]; exact q1) q2 (by omega) (by omega) (growslice_fits (by omega) (by omega))
                        obtain ⟨f1, f2, f3, f4⟩ := fresh olds old len ccap vs p3 p4 q3 q4 hol q1 hbd.2
                        generalize hC : olds.toArray ++ vs.toArray ++ Builtin.zeroCells zv.cells (grownCap w (len + n) ccap e - (len + n)) = C at hrun f1 f2 f4
                        obtain ⟨w1, w2, w3, w4⟩ := alloc_facts w C e
                        have hcell : ∀ j, (w.drew.alloc (.cells C e)).cell? ⟨w.heap.size, j, none⟩ = C[j]? := fun j => by simp only [World.cell?]; rw [w2]; rfl
                        obtain ⟨a1, a2, a3⟩ := regrown (w' := w.drew.alloc (.cells C e)) (cs := old ++ xs) h hk hl ⟨w.heap.size, 0, (old ++ xs).length, C.size⟩ rfl f2
                          (fun j hj => by simp only [Nat.zero_add]; rw [hcell]; simp only at hj; simpa using hj)
                          (fun j hj => by
                            have hj' : j < C.size := Nat.lt_of_lt_of_le hj f2
                            obtain ⟨c1, c2⟩ := f1 j hj
                            refine ⟨ag C j, ?_, c1, c2⟩
                            simp only [Nat.zero_add]
                            rw [hcell, Array.getElem?_eq_getElem hj', ag_of_lt hj'])
                          (fun o' => by simp only [World.frozen?]; rw [w2]; simp) w3 (by simp only [World.shape?]; rw [w2]; rfl) (.inr (Nat.le_refl _)) (fun x hx _ => w1 x hx) w4 rfl rfl (Nat.le_of_lt w3)
                        refine ⟨_, _, _, hrun, ?_, a1, a2⟩
                        have := RV.sref (M := M.ext id (g + 1) ⟨w.heap.size, 0, (old ++ xs).length, C.size⟩) id (g + 1) 0 sz' (len + n) none _ (grownCap w (len + n) ccap e) a3 f3 (by simp only; rw [f4]; omega) (fun k hk => by cases hk)
                          (fun _ => by simp only [List.length_append, hol, hxl, ← Nat.add_mul, Nat.zero_add]; exact Nat.mul_le_mul_right _ f3)
                        simpa using this
                  · cases ha
        · cases ha
      | _ => simp at ha
end
end Go.Zz
