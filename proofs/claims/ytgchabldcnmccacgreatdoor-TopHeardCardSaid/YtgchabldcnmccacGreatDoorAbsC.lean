import Derived.Test.YtgchabldcnmccacGreatDoorAbsB
import Derived.Lib.AppendZeros

namespace Go.Zz
section
variable {P : Program}
theorem run_app0 {w : World} {t ty e : TypeId} {i : TypeInfo} (ht : P.underlying t = some (.slice e)) (hi : P.info? e = some i) (ad ad' : Option Addr) (n cap c : Nat) (h : n ≤ cap) :
  (Builtin.append_ #[t, t] ty #[.slice ad n cap, .slice ad' 0 c]).run P w = .ok (.slice ad n cap) w := by
 cases ad <;> cases ad' <;> simp [Builtin.append_, run_underlying ht, sizeOf, typeInfo, hi, Builtin.lenOf, Builtin.firstCells, h, loadCells, loadCellsFrom, storeCells]
theorem zeroCells_size (z : Array Value) (n : Nat) : (Builtin.zeroCells z n).size = n * z.size := by simp [Builtin.zeroCells]
theorem ag_append (a b : Array Value) (i : Nat) : ag (a ++ b) i = if i < a.size then ag a i else ag b (i - a.size) := by
 simp only [ag, Array.getD_eq_getD_getElem?, Array.getElem?_append]
 split <;> rfl
theorem regrown [Globs] {M : Mp} {m : Mem} {w w' : World} (h : Holds P M m.heap m.loops w) {id g : Nat} {l : List AV} {lc : Loc} (hk : look m.heap id g = some l) (hl : M.loc id g = some lc) {cs : List AV} (lc' : Loc)
  (hlen : lc'.len = cs.length) (hroom : cs.length ≤ lc'.room) (hthere : ∀ i, i < lc'.room → (w'.cell? ⟨lc'.blk, lc'.base + i, none⟩).isSome = true)
  (hrel : ∀ i, i < cs.length → ∃ v, w'.cell? ⟨lc'.blk, lc'.base + i, none⟩ = some v ∧ RV M (gt cs i) v ∧ v.oneCell' = true) (hfroz : ∀ o, w'.frozen? ⟨lc'.blk, o, none⟩ = false) (hlt : lc'.blk < w'.heap.size) (hobj : (w'.shape? lc'.blk).isSome = true)
  (hat : lc'.blk = lc.blk ∨ w.heap.size ≤ lc'.blk) (hother : ∀ x, x < w.heap.size → x ≠ lc.blk → w'.heap[x]? = w.heap[x]?) (hfz : ∀ a, w'.frozen? a = w.frozen? a) (hos : w'.os = w.os) (hout : w'.output = w.output) (hsz : w.heap.size ≤ w'.heap.size) :
  Holds P (M.ext id (g + 1) lc') (setBlk m.heap id (g + 1) cs) m.loops w' ∧ Fr M m.heap m.loops w (M.ext id (g + 1) lc') (setBlk m.heap id (g + 1) cs) m.loops w' ∧ (M.ext id (g + 1) lc').loc id (g + 1) = some lc' := by
 have hb := look_eq hk
 have hfresh : M.loc id (g + 1) = none := h.gen id _ (g + 1) hb (Nat.lt_succ_self g)
 have hle : M.le (M.ext id (g + 1) lc') := Mp.ext_le hfresh
 obtain ⟨a, b⟩ := moved (M' := M.ext id (g + 1) lc') (b' := ⟨g + 1, cs⟩) (lc' := lc') h hb hl hle rfl rfl (fun i j l' h1 h0 => by
   by_cases e : i = id ∧ j = g + 1
   ·exact e
   ·rw [Mp.ext_other e, h0] at h1; cases h1) (by simp)
  ⟨Mp.ext_same, hlen, hroom, hthere, fun i hi => by obtain ⟨v, x1, x2, x3⟩ := hrel i hi; exact ⟨v, x1, x2.mono hle, x3⟩, hfroz, hlt, hobj⟩ hat hother hfz hos hout hsz
 exact ⟨a, b, Mp.ext_same⟩
theorem alloc_facts (w : World) (c : Array Value) (e : TypeId) : let w' := w.drew.alloc (.cells c e)
  (∀ x, x < w.heap.size → w'.heap[x]? = w.heap[x]?) ∧ w'.heap[w.heap.size]? = some (.cells c e) ∧ w.heap.size < w'.heap.size ∧ (∀ a, w'.frozen? a = w.frozen? a) := by
 intro w'
 have hw : w'.heap = w.heap.push (.cells c e) := rfl
 have h1 : ∀ x, x < w.heap.size → w'.heap[x]? = w.heap[x]? := fun x hx => by rw [hw, Array.getElem?_push]; simp [Nat.ne_of_lt hx]
 have h2 : w'.heap[w.heap.size]? = some (.cells c e) := by rw [hw]; simp
 refine ⟨h1, h2, by rw [hw]; simp, fun a => ?_⟩
 by_cases hlt : a.block < w.heap.size
 ·exact World.frozen?_of_block (h1 _ hlt)
 ·have e1 : w.heap[a.block]? = none := by simpa using hlt
  by_cases e2 : a.block = w.heap.size
  ·simp [World.frozen?, e2, h2]
  ·have : w'.heap[a.block]? = none := by rw [hw]; simp; omega
   simp [World.frozen?, e1, this]
theorem gives_appendZ [Globs] {M : Mp} {m m' : Mem} {w : World} (h : Holds P M m.heap m.loops w) (hf : m.heap.length < m'.heap.length → ∀ g, M.loc m.heap.length g = none) {t u e ty : TypeId} {sz : Nat} {i : TypeInfo} {zz : List AV} {kn : IntKind}
  (hu : P.underlying t = some (.slice e)) (hun : P.underlying u = some (.int kn)) (hs : szOf P e = some sz) (hi : P.info? e = some i) (hz : zeroOf P e = some zz) {s x z : AV} {v c : Value} (hv : RV M s v) (hx : RV M x c)
  (ha : appendZAV sz i.bytes zz m s x = some (z, m')) : Gives P M m m' w (Builtin.append_ #[t, u] ty #[v, c]) z := by
 obtain ⟨i', hi', hsz, hpos⟩ := szOf_eq hs
 rw [hi] at hi'
 cases hi'
 obtain ⟨i2, zv, hi2, hzv, hcc, hzl, _⟩ := zeroOf_eq hz
 rw [hi] at hi2
 cases hi2
 obtain ⟨r1, r2⟩ := rv_cells (M := M) hcc
 have hzs : zv.cells.size = sz := by have := r1.len; simp at this; omega
 unfold appendZAV at ha
 split at ha
 ·rename_i kk k
  split at ha
  ·rename_i hcond
   obtain ⟨c1, c2, c3⟩ := hcond
   cases ha
   cases hv
   cases hx
   obtain ⟨n, rfl⟩ : ∃ n : Nat, k = n := ⟨k.toNat, (Int.toNat_of_nonneg (Int.le_of_lt c1)).symm⟩
   have e0 : ((n : Nat) : Int).toNat = n := rfl
   rw [e0]
   have hb : (n * i.bytes : Nat) ≤ 70368744177664 := by have := c2; omega
   have hrun := Lib.run_append_nil_zeros (P := P) w t u ty e i zv kk kn hu hun hi hzv n (by omega) (by omega) (by omega) (by omega)
   have hN : n * zv.cells.size = n * zz.length := by rw [hzl, hzs, hsz]
   obtain ⟨q1, q2⟩ := rvs_zeros (by simpa using r1 : RVs M zz zv.cells) (by simpa using r2) (by omega) n (n * zv.cells.size) hN
   have ez : Builtin.zeroCells zv.cells n = (Array.range (n * zv.cells.size)).map (zv.cells[· % zv.cells.size]!) := rfl
   rw [← ez] at q1 q2
   have hge : n ≤ grownCap w n 0 e := grownCap_ge w n 0 e
   have hzl2 : (zeros zz n).length = n * sz := by rw [q1.len, zeroCells_size, hzs]
   have hcs : (Builtin.zeroCells zv.cells n ++ Builtin.zeroCells zv.cells (grownCap w n 0 e - n)).size = grownCap w n 0 e * sz := by
    rw [Array.size_append, zeroCells_size, zeroCells_size, hzs, ← Nat.add_mul]
    congr 1
    omega
   refine madeSl h (hf (by simp [newBlk])) (w' := w.drew.alloc (.cells _ e)) e sz n (grownCap w n 0 e) none rfl rfl rfl hrun (fun j hj => ?_) ?_ hge (by rw [hcs]; exact Nat.le_refl _) (fun k hk => by cases hk) (fun _ => ?_)
   ·have hj' : j < (Builtin.zeroCells zv.cells n).size := by rw [← q1.len]; exact hj
    rw [ag_append, if_pos hj']
    refine ⟨q1.rel j, ?_⟩
    rw [ag_of_lt hj']
    exact q2 _ (Array.mem_toList_iff.2 (Array.getElem_mem hj'))
   ·rw [hcs, hzl2]
    exact Nat.mul_le_mul_right _ hge
   ·rw [hzl2]
    exact Nat.mul_le_mul_right _ hge
  ·cases ha
 ·cases ha
set_option maxHeartbeats 2000000 in
theorem gives_append [Globs] {M : Mp} {m m' : Mem} {w : World} (h : Holds P M m.heap m.loops w) (hf : m.heap.length < m'.heap.length → ∀ g, M.loc m.heap.length g = none) {t e ty : TypeId} {sz : Nat} {i : TypeInfo} {zz : List AV}
  (hu : P.underlying t = some (.slice e)) (hs : szOf P e = some sz) (hi : P.info? e = some i) (hz : zeroOf P e = some zz) {s x z : AV} {v u : Value} (hv : RV M s v) (hx : RV M x u)
  (ha : appendAV sz i.bytes m s x = some (z, m')) : Gives P M m m' w (Builtin.append_ #[t, t] ty #[v, u]) z := by
 obtain ⟨i', hi', hsz, hpos⟩ := szOf_eq hs
 rw [hi] at hi'
 cases hi'
 obtain ⟨i2, zv, hi2, hzv, hcc, hzl, _⟩ := zeroOf_eq hz
 rw [hi] at hi2
 cases hi2
 have hzs : zv.cells.size = sz := by
  obtain ⟨r1, _⟩ := rv_cells (M := M) hcc
  have := r1.len; simp at this; omega
 unfold appendAV at ha
 cases hxs : scells m.heap sz x with
 | none => simp [hxs] at ha
 | some xs =>
  cases hn : slen x with
  | none => simp [hxs, hn] at ha
  | some n =>
   simp only [hxs, hn, Option.bind_eq_bind, Option.bind_some] at ha
   obtain ⟨hxl, hsrc⟩ := scells_at h hx hxs hn
   -- the source as the model has it
   have hsrc' : (n = 0 ∧ ∃ (ad : Option Addr) (c : Nat), u = .slice ad 0 c) ∨ (0 < n ∧ ∃ (b o c : Nat) (vs : List Value), u = .slice (some ⟨b, o, none⟩) n c ∧ vs.length = n * sz ∧ (∀ j v, vs[j]? = some v → w.cell? ((⟨b, o, none⟩ : Addr).add j) = some v) ∧ RVs M xs vs.toArray ∧ ∀ v ∈ vs, v.oneCell' = true) := by
    rcases hsrc with ⟨_, rfl, _, rfl⟩ | ⟨_, b, o, c, rfl, hc⟩
    ·exact .inl ⟨rfl, none, 0, rfl⟩
    ·by_cases h0 : n = 0
     ·subst h0; exact .inl ⟨rfl, _, c, rfl⟩
     ·obtain ⟨vs, q1, q2, q3, q4⟩ := firstCells_at hxl hc
      exact .inr ⟨by omega, b, o, c, vs, rfl, q1, q2, q3, q4⟩
   clear hsrc
   -- a new block behind a draw
   have fresh : ∀ (olds : List Value) (old : List AV) (len ccap0 : Nat) (vs : List Value), RVs M old olds.toArray → (∀ v ∈ olds, v.oneCell' = true) → RVs M xs vs.toArray → (∀ v ∈ vs, v.oneCell' = true) → old.length = len * sz → vs.length = n * sz → len + n ≤ 140737488355328 →
     let cap' := grownCap w (len + n) ccap0 e
     let c := olds.toArray ++ vs.toArray ++ Builtin.zeroCells zv.cells (cap' - (len + n))
     (∀ j, j < (old ++ xs).length → RV M (gt (old ++ xs) j) (ag c j) ∧ (ag c j).oneCell' = true) ∧ (old ++ xs).length ≤ c.size ∧ len + n ≤ cap' ∧ c.size = cap' * sz := by
    intro olds old len ccap0 vs ho ho1 hvs hvs1 hol hvl hsmall cap' c
    have hge : len + n ≤ cap' := grownCap_ge w (len + n) ccap0 e
    have hcs : c.size = cap' * sz := by
     simp only [c, Array.size_append, List.size_toArray, zeroCells_size, hzs, hvl]
     have := ho.len
     simp at this
     rw [← this, hol, ← Nat.add_mul, ← Nat.add_mul]
     congr 1
     omega
    have hcat := ho.append hvs
    have hcl : (old ++ xs).length = (olds.toArray ++ vs.toArray).size := hcat.len
    refine ⟨fun j hj => ?_, ?_, hge, hcs⟩
    ·have hj' : j < (olds.toArray ++ vs.toArray).size := by rw [← hcl]; exact hj
     have e1 : ag c j = ag (olds.toArray ++ vs.toArray) j := by simp only [c]; rw [ag_append, if_pos hj']
     rw [e1]
     refine ⟨hcat.rel j, ?_⟩
     rw [ag_of_lt hj']
     have hm : (olds.toArray ++ vs.toArray)[j] ∈ (olds.toArray ++ vs.toArray) := Array.getElem_mem hj'
     rw [Array.mem_append] at hm
     rcases hm with hm | hm
     ·exact ho1 _ (by simpa using hm)
     ·exact hvs1 _ (by simpa using hm)
    ·rw [hcl]
     exact Nat.le_trans (Nat.le_add_right _ _) (Nat.le_of_eq Array.size_append.symm)
   cases hv with
   | snil =>
    simp only at ha
    split at ha
    ·rename_i h0
     subst h0
     cases ha
     rcases hsrc' with ⟨_, ad, c, rfl⟩ | ⟨h0, _⟩
     ·exact Gives.same h (run_app0 hu hi none ad 0 0 c (Nat.le_refl _)) .snil
     ·omega
    ·rename_i h0
     split at ha
     ·rename_i hbd
      cases ha
      rcases hsrc' with ⟨h1, _⟩ | ⟨_, b, o, c, vs, rfl, q1, q2, q3, q4⟩
      ·exact absurd h1 h0
      ·have hrun := run_append_nil (P := P) w t ty e i zv hu hi hzv ⟨b, o, none⟩ n c vs (by rw [hsz]; exact q1) q2 (by omega) (by omega) (by omega)
       obtain ⟨f1, f2, f3, f4⟩ := fresh [] [] 0 0 vs (RVs.nil M) (by simp) q3 q4 (by simp) q1 (by omega)
       simp only [Nat.zero_add, List.nil_append, Array.empty_append] at f1 f2 f3 f4
       refine madeSl h (hf (by simp [newBlk])) (w' := w.drew.alloc (.cells _ e)) e sz n (grownCap w n 0 e) none rfl rfl rfl hrun f1 f2 f3 (by rw [f4]; exact Nat.le_refl _) (fun k hk => by cases hk) (fun _ => ?_)
       rw [hxl]
       exact Nat.mul_le_mul_right _ f3
     ·cases ha
   | sval full len l b0 o0 cap f hc hfull hi0 hr h10 =>
    simp only at ha
    split at ha
    ·rename_i h0
     subst h0
     cases ha
     rcases hsrc' with ⟨_, ad, c, rfl⟩ | ⟨h0, _⟩
     ·exact Gives.same h (run_app0 hu hi _ ad len cap c hc) (.sval full len l b0 o0 cap f hc hfull hi0 hr h10)
     ·omega
    ·rename_i h0
     split at ha
     ·rename_i hbd
      obtain ⟨hb1, hb2, hb3, hb4⟩ := hbd
      cases ha
      rcases hsrc' with ⟨h1, _⟩ | ⟨_, b, o, c, vs, rfl, q1, q2, q3, q4⟩
      ·exact absurd h1 h0
      ·obtain ⟨olds, p1, p2, p3, p4⟩ := firstCells_at hb2 (cellsAt_imm h hi0 hr h10)
       have ecap := hfull hb1
       subst ecap
       have hrun := run_append_grow (P := P) w t ty e i zv hu hi hzv ⟨b0, o0, none⟩ cap cap olds (by rw [hsz]; exact p1) p2 ⟨b, o, none⟩ n c vs (by rw [hsz]; exact q1) q2 (by omega) (by omega) (growslice_fits (by omega) (by omega))
       obtain ⟨f1, f2, f3, f4⟩ := fresh olds l cap cap vs p3 p4 q3 q4 hb2 q1 hb4
       refine madeSl h (hf (by simp [newBlk])) (w' := w.drew.alloc (.cells _ e)) e sz (cap + n) (grownCap w (cap + n) cap e) none rfl rfl rfl hrun f1 f2 f3 (by rw [f4]; exact Nat.le_refl _) (fun k hk => by cases hk) (fun _ => ?_)
       rw [List.length_append, hb2, hxl, ← Nat.add_mul]
       exact Nat.mul_le_mul_right _ f3
     ·cases ha
   | sref id g off sz' len cap lc ccap hl hc hr he ho =>
    simp only at ha
    split at ha
    ·rename_i esz
     subst esz
     cases hk : look m.heap id g with
     | none => simp [hk] at ha
     | some l =>
      simp only [hk, Option.bind_some] at ha
      cases hcut : cut l off (len * sz') with
      | none => simp [hcut] at ha
      | some old =>
       simp only [hcut, Option.bind_some] at ha
       obtain ⟨hold, hin⟩ := cut_eq hcut
       have hol : old.length = len * sz' := by rw [hold]; simp; omega
       have hcells : CellsAt M w lc.blk (lc.base + off) old := by rw [hold]; exact ((cellsAt_blk h hk hl).drop off).take _
       obtain ⟨olds, p1, p2, p3, p4⟩ := firstCells_at hol hcells
       obtain ⟨lc0, hB⟩ := h.blk id _ (look_eq hk)
       have e0 : lc0 = lc := by have := hB.loc; simp only at this; rw [hl] at this; exact (Option.some.inj this).symm
       subst e0
       -- in place
       have inplace : ∀ (H : Hp), storeAt m.heap id g (off + len * sz') xs = some H → len + n ≤ ccap → ∃ w', (Builtin.append_ #[t, t] ty #[.slice (some ⟨lc0.blk, lc0.base + off, none⟩) len ccap, u]).run P w = .ok (.slice (some ⟨lc0.blk, lc0.base + off, none⟩) (len + n) ccap) w' ∧
         Holds P M H m.loops w' ∧ Fr M m.heap m.loops w M H m.loops w' := by
        intro H hst hle
        rcases hsrc' with ⟨rfl, ad, c, rfl⟩ | ⟨_, b, o, c, vs, rfl, q1, q2, q3, q4⟩
        ·have hx0 : xs = [] := List.eq_nil_of_length_eq_zero (by omega)
         subst hx0
         obtain ⟨_, _, s3, s4⟩ := stored h hl (vs := []) (RVs.nil M) (by simp) hst
         exact ⟨_, run_app0 hu hi _ ad len ccap c hc, s3, s4⟩
        ·obtain ⟨s1, s2, s3, s4⟩ := stored h hl q3 q4 hst
         refine ⟨_, ?_, s3, s4⟩
         have hrun := run_append_room_cells (P := P) w t ty e i hu hi lc0.blk (lc0.base + off) len ccap ⟨b, o, none⟩ n c vs (by rw [hsz]; exact q1) q2 q4 hle
          (fun j hj => by have := s1 j hj; rw [hsz]; rwa [show lc0.base + (off + len * sz') + j = lc0.base + off + len * sz' + j by omega] at this) (fun j _ => s2 _)
         rw [hrun, hsz, show lc0.base + off + len * sz' = lc0.base + (off + len * sz') by omega]
       cases cap with
       | some c0 =>
        have ec := he c0 rfl
        subst ec
        simp only at ha
        split at ha
        ·rename_i hroom
         cases hst : storeAt m.heap id g (off + len * sz') xs with
         | none => simp [hst] at ha
         | some H =>
          simp [hst] at ha
          obtain ⟨rfl, rfl⟩ := ha
          obtain ⟨w', r1, r2, r3⟩ := inplace H hst hroom
          exact ⟨_, w', M, r1, .sref _ _ _ _ _ _ lc0 _ hl hroom hr (fun k hk => he k hk) (fun e => by cases e), r2, r3⟩
        ·rename_i hroom
         split at ha
         ·rename_i hbd
          cases ha
          rcases hsrc' with ⟨h1, _⟩ | ⟨_, b, o, c, vs, rfl, q1, q2, q3, q4⟩
          ·omega
          ·have hrun := run_append_grow (P := P) w t ty e i zv hu hi hzv ⟨lc0.blk, lc0.base + off, none⟩ len ccap olds (by rw [hsz]; exact p1) p2 ⟨b, o, none⟩ n c vs (by rw [hsz]; exact q1) q2 (by omega) (by omega) (growslice_fits (by omega) (by omega))
           obtain ⟨f1, f2, f3, f4⟩ := fresh olds old len ccap vs p3 p4 q3 q4 hol q1 hbd.2
           refine madeSl h (hf (by simp [newBlk])) (w' := w.drew.alloc (.cells _ e)) e sz' (len + n) (grownCap w (len + n) ccap e) none rfl rfl rfl hrun f1 f2 f3 (by rw [f4]; exact Nat.le_refl _) (fun k hk => by cases hk) (fun _ => ?_)
           rw [List.length_append, hol, hxl, ← Nat.add_mul]
           exact Nat.mul_le_mul_right _ f3
         ·cases ha
       | none =>
        have hopen := ho rfl
        have hlen := hB.len
        simp only at hlen
        simp only at ha
        split at ha
        ·rename_i hfit
         cases hst : storeAt m.heap id g (off + len * sz') xs with
         | none => simp [hst] at ha
         | some H =>
          simp [hst] at ha
          obtain ⟨rfl, rfl⟩ := ha
          have hroom : len + n ≤ ccap := by
           have : (len + n) * sz' ≤ ccap * sz' := by omega
           exact Nat.le_of_mul_le_mul_right this hpos
          obtain ⟨w', r1, r2, r3⟩ := inplace H hst hroom
          exact ⟨_, w', M, r1, .sref _ _ _ _ _ _ lc0 _ hl hroom hr (fun k hk => by cases hk) (fun _ => hopen), r2, r3⟩
        ·rename_i hfit
         split at ha
         ·rename_i hbd
          cases ha
          rcases hsrc' with ⟨h1, _⟩ | ⟨_, b, o, c, vs, rfl, q1, q2, q3, q4⟩
          ·exfalso
           subst h1
           simp only [Nat.add_zero] at hfit
           omega
          ·by_cases hroom : len + n ≤ ccap
           ·-- the model writes in place
            have hmul : (len + n) * sz' ≤ ccap * sz' := Nat.mul_le_mul_right _ hroom
            rw [Nat.add_mul] at hmul
            have hr' : off + len * sz' + n * sz' ≤ lc0.room := by omega
            have hthere : ∀ j, j < vs.length → (w.cell? ⟨lc0.blk, lc0.base + off + len * sz' + j, none⟩).isSome = true := fun j hj => by
             have := hB.there (off + len * sz' + j) (by omega)
             rwa [show lc0.base + (off + len * sz' + j) = lc0.base + off + len * sz' + j by omega] at this
            have hrun := run_append_room_cells (P := P) w t ty e i hu hi lc0.blk (lc0.base + off) len ccap ⟨b, o, none⟩ n c vs (by rw [hsz]; exact q1) q2 q4 hroom
             (fun j hj => by rw [hsz]; exact hthere j hj) (fun j _ => hB.froz _)
            rw [hsz] at hrun
            have hsome : ∀ x : Addr, (w.cell? x).isSome = true → ((w.setCells lc0.blk (lc0.base + off + len * sz') vs).cell? x).isSome = true := fun x hx => World.isSome_setCells lc0.blk vs _ w x hx
            obtain ⟨a1, a2, a3⟩ := regrown (w' := w.setCells lc0.blk (lc0.base + off + len * sz') vs) (cs := old ++ xs) h hk hl ⟨lc0.blk, lc0.base + off, (old ++ xs).length, lc0.room - off⟩ rfl (by simp only [List.length_append]; omega)
             (fun j hj => hsome _ (by have := hB.there (off + j) (by simp only at hj; omega); simp only; rwa [← Nat.add_assoc] at this))
             (fun j hj => by
              simp only [List.length_append] at hj
              rw [gt_append]
              by_cases hj0 : j < old.length
              ·rw [if_pos hj0]
               obtain ⟨f, hf'⟩ := hcells
               obtain ⟨c1, c2, c3⟩ := hf' j hj0
               refine ⟨f j, ?_, c2, c3⟩
               rw [World.cell?_setCells_out lc0.blk vs _ w _ (fun _ _ => by simp only; omega)]
               exact c1
              ·rw [if_neg hj0]
               have hj1 : j - old.length < vs.length := by omega
               have hcin := World.cell?_setCells_in lc0.blk vs (lc0.base + off + len * sz') w hthere (j - old.length) hj1
               rw [show lc0.base + off + len * sz' + (j - old.length) = lc0.base + off + j by omega] at hcin
               refine ⟨vs[j - old.length], hcin, ?_, q4 _ (List.getElem_mem hj1)⟩
               have := q3.rel (j - old.length)
               rwa [ag_of_lt (by simpa using hj1), List.getElem_toArray] at this)
             (fun o' => (World.frozen?_setCells lc0.blk vs _ w _).trans (hB.froz o')) (by rw [setCells_size]; exact hB.lt)
             (by
              have hthis : ∀ (vs : List Value) (o : Nat) (w : World), (w.shape? lc0.blk).isSome = true → ((w.setCells lc0.blk o vs).shape? lc0.blk).isSome = true := by
               intro vs
               induction vs with
               | nil => intro o w h; exact h
               | cons v r ih =>
                intro o w h
                rw [World.setCells]
                refine ih _ _ ?_
                simp only [World.shape?, World.setCell, Array.getElem?_modify, if_pos]
                simp only [World.shape?] at h
                cases hh : w.heap[lc0.blk]? with
                | none => simp [hh] at h
                | some o' => cases o' <;> simp_all
              exact hthis vs _ w hB.obj)
             (.inl rfl) (fun x _ hne => setCells_other lc0.blk vs _ w x hne) (fun a => World.frozen?_setCells lc0.blk vs _ w a) (setCells_os _ _ _ _).1 (setCells_os _ _ _ _).2 (by rw [setCells_size]; exact Nat.le_refl _)
            refine ⟨_, _, _, hrun, ?_, a1, a2⟩
            have := RV.sref (M := M.ext id (g + 1) ⟨lc0.blk, lc0.base + off, (old ++ xs).length, lc0.room - off⟩) id (g + 1) 0 sz' (len + n) none _ ccap a3 hroom (by simp only; omega) (fun k hk => by cases hk) (fun _ => by simp only [List.length_append, hol, hxl, ← Nat.add_mul, Nat.zero_add]; exact Nat.mul_le_mul_right _ hroom)
            simpa using this
           ·-- the model makes a new block
            have hrun := run_append_grow (P := P) w t ty e i zv hu hi hzv ⟨lc0.blk, lc0.base + off, none⟩ len ccap olds (by rw [hsz]; exact p1) p2 ⟨b, o, none⟩ n c vs (by rw [hsz]; exact q1) q2 (by omega) (by omega) (growslice_fits (by omega) (by omega))
            obtain ⟨f1, f2, f3, f4⟩ := fresh olds old len ccap vs p3 p4 q3 q4 hol q1 hbd.2
            generalize hC : olds.toArray ++ vs.toArray ++ Builtin.zeroCells zv.cells (grownCap w (len + n) ccap e - (len + n)) = C at hrun f1 f2 f4
            obtain ⟨w1, w2, w3, w4⟩ := alloc_facts w C e
            have hcell : ∀ j, (w.drew.alloc (.cells C e)).cell? ⟨w.heap.size, j, none⟩ = C[j]? := fun j => by simp only [World.cell?]; rw [w2]; rfl
            obtain ⟨a1, a2, a3⟩ := regrown (w' := w.drew.alloc (.cells C e)) (cs := old ++ xs) h hk hl ⟨w.heap.size, 0, (old ++ xs).length, C.size⟩ rfl f2
             (fun j hj => by simp only [Nat.zero_add]; rw [hcell]; simp only at hj; simpa using hj)
             (fun j hj => by
              have hj' : j < C.size := Nat.lt_of_lt_of_le hj f2
              obtain ⟨c1, c2⟩ := f1 j hj
              refine ⟨ag C j, ?_, c1, c2⟩
              simp only [Nat.zero_add]
              rw [hcell, Array.getElem?_eq_getElem hj', ag_of_lt hj'])
             (fun o' => by simp only [World.frozen?]; rw [w2]; simp) w3 (by simp only [World.shape?]; rw [w2]; rfl) (.inr (Nat.le_refl _)) (fun x hx _ => w1 x hx) w4 rfl rfl (Nat.le_of_lt w3)
            refine ⟨_, _, _, hrun, ?_, a1, a2⟩
            have := RV.sref (M := M.ext id (g + 1) ⟨w.heap.size, 0, (old ++ xs).length, C.size⟩) id (g + 1) 0 sz' (len + n) none _ (grownCap w (len + n) ccap e) a3 f3 (by simp only; rw [f4]; omega) (fun k hk => by cases hk)
             (fun _ => by simp only [List.length_append, hol, hxl, ← Nat.add_mul, Nat.zero_add]; exact Nat.mul_le_mul_right _ f3)
            simpa using this
         ·cases ha
    ·cases ha
   | _ => simp at ha
end
end Go.Zz


namespace Go.Zz
section
variable {P : Program}
theorem gives_copy [Globs] {M : Mp} {m m' : Mem} {w : World} (h : Holds P M m.heap m.loops w) {t t' e ty : TypeId} {sz : Nat} (hu : P.underlying t = some (.slice e)) (hs : szOf P e = some sz) {d x z : AV} {v u : Value} (hv : RV M d v) (hx : RV M x u)
  (ha : copyAV sz m d x = some (z, m')) : Gives P M m m' w (Builtin.copy_ #[t, t'] ty #[v, u]) z := by
 obtain ⟨i, hi, hsz, hpos⟩ := szOf_eq hs
 unfold copyAV at ha
 cases hxs : scells m.heap sz x with
 | none => simp [hxs] at ha
 | some xs =>
  cases hn : slen x with
  | none => simp [hxs, hn] at ha
  | some n =>
   simp only [hxs, hn, Option.bind_eq_bind, Option.bind_some] at ha
   obtain ⟨hxl, hsrc⟩ := scells_at h hx hxs hn
   have hsrc' : ∃ ad c, u = .slice ad n c ∧ ∀ k, k ≤ n → ∃ vs : List Value, vs.length = k * sz ∧ (Builtin.firstCells sz k u).run P w = .ok vs.toArray w ∧ RVs M (xs.take (k * sz)) vs.toArray ∧ ∀ v ∈ vs, v.oneCell' = true := by
    rcases hsrc with ⟨_, rfl, rfl, rfl⟩ | ⟨_, b, o, c, rfl, hc⟩
    ·refine ⟨none, 0, rfl, fun k hk => ?_⟩
     have : k = 0 := by omega
     subst this
     exact ⟨[], by simp, run_firstCells_none w sz 0 0 0, by simpa using RVs.nil M, by simp⟩
    ·refine ⟨_, c, rfl, fun k hk => ?_⟩
     have hmul : k * sz ≤ n * sz := Nat.mul_le_mul_right _ hk
     obtain ⟨vs, q1, q2, q3, q4⟩ := firstCells_at (n := k) (sz := sz) (xs := xs.take (k * sz)) (by simp; omega) (hc.take _)
     exact ⟨vs, q1, run_firstCells_some w sz k ⟨b, o, none⟩ n c vs q1 q2, q3, q4⟩
   obtain ⟨ad, c, rfl, hk⟩ := hsrc'
   cases hv with
   | snil =>
    simp at ha
    obtain ⟨rfl, rfl⟩ := ha
    obtain ⟨vs, q1, q2, _, _⟩ := hk 0 (Nat.zero_le _)
    have hv0 : vs = [] := List.eq_nil_of_length_eq_zero (by simpa using q1)
    subst hv0
    exact Gives.same h (v := .int .i64 0) (by simp [Builtin.copy_, run_underlying hu, Builtin.lenOf, sizeOf, typeInfo, hi, hsz, q2, goInt]) (.int _ _)
   | sref id g off sz' len cap lc ccap hl hc hr he ho =>
    simp only at ha
    split at ha
    ·rename_i esz
     subst esz
     cases hst : storeAt m.heap id g off (xs.take (Nat.min n len * sz')) with
     | none => simp [hst] at ha
     | some H =>
      simp [hst] at ha
      obtain ⟨rfl, rfl⟩ := ha
      obtain ⟨vs, q1, q2, q3, q4⟩ := hk (Nat.min n len) (Nat.min_le_left _ _)
      obtain ⟨s1, s2, s3, s4⟩ := stored h hl q3 q4 hst
      have hrun := run_storeCells_cells (P := P) lc.blk (lc.base + off) vs 0 w (fun j hj => by simpa using s1 j hj) (fun j _ => s2 _) q4
      simp only [Nat.add_zero] at hrun
      exact ⟨_, _, M, by simp [Builtin.copy_, run_underlying hu, Builtin.lenOf, sizeOf, typeInfo, hi, hsz, q2, hrun, goInt], .int _ _, s3, s4⟩
    ·cases ha
   | _ => simp at ha
theorem gives_clear [Globs] {M : Mp} {m m' : Mem} {w : World} (h : Holds P M m.heap m.loops w) {t e ty : TypeId} {zz : List AV} (hu : P.underlying t = some (.slice e)) (hz : zeroOf P e = some zz) {x : AV} {v : Value} (hv : RV M x v)
  (ha : clearAV zz m x = some m') : Gives P M m m' w (Builtin.clear_ #[t] ty #[v]) und := by
 obtain ⟨i, zv, hi, hzv, hcc, hzl, hzp⟩ := zeroOf_eq hz
 unfold clearAV at ha
 cases hv with
 | snil =>
  simp at ha
  subst ha
  exact Gives.same h (v := .tuple #[]) (by simp [Builtin.clear_, run_underlying hu]) .tup0
 | sval full len l b o cap f hc hf hi0 hr h1 =>
  cases len with
  | zero =>
   simp at ha
   subst ha
   exact Gives.same h (v := .tuple #[]) (by simp [Builtin.clear_, run_underlying hu]) .tup0
  | succ n => simp at ha
 | sref id g off sz' len cap lc ccap hl hc hr he ho =>
  simp only at ha
  split at ha
  ·rename_i h0
   subst h0
   cases ha
   exact Gives.same h (v := .tuple #[]) (by simp [Builtin.clear_, run_underlying hu]) .tup0
  ·rename_i h0
   cases hst : storeAt m.heap id g off (zeros zz len) with
   | none => simp [hst] at ha
   | some H =>
    simp [hst] at ha
    subst ha
    obtain ⟨r1, r2⟩ := rv_cells (M := M) hcc
    have hzs : zv.cells.size = zz.length := by have := r1.len; simp at this; omega
    obtain ⟨q1, q2⟩ := rvs_zeros (by simpa using r1 : RVs M zz zv.cells) (by simpa using r2) (by omega) len (len * zv.cells.size) (by rw [hzs])
    have e1 : (Array.range (len * zv.cells.size)).map (zv.cells[· % zv.cells.size]!) = Builtin.zeroCells zv.cells len := rfl
    rw [e1] at q1 q2
    obtain ⟨s1, s2, s3, s4⟩ := stored h hl (vs := (Builtin.zeroCells zv.cells len).toList) (by simpa using q1) q2 hst
    have hrun := run_storeCells_cells (P := P) lc.blk (lc.base + off) (Builtin.zeroCells zv.cells len).toList 0 w (fun j hj => by simpa using s1 j hj) (fun j _ => s2 _) q2
    simp only [Nat.add_zero] at hrun
    exact ⟨.tuple #[], _, M, by simp [Builtin.clear_, run_underlying hu, zeroValue, typeInfo, hi, hzv, h0, hrun], .tup0, s3, s4⟩
 | _ => simp at ha
def OpGives [Globs] (P : Program) (M : Mp) (m m' : Mem) (w : World) (s : Sem Next) (x : AV) : Prop :=
 ∃ v w' M', (s.run P w = .ok (.value v) w' ∨ (s.run P w = .ok .skip w' ∧ v = undef)) ∧ RV M' x v ∧ Holds P M' m'.heap m'.loops w' ∧ Fr M m.heap m.loops w M' m'.heap m'.loops w'
theorem Gives.op [Globs] {M : Mp} {m m' : Mem} {w : World} {s : Sem Value} {x : AV} (h : Gives P M m m' w s x) : OpGives P M m m' w (do pure (.value (← s))) x := by
 obtain ⟨v, w', M', h1, h2, h3, h4⟩ := h
 exact ⟨v, w', M', .inl (by simp [h1]), h2, h3, h4⟩
theorem GivesU.op [Globs] {M : Mp} {m m' : Mem} {w : World} {s : Sem Unit} (h : GivesU P M m m' w s) : OpGives P M m m' w (do s; pure .skip) und := by
 obtain ⟨w', M', h1, h3, h4⟩ := h
 exact ⟨undef, w', M', .inr ⟨by simp [h1], rfl⟩, .tup0, h3, h4⟩
def isCall : IOp → Bool
 | .call .. | .makeMap | .mapSet .. | .mapGet .. | .lenM _ => true
 | _ => false
theorem opds_list [Globs] {M : Mp} {T : List AV} {a : Act} (hT : RT M T a) {xs : Array Operand} {ys : List Opd} (h : cOpds xs.toList = some ys) : RVs M (ys.map (·.ev T)) (xs.map a.eval) := by
 have := rv_opds hT h
 rwa [show (xs.toList.map a.eval).toArray = xs.map a.eval by rw [← Array.toList_map, Array.toArray_toList]] at this
theorem run_builtin {w : World} {ρ : Operand → Value} {o : Oper} {c : Call} {b : Builtin} (ho : o.op = .call c) (hb : c.callee = .builtin b) :
  (execOp ρ o).run P w = (builtin b c.argTypes o.type (c.args.map fun | .const _ => true | _ => false) (c.args.map ρ)).run P w := by
 simp only [execOp, ho, resolve, hb, invoke, Sem.run_bind, Sem.run_pure, Result.andThen_ok]
 rfl
theorem op_sound [Globs] {M : Mp} {m m' : Mem} {w : World} (h : Holds P M m.heap m.loops w) (hf : m.heap.length < m'.heap.length → ∀ g, M.loc m.heap.length g = none) {T : List AV} {a : Act} (hT : RT M T a)
  {o : Oper} {io : IOp} (hc : cOp P o.op = some io) (hcall : isCall io = false) {call : AV → List AV → Mem → Option (AV × Mem)} {x : AV} (he : evOp call T m io = some (x, m')) :
  OpGives P M m m' w (execOp a.eval o) x := by
 have nb : ∀ l, m' = newBlk m l → ∀ g, M.loc m.heap.length g = none := fun l e => hf (by rw [e]; simp [newBlk])
 cases ho : o.op with
 | move y =>
  rw [ho] at hc
  simp [cOp] at hc
  obtain ⟨z, hz, rfl⟩ := hc
  simp [evOp] at he
  obtain ⟨rfl, rfl⟩ := he
  exact ⟨_, w, M, .inl (by simp [execOp, ho]), rv_opd hT hz, h, Fr.refl _ _ _ _⟩
 | assign y =>
  rw [ho] at hc
  simp [cOp] at hc
  obtain ⟨z, hz, rfl⟩ := hc
  simp [evOp] at he
  obtain ⟨rfl, rfl⟩ := he
  exact ⟨_, w, M, .inl (by simp [execOp, ho]), rv_opd hT hz, h, Fr.refl _ _ _ _⟩
 | pick c p q =>
  rw [ho] at hc
  simp only [cOp] at hc
  split at hc
  ·rename_i c' p' q' h1 h2 h3
   cases hc
   simp only [evOp] at he
   split at he
   ·rename_i t ht
    simp at he
    obtain ⟨rfl, rfl⟩ := he
    have r1 := rv_opd hT h1
    rw [ht] at r1
    generalize hev : a.eval c = cv at r1
    cases r1
    refine ⟨if t then a.eval p else a.eval q, w, M, .inl ?_, ?_, h, Fr.refl _ _ _ _⟩
    ·cases t <;> simp [execOp, ho, hev, asBool]
    ·cases t
     ·exact rv_opd hT h3
     ·exact rv_opd hT h2
   ·cases he
  ·cases hc
 | alloc e =>
  rw [ho] at hc
  simp [cOp] at hc
  obtain ⟨z, hz, rfl⟩ := hc
  simp [evOp] at he
  obtain ⟨rfl, rfl⟩ := he
  have := (gives_alloc h (nb _ rfl) hz).op
  simpa [execOp, ho] using this
 | box e y =>
  rw [ho] at hc
  simp [cOp] at hc
  obtain ⟨z, hz, rfl⟩ := hc
  simp only [evOp] at he
  cases hcs : (z.ev T).cells with
  | none => simp [hcs] at he
  | some cs =>
   simp [hcs] at he
   obtain ⟨rfl, rfl⟩ := he
   have := (gives_box h (nb _ rfl) e (rv_opd hT hz) hcs).op
   simpa [execOp, ho] using this
 | build t parts =>
  rw [ho] at hc
  have hc' := hc
  simp only [cOp] at hc'
  have : ∃ z ps, io = .build z ps := by
   split at hc'
   ·rename_i z fs _ _
    cases hp : cParts (fun i => (fs[i]?).bind fun (f : Field) => (szOf P f.type).map fun s => (f.offset, s)) parts.toList with
    | none => simp [hp] at hc'
    | some ps => simp [hp] at hc'; exact ⟨_, _, hc'.2.symm⟩
   ·split at hc'
    ·simp at hc'; obtain ⟨ps, _, rfl⟩ := hc'; exact ⟨_, _, rfl⟩
    ·cases hc'
   ·cases hc'
  obtain ⟨z, ps, rfl⟩ := this
  simp only [evOp] at he
  cases hfl : fillP T z ps with
  | none => simp [hfl] at he
  | some out =>
   simp [hfl] at he
   obtain ⟨rfl, rfl⟩ := he
   have := (gives_build h hT hc hfl).op
   simpa [execOp, ho] using this
 | buildSlice t len parts =>
  rw [ho] at hc
  have hc' := hc
  simp only [cOp] at hc'
  have : ∃ n sz z ps, io = .buildSlice n sz z ps := by
   split at hc'
   ·split at hc'
    ·split at hc'
     ·simp at hc'; obtain ⟨ps, _, rfl⟩ := hc'; exact ⟨_, _, _, _, rfl⟩
     ·cases hc'
    ·cases hc'
   ·cases hc'
  obtain ⟨n, sz, z, ps, rfl⟩ := this
  simp only [evOp] at he
  cases hfl : fillP T (zeros z n) ps with
  | none => simp [hfl] at he
  | some out =>
   simp [hfl] at he
   obtain ⟨rfl, rfl⟩ := he
   have := (gives_buildSlice h (nb _ rfl) hT hc hfl).op
   simpa [execOp, ho] using this
 | load t y =>
  rw [ho] at hc
  simp only [cOp] at hc
  split at hc
  ·rename_i g s z hg hs hz
   cases hc
   simp only [evOp] at he
   cases hk : loadAV m.heap g s (z.ev T) with
   | none => simp [hk] at he
   | some r =>
    simp [hk] at he
    obtain ⟨rfl, rfl⟩ := he
    have := (gives_load h hg hs (rv_opd hT hz) hk).op
    simpa [execOp, ho] using this
  ·cases hc
 | store t y y2 =>
  rw [ho] at hc
  simp only [cOp] at hc
  split at hc
  ·rename_i s z z2 hs hz hz2
   cases hc
   simp only [evOp] at he
   split at he
   ·rename_i id g off hzz
    cases hcs : (z2.ev T).cells with
    | none => simp [hcs] at he
    | some c =>
     simp only [hcs, Option.bind_some] at he
     split at he
     ·rename_i hl
      cases hst : storeAt m.heap id g off c with
      | none => simp [hst] at he
      | some H =>
       simp [hst] at he
       obtain ⟨rfl, rfl⟩ := he
       have r1 := rv_opd hT hz
       rw [hzz] at r1
       have := (gives_store h hs r1 (rv_opd hT hz2) hcs hl hst).op
       simpa [execOp, ho] using this
     ·cases he
   ·cases he
  ·cases hc
 | nilCheck y =>
  rw [ho] at hc
  simp [cOp] at hc
  obtain ⟨z, hz, rfl⟩ := hc
  simp only [evOp] at he
  cases hn : nilCheckAV (z.ev T) with
  | none => simp [hn] at he
  | some r =>
   simp [hn] at he
   obtain ⟨rfl, rfl⟩ := he
   obtain ⟨g1, g2⟩ := gives_nilCheck (P := P) (w := w) (rv_opd hT hz) hn ho rfl
   exact ⟨_, w, M, .inl g1, g2, h, Fr.refl _ _ _ _⟩
 | binOp op t y y2 yt =>
  rw [ho] at hc
  simp only [cOp] at hc
  have hex : ∀ {r : Value} {w' : World}, (eqGuard op t y y2 (a.eval y) (a.eval y2)).run P w = .ok () w → (binOp op t (a.eval y) (a.eval y2)).run P w = .ok r w' → (execOp a.eval o).run P w = .ok (.value r) w' := fun h1 h2 => by
   simp [execOp, ho, h1, h2]
  have agg : ∀ z z2 D, cOpd y = some z → cOpd y2 = some z2 → P.underlying t = some D → D.isRow = true →
    (match (generalizing := false) op, sigOf P eqDepth t with
     | .eql, some sg => if P.eqGuardType P.depth t then none else some (IOp.aggEq false sg z z2)
     | .neq, some sg => if P.eqGuardType P.depth t then none else some (IOp.aggEq true sg z z2)
     | _, _ => none) = some io → OpGives P M m m' w (execOp a.eval o) x := by
   intro z z2 D hz hz2 hu hrow hc
   have key : ∃ neg sg, io = .aggEq neg sg z z2 ∧ op = (if neg then .neq else .eql) ∧ sigOf P eqDepth t = some sg ∧ P.eqGuardType P.depth t = false := by
    split at hc
    ·split at hc
     ·cases hc
     ·rename_i hg; cases hc; exact ⟨false, _, rfl, rfl, by assumption, by simpa using hg⟩
    ·split at hc
     ·cases hc
     ·rename_i hg; cases hc; exact ⟨true, _, rfl, rfl, by assumption, by simpa using hg⟩
    ·cases hc
   obtain ⟨neg, sg, rfl, rfl, hsg, hgd⟩ := key
   simp only [evOp] at he
   split at he
   ·rename_i p q e1 e2
    cases hq : cellsEq sg p q with
    | none => simp [hq] at he
    | some r =>
     simp [hq] at he
     obtain ⟨rfl, rfl⟩ := he
     have r1 := rv_opd hT hz
     have r2 := rv_opd hT hz2
     rw [e1] at r1
     rw [e2] at r2
     generalize hyv : a.eval y = yv at r1
     generalize hyv2 : a.eval y2 = yv2 at r2
     cases r1 with
     | agg _ c1 l1 k1 _ =>
      cases r2 with
      | agg _ c2 l2 k2 _ =>
       exact ⟨.bool (if neg then !r else r), w, M, .inl (hex (by rw [hyv, hyv2]; exact run_eqGuard_agg w _ t y y2 _ _ hgd) (by rw [hyv, hyv2]; exact run_aggEq hu hrow hsg ⟨l1, k1⟩ ⟨l2, k2⟩ hq neg)), .bool _, h, Fr.refl _ _ _ _⟩
   ·cases he
  have nilq : ∀ k z z2 D, cOpd y = some z → cOpd y2 = some z2 → P.underlying t = some D → nilType k D →
    (match (generalizing := false) op with
     | .eql => some (IOp.nilEq k false z z2)
     | .neq => some (IOp.nilEq k true z z2)
     | _ => none) = some io → OpGives P M m m' w (execOp a.eval o) x := by
   intro k z z2 D hz hz2 hu hD hc
   have key : ∃ neg, io = .nilEq k neg z z2 ∧ op = (if neg then .neq else .eql) := by
    split at hc
    ·cases hc; exact ⟨false, rfl, rfl⟩
    ·cases hc; exact ⟨true, rfl, rfl⟩
    ·cases hc
   obtain ⟨neg, rfl, rfl⟩ := key
   simp only [evOp] at he
   cases hq : nilEqAV k (z.ev T) (z2.ev T) with
   | none => simp [hq] at he
   | some r =>
    simp [hq] at he
    obtain ⟨rfl, rfl⟩ := he
    have r1 := rv_opd hT hz
    have r2 := rv_opd hT hz2
    obtain ⟨g1, g2, g3⟩ := run_nilEq (P := P) (w := w) 9999 hu hD r1 r2 hq
    have hsh : ((a.eval y = .slice none 0 0 ∨ ∃ p n c, a.eval y = .slice p n c) ∨ (∃ p, a.eval y = .pointer p) ∨ a.eval y = .nilFunc ∨ ∃ f p b, a.eval y = .func f p b) ∧
      ((∃ p n c, a.eval y2 = .slice p n c) ∨ (∃ p, a.eval y2 = .pointer p) ∨ a.eval y2 = .nilFunc ∨ ∃ f p b, a.eval y2 = .func f p b) := by
     generalize a.eval y = yv at r1
     generalize a.eval y2 = yv2 at r2
     generalize z.ev T = zv at r1 hq
     generalize z2.ev T = zv2 at r2 hq
     unfold nilEqAV at hq
     split at hq <;> first | (cases hq; done) | skip
     all_goals
      cases r1
      cases r2
      simp
    exact ⟨.bool (if neg then !r else r), w, M, .inl (hex (run_eqGuard_of _ t y y2 _ _ g2 g3) (run_eqOp g1 hsh.1 hsh.2 neg)), .bool _, h, Fr.refl _ _ _ _⟩
  split at hc
  ·rename_i z z2 k hz hz2 hu
   cases hc
   simp only [evOp] at he
   cases hb : binAV op (z.ev T) (z2.ev T) with
   | none => simp [hb] at he
   | some r =>
    simp [hb] at he
    obtain ⟨rfl, rfl⟩ := he
    obtain ⟨rv, g1, g2⟩ := run_bin (P := P) (w := w) (t := t) (rv_opd hT hz) (rv_opd hT hz2) hb
    have hi : ∃ k n, a.eval y = .int k n := by
     have r1 := rv_opd hT hz
     unfold binAV at hb
     split at hb
     ·rename_i k' n' _ _ e1 _
      rw [e1] at r1
      generalize a.eval y = yv at r1
      cases r1
      exact ⟨_, _, rfl⟩
     ·cases hb
    obtain ⟨k', n', hk'⟩ := hi
    exact ⟨rv, w, M, .inl (hex (run_eqGuard_of op t y y2 _ _ (by rw [hk']; simp) (by rw [hk']; simp)) g1), g2, h, Fr.refl _ _ _ _⟩
  ·rename_i z z2 hz hz2 hu
   have key : ∃ neg, io = .beq neg z z2 ∧ op = (if neg then .neq else .eql) := by
    split at hc
    ·cases hc; exact ⟨false, rfl, rfl⟩
    ·cases hc; exact ⟨true, rfl, rfl⟩
    ·cases hc
   obtain ⟨neg, rfl, rfl⟩ := key
   simp only [evOp] at he
   split at he
   ·rename_i p q e1 e2
    simp at he
    obtain ⟨rfl, rfl⟩ := he
    have r1 := rv_opd hT hz
    have r2 := rv_opd hT hz2
    rw [e1] at r1
    rw [e2] at r2
    generalize hyv : a.eval y = yv at r1
    generalize hyv2 : a.eval y2 = yv2 at r2
    cases r1
    cases r2
    refine ⟨.bool (if neg then !(p == q) else p == q), w, M, .inl (hex (run_eqGuard_of _ t y y2 _ _ (by rw [hyv]; simp) (by rw [hyv]; simp)) (by rw [hyv, hyv2]; exact run_beq hu neg p q)), .bool _, h, Fr.refl _ _ _ _⟩
   ·cases he
  ·rename_i z z2 hz hz2 hu
   have key : ∃ neg, io = .strOp (.eql neg) [z, z2] ∧ op = (if neg then .neq else .eql) := by
    split at hc
    ·cases hc; exact ⟨false, rfl, rfl⟩
    ·cases hc; exact ⟨true, rfl, rfl⟩
    ·cases hc
   obtain ⟨neg, rfl, rfl⟩ := key
   simp only [evOp, List.map_cons, List.map_nil] at he
   have r1 := rv_opd hT hz
   have r2 := rv_opd hT hz2
   cases hq : strAV (.eql neg) [z.ev T, z2.ev T] with
   | none => simp [hq] at he
   | some r =>
    simp [hq] at he
    obtain ⟨rfl, rfl⟩ := he
    generalize z.ev T = zv at r1 hq
    generalize z2.ev T = zv2 at r2 hq
    unfold strAV at hq
    split at hq <;> first | (rename_i e1 e2; cases e1; done) | skip
    all_goals first | (cases hq; done) | skip
    all_goals rename_i e1 e2
    all_goals first | (cases e1; done) | skip
    cases e1
    cases e2
    cases hq
    generalize hyv : a.eval y = yv at r1
    generalize hyv2 : a.eval y2 = yv2 at r2
    cases r1
    cases r2
    exact ⟨_, w, M, .inl (hex (run_eqGuard_of _ t y y2 _ _ (by rw [hyv]; simp) (by rw [hyv]; simp)) (by rw [hyv, hyv2]; exact run_strEq hu _ _ _)), .bool _, h, Fr.refl _ _ _ _⟩
  ·rename_i z z2 fs hz hz2 hu
   exact agg z z2 _ hz hz2 hu rfl hc
  ·rename_i z z2 n e hz hz2 hu
   exact agg z z2 _ hz hz2 hu rfl hc
  ·rename_i z z2 e hz hz2 hu
   exact nilq 0 z z2 _ hz hz2 hu ⟨fun _ => ⟨e, rfl⟩, by simp, by simp⟩ hc
  ·rename_i z z2 e hz hz2 hu
   exact nilq 1 z z2 _ hz hz2 hu ⟨by simp, fun _ => ⟨e, rfl⟩, by simp⟩ hc
  ·rename_i z z2 p q r hz hz2 hu
   exact nilq 2 z z2 _ hz hz2 hu ⟨by simp, by simp, fun _ => ⟨p, q, r, rfl⟩⟩ hc
  ·rename_i z z2 ms hz hz2 hu
   have key : ∃ neg, io = .ifNil neg z ∧ op = (if neg then .neq else .eql) ∧ y2 = .const .nilIface := by
    split at hc
    ·cases hc; exact ⟨false, rfl, rfl, rfl⟩
    ·cases hc; exact ⟨true, rfl, rfl, rfl⟩
    ·cases hc
   obtain ⟨neg, rfl, rfl, rfl⟩ := key
   simp only [evOp] at he
   have r1 := rv_opd hT hz
   have e2 : a.eval (.const .nilIface) = .nilIface := rfl
   cases hq : isNilAV (z.ev T) with
   | none => simp [hq] at he
   | some r =>
    simp [hq] at he
    obtain ⟨rfl, rfl⟩ := he
    generalize hyv : a.eval y = yv at r1
    generalize z.ev T = zv at r1 hq
    unfold isNilAV at hq
    split at hq <;> first | (cases hq; done) | skip
    ·cases hq
     cases r1
     exact ⟨_, w, M, .inl (hex (by rw [hyv, e2]; cases neg <;> simp [eqGuard]) (by rw [hyv, e2]; exact run_ifNil hu (.inl ⟨rfl, rfl⟩) neg)), .bool _, h, Fr.refl _ _ _ _⟩
    ·cases hq
     cases r1
     exact ⟨_, w, M, .inl (hex (by rw [hyv, e2]; cases neg <;> simp [eqGuard]) (by rw [hyv, e2]; exact run_ifNil hu (.inr ⟨_, _, rfl, rfl⟩) neg)), .bool _, h, Fr.refl _ _ _ _⟩
  ·cases hc
 | makeInterface t y =>
  rw [ho] at hc
  simp only [cOp] at hc
  split at hc
  ·cases hc
  ·rename_i D hni hu
   simp only [Option.map_eq_some_iff] at hc
   obtain ⟨z, hz, rfl⟩ := hc
   simp only [evOp, Option.some.injEq, Prod.mk.injEq] at he
   obtain ⟨rfl, rfl⟩ := he
   refine ⟨.iface t (a.eval y), w, M, .inl ?_, .ifc t _ _ (rv_opd hT hz), h, Fr.refl _ _ _ _⟩
   have : (Instr.makeInterface t (a.eval y)).run P w = .ok (.iface t (a.eval y)) w := by
    cases D <;> first | (exact absurd rfl (hni _)) | simp [Instr.makeInterface, run_underlying hu]
   simp [execOp, ho, this]
  ·cases hc
 | unOp op t y =>
  rw [ho] at hc
  simp [cOp] at hc
  obtain ⟨z, hz, rfl⟩ := hc
  simp only [evOp] at he
  cases hn : unAV op (z.ev T) with
  | none => simp [hn] at he
  | some r =>
   simp [hn] at he
   obtain ⟨rfl, rfl⟩ := he
   obtain ⟨v, g1, g2⟩ := run_un (P := P) (w := w) (rv_opd hT hz) hn
   exact ⟨v, w, M, .inl (by simp [execOp, ho, g1]), g2, h, Fr.refl _ _ _ _⟩
 | convert s t y =>
  rw [ho] at hc
  simp only [cOp] at hc
  split at hc
  ·rename_i k' k z hs ht hz
   cases hc
   simp only [evOp] at he
   split at he
   ·rename_i k0 n e1
    simp at he
    obtain ⟨rfl, rfl⟩ := he
    have r1 := rv_opd hT hz
    rw [e1] at r1
    generalize hyv : a.eval y = yv at r1
    cases r1
    exact ⟨.int k (k.wrap n), w, M, .inl (by simp [execOp, ho, hyv, run_conv (w := w) (n := n) hs ht k0]), .int _ _, h, Fr.refl _ _ _ _⟩
   ·cases he
  ·cases hc
 | makeFunc fn first cap =>
  rw [ho] at hc
  cases fn with
  | func f =>
   simp only [cOp] at hc
   split at hc
   ·rename_i p q hp hq
    cases hc
    simp [evOp] at he
    obtain ⟨rfl, rfl⟩ := he
    have r1 := opds_list hT hp
    have r2 := opds_list hT hq
    exact ⟨.func (.func f) (first.map a.eval) (cap.map a.eval), w, M, .inl (by simp [execOp, ho, Instr.makeFunc]), .func _ _ _ _ _ r1.len r2.len r1.rel r2.rel, h, Fr.refl _ _ _ _⟩
   ·cases hc
  | _ => simp [cOp] at hc
 | makeSlice t l c =>
  rw [ho] at hc
  simp only [cOp] at hc
  split at hc
  ·rename_i e hu
   split at hc
   ·rename_i s i z l' c' hs hi hz hl hc'
    cases hc
    simp only [evOp] at he
    split at he
    ·rename_i ka na kb nb' e1 e2
     split at he
     ·rename_i hb
      simp at he
      obtain ⟨rfl, rfl⟩ := he
      have r1 := rv_opd hT hl
      have r2 := rv_opd hT hc'
      rw [e1] at r1
      rw [e2] at r2
      generalize hlv : a.eval l = lv at r1
      generalize hcv : a.eval c = cv at r2
      cases r1
      cases r2
      have := (gives_makeSlice h (nb _ rfl) hu hs hi hz ka kb na nb' hb.1 hb.2.1 hb.2.2.1 hb.2.2.2).op
      simpa [execOp, ho, hlv, hcv] using this
     ·cases he
    ·cases he
   ·cases hc
  ·cases hc
 | slice t y lo hi mx =>
  rw [ho] at hc
  simp only [cOp] at hc
  split at hc
  ·rename_i e y' lo' hi' mx' hu hy h1 h2 h3
   simp at hc
   obtain ⟨s, hs, rfl⟩ := hc
   simp only [evOp] at he
   cases hn : sliceAV m.heap s (y'.ev T) (lo'.map (·.ev T)) (hi'.map (·.ev T)) (mx'.map (·.ev T)) with
   | none => simp [hn] at he
   | some r =>
    simp [hn] at he
    obtain ⟨rfl, rfl⟩ := he
    have := (gives_slice h hT hu hs h1 h2 h3 (rv_opd hT hy) hn).op
    simpa [execOp, ho] using this
  ·rename_i n e y' lo' hi' mx' hu hy h1 h2 h3
   simp at hc
   obtain ⟨s, hs, rfl⟩ := hc
   simp only [evOp] at he
   cases hn : sliceArrAV m.heap n s (y'.ev T) (lo'.map (·.ev T)) (hi'.map (·.ev T)) (mx'.map (·.ev T)) with
   | none => simp [hn] at he
   | some r =>
    simp [hn] at he
    obtain ⟨rfl, rfl⟩ := he
    have := (gives_sliceArr h hT hu hs h1 h2 h3 (rv_opd hT hy) hn).op
    simpa [execOp, ho] using this
  ·rename_i y' lo' hi' hu hy h1 h2 h3
   cases hc
   simp only [evOp] at he
   cases hq : strAV (.slice lo'.isSome hi'.isSome) ((y' :: lo'.toList ++ hi'.toList).map (·.ev T)) with
   | none => rw [hq] at he; cases he
   | some r =>
    rw [hq] at he
    simp only [Option.map_some, Option.some.injEq, Prod.mk.injEq] at he
    obtain ⟨rfl, rfl⟩ := he
    obtain ⟨s, e1, e2⟩ := strAV_slice hq
    have r1 := rv_opd hT hy
    rw [e1] at r1
    have hmx : mx = none := by
     cases mx with
     | none => rfl
     | some q =>
      simp only [cOpdO] at h3
      cases hq2 : cOpd q <;> simp [hq2] at h3
    subst hmx
    generalize hyv : a.eval y = yv at r1
    cases r1
    have := (gives_strSlice h hT hu h1 h2 e2).op
    simpa [execOp, ho, hyv] using this
  ·cases hc
 | fieldAddr t y k =>
  rw [ho] at hc
  simp only [cOp] at hc
  split at hc
  ·rename_i fs hu
   cases hf' : fs[k]? with
   | none => simp [hf'] at hc
   | some fl =>
    simp only [hf', Option.bind_some] at hc
    split at hc
    ·rename_i s z hs hz
     cases hc
     simp only [evOp] at he
     cases hn : ptrAdd fl.offset (z.ev T) with
     | none => simp [hn] at he
     | some r =>
      simp [hn] at he
      obtain ⟨rfl, rfl⟩ := he
      have := (gives_fieldAddr h hu hf' hs (rv_opd hT hz) hn).op
      simpa [execOp, ho] using this
    ·cases hc
  ·cases hc
 | field t y k =>
  rw [ho] at hc
  simp only [cOp] at hc
  split at hc
  ·rename_i fs hu
   cases hf' : fs[k]? with
   | none => simp [hf'] at hc
   | some fl =>
    simp only [hf', Option.bind_some] at hc
    split at hc
    ·rename_i g s z hg hs hz
     cases hc
     simp only [evOp] at he
     split at he
     ·rename_i l e1
      cases hn : loadCs g s l fl.offset with
      | none => simp [hn] at he
      | some r =>
       simp [hn] at he
       obtain ⟨rfl, rfl⟩ := he
       have r1 := rv_opd hT hz
       rw [e1] at r1
       have := (gives_field h hu hf' hg hs r1 hn).op
       simpa [execOp, ho] using this
     ·cases he
    ·cases hc
  ·cases hc
 | indexAddr t y k =>
  rw [ho] at hc
  simp only [cOp] at hc
  split at hc
  ·rename_i e z z2 hu hz hz2
   simp at hc
   obtain ⟨s, hs, rfl⟩ := hc
   simp only [evOp] at he
   cases hn : indexAddrAV s (z.ev T) (z2.ev T) with
   | none => simp [hn] at he
   | some r =>
    simp [hn] at he
    obtain ⟨rfl, rfl⟩ := he
    have := (gives_indexAddr h hu hs (rv_opd hT hz) (rv_opd hT hz2) hn).op
    simpa [execOp, ho] using this
  ·rename_i n e z z2 hu hz hz2
   simp at hc
   obtain ⟨s, hs, rfl⟩ := hc
   simp only [evOp] at he
   cases hj : idx (z2.ev T) n with
   | none => simp [hj] at he
   | some j =>
    simp only [hj, Option.bind_some] at he
    cases hn : ptrAdd (j * s) (z.ev T) with
    | none => simp [hn] at he
    | some r =>
     simp [hn] at he
     obtain ⟨rfl, rfl⟩ := he
     have := (gives_indexAddrArr h hu hs (rv_opd hT hz) (rv_opd hT hz2) hj hn).op
     simpa [execOp, ho] using this
  ·cases hc
 | index t y k =>
  rw [ho] at hc
  simp only [cOp] at hc
  split at hc
  ·rename_i n e z z2 hu hz hz2
   split at hc
   ·rename_i g s hg hs
    cases hc
    simp only [evOp] at he
    split at he
    ·rename_i l e1
     cases hj : idx (z2.ev T) n with
     | none => simp [hj] at he
     | some j =>
      simp only [hj, Option.bind_some] at he
      cases hn : loadCs g s l (j * s) with
      | none => simp [hn] at he
      | some r =>
       simp [hn] at he
       obtain ⟨rfl, rfl⟩ := he
       have r1 := rv_opd hT hz
       rw [e1] at r1
       have := (gives_index h hu hg hs r1 (rv_opd hT hz2) hj hn).op
       simpa [execOp, ho] using this
    ·cases he
   ·cases hc
  ·rename_i z z2 hu hz hz2
   cases hc
   simp only [evOp, List.map_cons, List.map_nil] at he
   have r1 := rv_opd hT hz
   have r2 := rv_opd hT hz2
   cases hq : strAV .index [z.ev T, z2.ev T] with
   | none => rw [hq] at he; cases he
   | some r =>
    rw [hq] at he
    simp only [Option.map_some, Option.some.injEq, Prod.mk.injEq] at he
    obtain ⟨rfl, rfl⟩ := he
    obtain ⟨s, j, b, e1, e2, e3, rfl⟩ := strAV_index hq
    rw [e1] at r1
    generalize hyv : a.eval y = yv at r1
    cases r1
    have := (gives_strIndex h hu r2 e2 e3).op
    simpa [execOp, ho, hyv] using this
  ·cases hc
 | extract y k =>
  rw [ho] at hc
  simp [cOp] at hc
  obtain ⟨z, hz, rfl⟩ := hc
  simp only [evOp] at he
  split at he
  ·rename_i l e1
   cases hn : l[k]? with
   | none => simp [hn] at he
   | some r =>
    simp [hn] at he
    obtain ⟨rfl, rfl⟩ := he
    have r1 := rv_opd hT hz
    rw [e1] at r1
    have := (gives_extract h r1 hn).op
    simpa [execOp, ho] using this
  ·cases he
 | makeMap t r =>
  rw [ho] at hc
  cases r with
  | none =>
   simp only [cOp] at hc
   split at hc
   ·cases hc; simp [isCall] at hcall
   ·cases hc
  | some r => simp [cOp] at hc
 | mapUpdate t y k v =>
  rw [ho] at hc
  simp only [cOp] at hc
  split at hc
  ·simp only [Option.map_eq_some_iff] at hc
   obtain ⟨kd, _, rfl⟩ := hc
   simp [isCall] at hcall
  ·cases hc
 | insert t y k v =>
  rw [ho] at hc
  simp only [cOp] at hc
  split at hc
  ·simp only [Option.map_eq_some_iff] at hc
   obtain ⟨kd, _, rfl⟩ := hc
   simp [isCall] at hcall
  ·cases hc
 | lookup t y k ok =>
  rw [ho] at hc
  simp only [cOp] at hc
  split at hc
  ·split at hc
   ·cases hc; simp [isCall] at hcall
   ·cases hc
  ·cases hc
 | call c =>
  rw [ho] at hc
  simp only [cOp] at hc
  split at hc
  ·split at hc
   ·cases hc; simp [isCall] at hcall
   ·cases hc
  ·rename_i b hb
   have hrun := run_builtin (P := P) (w := w) (ρ := a.eval) ho hb
   have conv : ∀ {s : Sem Value} {x : AV} {m' : Mem}, Gives P M m m' w s x → builtin b c.argTypes o.type (c.args.map fun | .const _ => true | _ => false) (c.args.map a.eval) = (do pure (.value (← s))) → OpGives P M m m' w (execOp a.eval o) x := by
    intro s x m' hg heq
    obtain ⟨v, w', M', h1, h2, h3, h4⟩ := hg
    refine ⟨v, w', M', .inl ?_, h2, h3, h4⟩
    rw [hrun, heq]
    simp [h1]
   have hargs : c.args.map a.eval = (c.args.toList.map a.eval).toArray := by rw [← Array.toList_map, Array.toArray_toList]
   have htys : c.argTypes = c.argTypes.toList.toArray := by rw [Array.toArray_toList]
   rw [hargs, htys] at conv
   generalize c.args.toList = args at hc conv
   generalize c.argTypes.toList = tys at hc conv
   unfold cBuiltin at hc
   split at hc
   ·rename_i t y
    split at hc
    ·rename_i e hu
     simp at hc
     obtain ⟨z, hz, rfl⟩ := hc
     simp only [evOp] at he
     cases hn : slen (z.ev T) with
     | none => simp [hn] at he
     | some n =>
      simp [hn] at he
      obtain ⟨rfl, rfl⟩ := he
      exact conv (gives_len (ty := o.type) h hu (rv_opd hT hz) hn) rfl
    ·rename_i n e hu
     cases hc
     simp [evOp] at he
     obtain ⟨rfl, rfl⟩ := he
     exact conv (gives_lenC (ty := o.type) h hu (a.eval y)) rfl
    ·simp at hc
     obtain ⟨z, _, rfl⟩ := hc
     simp [isCall] at hcall
    ·rename_i hu
     simp at hc
     obtain ⟨z, hz, rfl⟩ := hc
     simp only [evOp, List.map_cons, List.map_nil] at he
     have r1 := rv_opd hT hz
     cases hq : strAV .len [z.ev T] with
     | none => rw [hq] at he; cases he
     | some r =>
      rw [hq] at he
      simp only [Option.map_some, Option.some.injEq, Prod.mk.injEq] at he
      obtain ⟨rfl, rfl⟩ := he
      obtain ⟨s, e1, rfl⟩ := strAV_len hq
      rw [e1] at r1
      generalize hyv : a.eval y = yv at r1
      cases r1
      refine conv (gives_strLen (ty := o.type) h hu s) ?_
      simp only [List.map_cons, List.map_nil, hyv]
      rfl
    ·cases hc
   ·rename_i t y
    split at hc
    ·rename_i e hu
     simp at hc
     obtain ⟨z, hz, rfl⟩ := hc
     simp only [evOp] at he
     cases hn : capAV (z.ev T) with
     | none => simp [hn] at he
     | some n =>
      simp [hn] at he
      obtain ⟨rfl, rfl⟩ := he
      exact conv (gives_cap (ty := o.type) h hu (rv_opd hT hz) hn) rfl
    ·cases hc
   ·simp at hc
    obtain ⟨ys, hys, rfl⟩ := hc
    simp only [evOp] at he
    cases hn : minmaxAV false (ys.map (·.ev T)) with
    | none => simp [hn] at he
    | some r =>
     simp [hn] at he
     obtain ⟨rfl, rfl⟩ := he
     exact conv (gives_minmax h false (rv_opds hT hys) hn tys.toArray o.type) rfl
   ·simp at hc
    obtain ⟨ys, hys, rfl⟩ := hc
    simp only [evOp] at he
    cases hn : minmaxAV true (ys.map (·.ev T)) with
    | none => simp [hn] at he
    | some r =>
     simp [hn] at he
     obtain ⟨rfl, rfl⟩ := he
     exact conv (gives_minmax h true (rv_opds hT hys) hn tys.toArray o.type) rfl
   ·rename_i t u y y2
    split at hc
    ·rename_i e hu
     split at hc
     ·rename_i sz i zz z z2 hs hi hzz hz hz2
      split at hc
      ·rename_i etu
       subst etu
       cases hc
       simp only [evOp] at he
       exact conv (gives_append (ty := o.type) h hf hu hs hi hzz (rv_opd hT hz) (rv_opd hT hz2) he) rfl
      ·split at hc
       ·rename_i kn hun
        cases hc
        simp only [evOp] at he
        exact conv (gives_appendZ (ty := o.type) h hf hu hun hs hi hzz (rv_opd hT hz) (rv_opd hT hz2) he) rfl
       ·cases hc
     ·cases hc
    ·cases hc
   ·rename_i t u y y2
    split at hc
    ·rename_i e e2 hu hu2
     split at hc
     ·rename_i sz z z2 hs hz hz2
      cases hc
      simp only [evOp] at he
      exact conv (gives_copy (ty := o.type) (t' := u) h hu hs (rv_opd hT hz) (rv_opd hT hz2) he) rfl
     ·cases hc
    ·cases hc
   ·rename_i t y
    split at hc
    ·rename_i e hu
     split at hc
     ·rename_i sz zz z hs hzz hz
      cases hc
      simp only [evOp] at he
      cases hn : clearAV zz m (z.ev T) with
      | none => simp [hn] at he
      | some m2 =>
       simp [hn] at he
       obtain ⟨rfl, rfl⟩ := he
       exact conv (gives_clear (ty := o.type) h hu hzz (rv_opd hT hz) hn) rfl
     ·cases hc
    ·cases hc
   ·cases hc
  ·cases hc
 | _ => rw [ho] at hc; simp [cOp] at hc
end
end Go.Zz

