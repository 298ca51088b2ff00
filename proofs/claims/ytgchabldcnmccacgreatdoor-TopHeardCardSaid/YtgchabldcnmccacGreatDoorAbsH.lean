import Derived.Test.YtgchabldcnmccacGreatDoorAbsG

set_option linter.unusedSimpArgs false
set_option linter.unusedVariables false

namespace Go.Zz
def newC (H : Hp) : AV → Option AV
 | .int k n => some (.int k n)
 | .bool b => some (.bool b)
 | .str s => some (.str s)
 | .snil => some .snil
 | .sval f n [] => some (.sval f n [])
 | .sref id g off sz n cap => match look H id g with
  | some l => match cut l off (n * sz) with
   | some c => if c.all flatAV then some (.sval (cap == some n) n c) else none
   | none => none
  | none => none
 | _ => none
def newL (H : Hp) : List AV → Option (List AV)
 | [] => some []
 | x :: r => match newC H x, newL H r with
  | some a, some l => some (a :: l)
  | _, _ => none
def newA (H : Hp) : AV → Option AV
 | .agg l => match newL H l with | some l => some (.agg l) | none => none
 | .inil => some .inil
 | .ifc t (.agg l) => match newL H l with | some l => some (.ifc t (.agg l)) | none => none
 | x => newC H x
def newT (H : Hp) : List AV → Option (List AV)
 | [] => some []
 | x :: r => match newA H x, newT H r with
  | some a, some l => some (a :: l)
  | _, _ => none
def newV (H : Hp) : AV → Option AV
 | .tuple l => match newT H l with | some l => some (.tuple l) | none => none
 | x => newA H x
def byNew (r : Option (AV × Mem)) (m : Mem) : Option (AV × Mem) :=
 match r with
 | some (y, m') => match newV m'.heap y with
  | some v => some (v, m)
  | none => none
 | none => none
def borrowN (Γ : Env) (n g : Nat) (args : List AV) (m : Mem) : Option (AV × Mem) :=
 match byVals m.heap args with
 | some ys => byNew (evF Γ n (.func g [] []) ys ⟨[], []⟩) m
 | none => none
section
variable [Globs] {P : Program} {M M1 : Mp} {H : Hp} {L : List (Option ALoop)} {w' : World} {n : Nat}
theorem newC_rv (h : Holds P M1 H L w') (hn : ∀ (id : Nat) (b : Blk) lc, H[id]? = some (some b) → M1.loc id b.gen = some lc → n ≤ lc.blk) {x y : AV} {v : Value} (hx : RV M1 x v) (hy : newC H x = some y) : RV (mpVal M n w' h.globs) y v := by
 unfold newC at hy
 cases hx with
 | int k n => cases hy; exact .int k n
 | bool b => cases hy; exact .bool b
 | str s => cases hy; exact .str s
 | inil => cases hy
 | ifc t x v h => cases hy
 | snil => cases hy; exact .snil
 | sval full len l b o cap f hc hf hi hr h1 =>
  cases l with
  | nil => cases hy; exact .sval full len [] b o cap f hc hf (fun i hi => by simp at hi) (fun i hi => by simp at hi) (fun i hi => by simp at hi)
  | cons a l => simp at hy
 | sref id g off sz len cap lc ccap hl hc hr he ho =>
  simp only at hy
  split at hy
  ·rename_i l hk
   split at hy
   ·rename_i c hcut
    split at hy
    ·rename_i hfl
     cases hy
     obtain ⟨lc0, hB⟩ := h.blk id _ (look_eq hk)
     have e0 : lc0 = lc := by have := hB.loc; simp only at this; rw [hl] at this; exact (Option.some.inj this).symm
     subst e0
     have hnew := hn id _ lc0 (look_eq hk) hl
     unfold cut at hcut
     split at hcut
     ·rename_i hle
      cases hcut
      rw [List.all_eq_true] at hfl
      have hlen : ((l.drop off).take (len * sz)).length = len * sz := by simp; omega
      have hg : ∀ i, i < len * sz → gt ((l.drop off).take (len * sz)) i = gt l (off + i) := fun i hi => by
       simp only [gt_eq, List.getD, List.getElem?_take, if_pos hi, List.getElem?_drop]
      have cell : ∀ i, i < len * sz → ∃ u, w'.cell? ⟨lc0.blk, lc0.base + off + i, none⟩ = some u ∧ RV M1 (gt l (off + i)) u ∧ u.oneCell' = true := fun i hi => by
       obtain ⟨u, a1, a2, a3⟩ := hB.rel (off + i) (by simp only; omega)
       exact ⟨u, by rw [Nat.add_assoc]; exact a1, a2, a3⟩
      refine .sval _ len _ lc0.blk (lc0.base + off) ccap (fun i => (w'.cell? ⟨lc0.blk, lc0.base + off + i, none⟩).getD undef) hc (fun e => he _ (by simpa using e)) (fun i hi => ?_) (fun i hi => ?_) (fun i hi => ?_) <;> (
       rw [hlen] at hi
       obtain ⟨u, a1, a2, a3⟩ := cell i hi)
      ·show (if lc0.blk < n then _ else _) = _
       rw [if_neg (by omega), a1]; rfl
      ·simp only [a1, Option.getD_some]
       refine flat_rv (hfl _ ?_) (by rw [hg i hi]; exact a2)
       rw [gt_of_lt (by rw [hlen]; exact hi)]
       exact List.getElem_mem _
      ·simp only [a1, Option.getD_some]
       exact a3
     ·cases hcut
    ·cases hy
   ·cases hy
  ·cases hy
 | _ => simp at hy
theorem newL_rv (h : Holds P M1 H L w') (hn : ∀ (id : Nat) (b : Blk) lc, H[id]? = some (some b) → M1.loc id b.gen = some lc → n ≤ lc.blk) : ∀ {xs ys : List AV}, newL H xs = some ys → xs.length = ys.length ∧ ∀ i v, RV M1 (gt xs i) v → RV (mpVal M n w' h.globs) (gt ys i) v
  | [], ys, hy => by
    cases hy
    refine ⟨rfl, fun i v hv => ?_⟩
    simp only [gt] at hv ⊢
    cases hv with
    | tup0 => exact .tup0
    | tuple l c hl _ => have : c = #[] := by simpa using hl.symm
                        subst this; exact .tup0
  | x :: r, ys, hy => by
    unfold newL at hy
    split at hy
    · rename_i a l ha hl
      cases hy
      obtain ⟨g1, g2⟩ := newL_rv h hn hl
      refine ⟨by simp [g1], fun i v hv => ?_⟩
      cases i with
      | zero => exact newC_rv h hn hv ha
      | succ i => exact g2 i v hv
    · cases hy
theorem newA_rv (h : Holds P M1 H L w') (hn : ∀ (id : Nat) (b : Blk) lc, H[id]? = some (some b) → M1.loc id b.gen = some lc → n ≤ lc.blk) {x y : AV} {v : Value} (hx : RV M1 x v) (hy : newA H x = some y) : RV (mpVal M n w' h.globs) y v := by
 unfold newA at hy
 split at hy
 ·split at hy
  ·rename_i l l' hl
   cases hy
   cases hx with
   | agg _ c hlc hr h1 =>
    obtain ⟨g1, g2⟩ := newL_rv (M := M) h hn hl
    exact .agg _ c (by omega) (fun i => g2 i _ (hr i)) h1
  ·cases hy
 ·cases hy
  cases hx with
  | inil => exact .inil
 ·split at hy
  ·rename_i l l' hl
   cases hy
   cases hx with
   | ifc _ _ v hv =>
    cases hv with
    | agg _ c hlc hr h1 =>
     obtain ⟨g1, g2⟩ := newL_rv (M := M) h hn hl
     exact .ifc _ _ _ (.agg _ c (by omega) (fun i => g2 i _ (hr i)) h1)
  ·cases hy
 ·exact newC_rv h hn hx hy
theorem newT_rv (h : Holds P M1 H L w') (hn : ∀ (id : Nat) (b : Blk) lc, H[id]? = some (some b) → M1.loc id b.gen = some lc → n ≤ lc.blk) : ∀ {xs ys : List AV}, newT H xs = some ys → xs.length = ys.length ∧ ∀ i v, RV M1 (gt xs i) v → RV (mpVal M n w' h.globs) (gt ys i) v
  | [], ys, hy => by
    cases hy
    refine ⟨rfl, fun i v hv => ?_⟩
    simp only [gt] at hv ⊢
    cases hv with
    | tup0 => exact .tup0
    | tuple l c hl _ => have : c = #[] := by simpa using hl.symm
                        subst this; exact .tup0
  | x :: r, ys, hy => by
    unfold newT at hy
    split at hy
    · rename_i a l ha hl
      cases hy
      obtain ⟨g1, g2⟩ := newT_rv h hn hl
      refine ⟨by simp [g1], fun i v hv => ?_⟩
      cases i with
      | zero => exact newA_rv h hn hv ha
      | succ i => exact g2 i v hv
    · cases hy
theorem newV_rv (h : Holds P M1 H L w') (hn : ∀ (id : Nat) (b : Blk) lc, H[id]? = some (some b) → M1.loc id b.gen = some lc → n ≤ lc.blk) {x y : AV} {v : Value} (hx : RV M1 x v) (hy : newV H x = some y) : RV (mpVal M n w' h.globs) y v := by
 unfold newV at hy
 split at hy
 ·split at hy
  ·rename_i l l' hl
   cases hy
   obtain ⟨g1, g2⟩ := newT_rv (M := M) h hn hl
   cases hx with
   | tup0 =>
    have : l' = [] := by simpa using g1.symm
    subst this
    exact .tup0
   | tuple _ c hlc hr => exact .tuple _ c (by omega) (fun i => g2 i _ (hr i))
  ·cases hy
 ·exact newA_rv h hn hx hy
end
theorem borrowN_ok [Globs] {P : Program} {Γ : Env} (hΓ : EnvOk P Γ) {n g : Nat} (hg : Callable P g) : SpecOk P g (borrowN Γ n g) := by
 refine ⟨hg, fun args m v mm hS N M w cargs ha h hf => ?_⟩
 unfold borrowN at hS
 split at hS
 ·rename_i ys hys
  unfold byNew at hS
  split at hS
  ·rename_i y m' hev
   split at hS
   ·rename_i y' hres
    simp only [Option.some.injEq, Prod.mk.injEq] at hS
    obtain ⟨rfl, rfl⟩ := hS
    have hys' : RVs (mp0 w h.globs) ys cargs := by
     have := byVals_rv h (c := cargs.toList) hys (by simpa using ha)
     simpa using this
    have ans := sound hΓ n _ _ _ _ _ hev N (mp0 w h.globs) w (.func (.func g) #[] #[]) cargs (.func g [] [] #[] #[] rfl rfl (fun i => by simp [gt, ag]; exact .tup0) (fun i => by simp [gt, ag]; exact .tup0)) hys' (holds0 w h.globs) (fresh0 w h.globs)
    cases ans with
    | func _ _ _ hcl hcall =>
     have earr : (#[] ++ cargs ++ #[] : Array Value) = cargs := by simp
     rw [earr] at hcall
     refine hcall.mono fun e w' he => ?_
     obtain ⟨cv, rfl, M1, g1, g2, g3⟩ := he
     have hkeep : ∀ b, b < w.heap.size → w'.heap[b]? = w.heap[b]? := fun b hb => g3.keep b hb (fun id bl lc h => by simp at h) (fun k r h => by simp at h)
     have hsz := g3.size
     have hn : ∀ (id : Nat) (b : Blk) lc, m'.heap[id]? = some (some b) → M1.loc id b.gen = some lc → w.heap.size ≤ lc.blk := by
      intro id b lc hb hl
      refine Nat.le_of_not_lt fun hlt => ?_
      obtain ⟨_, _, hx, _⟩ := g3.old id b lc hb hl hlt
      simp at hx
     have hle : M.le (mpVal M w.heap.size w' g2.globs) := ⟨fun b o u hu => by
      show (if b < w.heap.size then _ else _) = _
      rw [if_pos (cell_lt (h.imm b o u hu))]; exact hu, fun _ _ _ h => h, fun _ _ h => h⟩
     have oldlt : ∀ (id : Nat) (b : Blk) lc, m.heap[id]? = some (some b) → M.loc id b.gen = some lc → lc.blk < w.heap.size := fun id b lc hb hl => by
      obtain ⟨lc', hB⟩ := h.blk id b hb
      have := hB.loc
      rw [hl] at this
      rw [Option.some.inj this]
      exact hB.lt
     refine ⟨cv, rfl, mpVal M w.heap.size w' g2.globs, newV_rv (M := M) g2 hn g1 hres, ⟨?_, ?_, ?_, ?_, ?_, ?_, ?_⟩, ?_⟩
     ·intro b o u hu
      simp only [mpVal] at hu
      split at hu
      ·rename_i hlt
       rw [World.cell?_of_block (w := w) (hkeep b hlt)]
       exact h.imm b o u hu
      ·exact hu
     ·intro id b hb
      obtain ⟨lc, hB⟩ := h.blk id b hb
      exact ⟨lc, hB.kept hle (hkeep _ hB.lt) hsz⟩
     ·intro id b lc hb hl o
      show (if lc.blk < w.heap.size then _ else _) = _
      rw [if_pos (oldlt id b lc hb hl)]
      exact h.sep id b lc hb hl o
     ·exact h.inj
     ·exact h.gen
     ·intro k q hq
      obtain ⟨l, h1, h2⟩ := h.lp k q hq
      exact ⟨l, h1, h2.kept hle (hkeep l h2.lt)⟩
     ·exact h.lpi
     ·exact ⟨g3.os, g3.output, hsz, g3.froz, fun b hb _ _ => hkeep b hb, fun id bl lc h1 h2 _ => ⟨bl, lc, h1, h2, rfl⟩, fun k r l h1 h2 _ => ⟨r, h1, h2⟩, Nat.le_refl _, Nat.le_refl _, hle,
       (fun id gg lc h1 h0 => by rw [show (mpVal M w.heap.size w' g2.globs).loc id gg = M.loc id gg from rfl, h0] at h1; cases h1), fun id b hb => ⟨b, hb⟩, (fun b o hb => if_pos hb),
       (fun k l h1 h0 => by rw [show (mpVal M w.heap.size w' g2.globs).lp k = M.lp k from rfl, h0] at h1; cases h1), fun l q hq => ⟨q, (hkeep l (Array.getElem?_eq_some_iff.1 hq).1).trans hq⟩⟩
   ·cases hS
  ·cases hS
 ·cases hS
theorem borrowN_mono {Γ : Env} {n k g : Nat} (hk : n ≤ k) {args : List AV} {m : Mem} {r : AV × Mem} (h : borrowN Γ n g args m = some r) : borrowN Γ k g args m = some r := by
 unfold borrowN at h ⊢
 split at h
 ·rename_i ys hp
  cases he : evF Γ n (.func g [] []) ys ⟨[], []⟩ with
  | none => rw [he] at h; simp [byNew] at h
  | some q =>
   rw [he] at h
   have := (mono_le Γ hk).2 _ _ _ _ he
   simp only at this
   simp only [this]
   exact h
 ·cases h
open Classical in
noncomputable def borrowX (Γ : Env) (g : Nat) (args : List AV) (m : Mem) : Option (AV × Mem) :=
 if h : ∃ r, ∃ n, borrowN Γ n g args m = some r then some h.choose else none
theorem borrowX_ok [Globs] {P : Program} {Γ : Env} (hΓ : EnvOk P Γ) {g : Nat} (hg : Callable P g) : SpecOk P g (borrowX Γ g) := by
 refine ⟨hg, fun args m v mm hS => ?_⟩
 unfold borrowX at hS
 split at hS
 ·rename_i h
  obtain ⟨n, hn⟩ := h.choose_spec
  have e := Option.some.inj hS
  rw [e] at hn
  exact (borrowN_ok hΓ (n := n) hg).2 args m v mm hn
 ·cases hS
theorem borrowX_of {Γ : Env} {g : Nat} {args ys : List AV} {m : Mem} {v : AV} (hy : byVals m.heap args = some ys) (h : WF Γ (.func g [] []) ys ⟨[], []⟩ fun y m' => newV m'.heap y = some v) : borrowX Γ g args m = some (v, m) := by
 obtain ⟨n, y, m', h1, h2⟩ := h.ex
 have hn : borrowN Γ n g args m = some (v, m) := by
  unfold borrowN
  rw [hy]
  simp only [h1, byNew, h2]
 have hex : ∃ r, ∃ n, borrowN Γ n g args m = some r := ⟨_, n, hn⟩
 unfold borrowX
 rw [dif_pos hex]
 obtain ⟨k, hk⟩ := hex.choose_spec
 have a1 := borrowN_mono (Nat.le_max_left n k) hn
 have a2 := borrowN_mono (Nat.le_max_right n k) hk
 rw [a1] at a2
 exact a2.symm
end Go.Zz


namespace Go.Zz
section
variable {Γ : Env} {T : List AV} {H : Hp} {L : List (Option ALoop)}
end
end Go.Zz

