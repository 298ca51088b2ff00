/-
  A function that writes nothing old, its result by value: nothing new is left to be seen.
-/
import Derived.Test.YtpddngcgajjacaaAbs21
namespace Go.Zz

/-- By value, all of it. -/
def pureC : AV → Bool
  | .int _ _ | .bool _ | .snil => true
  | .sval _ _ l => l.all flatAV
  | _ => false

def pureA : AV → Bool
  | .agg l => l.all pureC
  | x => pureC x

/-- What is known of the immutable part, and no more. -/
def mpImm (M : Mp) : Mp := { imm := M.imm, loc := fun _ _ => none, lp := fun _ => none }

theorem holdsImm {P : Program} {M : Mp} {H : Hp} {L : List (Option ALoop)} {w : World} (h : Holds P M H L w) : Holds P (mpImm M) [] [] w :=
  ⟨h.imm, fun id b h => by simp at h, fun id b lc h => by simp at h, fun id id' b b' lc lc' h => by simp at h, fun id b g h => by simp at h, fun k r h => by simp at h, fun k k' r r' l h => by simp at h⟩

theorem freshImm (M : Mp) : Fresh (mpImm M) [] [] := ⟨fun _ _ _ => rfl, fun _ _ => rfl⟩

theorem pureC_rv {M : Mp} {x : AV} {v : Value} (hp : pureC x = true) (h : RV M x v) : RV (mpImm M) x v := by
  cases h with
  | int k n => exact .int k n
  | bool b => exact .bool b
  | snil => exact .snil
  | sval full len l b o cap f hc hf hi hr h1 =>
    simp only [pureC] at hp
    rw [List.all_eq_true] at hp
    refine .sval full len l b o cap f hc hf hi (fun i hlt => flat_rv (hp _ ?_) (hr i hlt)) h1
    rw [gt_of_lt hlt]
    exact List.getElem_mem hlt
  | _ => simp [pureC] at hp

theorem pureA_rv {M : Mp} {x : AV} {v : Value} (hp : pureA x = true) (h : RV M x v) : RV (mpImm M) x v := by
  unfold pureA at hp
  split at hp
  · rename_i l
    rw [List.all_eq_true] at hp
    cases h with
    | agg _ c hl hr h1 =>
      refine .agg l c hl (fun i => ?_) h1
      by_cases hi : i < l.length
      · exact pureC_rv (hp _ (by rw [gt_of_lt hi]; exact List.getElem_mem hi)) (hr i)
      · have e := hr i
        rw [gt_of_ge (by omega)] at e ⊢
        rw [ag_of_ge (by omega)]
        exact .tup0
  · exact pureC_rv hp h

theorem pures_rv {M : Mp} {xs : List AV} {c : Array Value} (hp : xs.all pureA = true) (h : RVs M xs c) : RVs (mpImm M) xs c := by
  refine ⟨h.len, fun i => ?_⟩
  rw [List.all_eq_true] at hp
  by_cases hi : i < xs.length
  · exact pureA_rv (hp _ (by rw [gt_of_lt hi]; exact List.getElem_mem hi)) (h.rel i)
  · rw [gt_of_ge (by omega), ag_of_ge (by have := h.len; omega)]
    exact .tup0

def resC (H : Hp) : AV → Option AV
  | .int k n => some (.int k n)
  | .bool b => some (.bool b)
  | .snil => some .snil
  | .sval f n l => if l.all flatAV then some (.sval f n l) else none
  | .sref id g off sz n cap => match look H id g with
    | some l => match cut l off (n * sz) with
      | some c => if c.all flatAV then some (.sval (cap == some n) n c) else none
      | none => none
    | none => none
  | _ => none

def resL (H : Hp) : List AV → Option (List AV)
  | [] => some []
  | x :: r => match resC H x, resL H r with
    | some a, some l => some (a :: l)
    | _, _ => none

def resA (H : Hp) : AV → Option AV
  | .agg l => match resL H l with | some l => some (.agg l) | none => none
  | x => resC H x

def resT (H : Hp) : List AV → Option (List AV)
  | [] => some []
  | x :: r => match resA H x, resT H r with
    | some a, some l => some (a :: l)
    | _, _ => none

def resV (H : Hp) : AV → Option AV
  | .tuple l => match resT H l with | some l => some (.tuple l) | none => none
  | x => resA H x

/-- What a function gives on an empty memory, by value. -/
def byValue (r : Option (AV × Mem)) (m : Mem) : Option (AV × Mem) :=
  match r with
  | some (y, m') => match resV m'.heap y with
    | some v => some (v, m)
    | none => none
  | none => none

def borrowV (Γ : Env) (n g : Nat) (args : List AV) (m : Mem) : Option (AV × Mem) :=
  if args.all pureA then byValue (evF Γ n (.func g [] []) args ⟨[], []⟩) m else none

/-- What was known, and all that is new. -/
def mpVal (M : Mp) (n : Nat) (w' : World) : Mp := { imm := fun b o => if b < n then M.imm b o else w'.cell? ⟨b, o, none⟩, loc := M.loc, lp := M.lp }

section
variable {P : Program} {M M1 : Mp} {H : Hp} {L : List (Option ALoop)} {w' : World} {n : Nat}

theorem resC_rv (h : Holds P M1 H L w') (hn : ∀ (id : Nat) (b : Blk) lc, H[id]? = some (some b) → M1.loc id b.gen = some lc → n ≤ lc.blk) (hm : ∀ b o, b < n → M1.imm b o = M.imm b o) {x y : AV} {v : Value} (hx : RV M1 x v) (hy : resC H x = some y) : RV (mpVal M n w') y v := by
  unfold resC at hy
  cases hx with
  | int k n => cases hy; exact .int k n
  | bool b => cases hy; exact .bool b
  | snil => cases hy; exact .snil
  | sval full len l b o cap f hc hf hi hr h1 =>
    simp only at hy
    split at hy
    · rename_i hfl
      cases hy
      rw [List.all_eq_true] at hfl
      refine .sval full len l b o cap f hc hf (fun i hlt => ?_) (fun i hlt => flat_rv (hfl _ (by rw [gt_of_lt hlt]; exact List.getElem_mem hlt)) (hr i hlt)) h1
      show (if b < n then _ else _) = _
      have h0 := hi i hlt
      split
      · rename_i hb; rw [← hm _ _ hb]; exact h0
      · exact h.imm _ _ _ h0
    · cases hy
  | sref id g off sz len cap lc ccap hl hc hr he ho =>
    simp only at hy
    split at hy
    · rename_i l hk
      split at hy
      · rename_i c hcut
        split at hy
        · rename_i hfl
          cases hy
          obtain ⟨lc0, hB⟩ := h.blk id _ (look_eq hk)
          have e0 : lc0 = lc := by have := hB.loc; simp only at this; rw [hl] at this; exact (Option.some.inj this).symm
          subst e0
          have hnew := hn id _ lc0 (look_eq hk) hl
          unfold cut at hcut
          split at hcut
          · rename_i hle
            cases hcut
            rw [List.all_eq_true] at hfl
            have hlen : ((l.drop off).take (len * sz)).length = len * sz := by simp; omega
            have hg : ∀ i, i < len * sz → gt ((l.drop off).take (len * sz)) i = gt l (off + i) := fun i hi => by
              simp only [gt_eq, List.getD, List.getElem?_take, if_pos hi, List.getElem?_drop]
            have cell : ∀ i, i < len * sz → ∃ u, w'.cell? ⟨lc0.blk, lc0.base + off + i, none⟩ = some u ∧ RV M1 (gt l (off + i)) u ∧ u.oneCell' = true := fun i hi => by
              obtain ⟨u, a1, a2, a3⟩ := hB.rel (off + i) (by simp only; omega)
              exact ⟨u, by rw [Nat.add_assoc]; exact a1, a2, a3⟩
            refine .sval _ len _ lc0.blk (lc0.base + off) ccap (fun i => (w'.cell? ⟨lc0.blk, lc0.base + off + i, none⟩).getD undef) hc (fun e => he _ (by simpa using e)) (fun i hi => ?_) (fun i hi => ?_) (fun i hi => ?_) <;> (
              rw [hlen] at hi
              obtain ⟨u, a1, a2, a3⟩ := cell i hi)
            · show (if lc0.blk < n then _ else _) = _
              rw [if_neg (by omega), a1]; rfl
            · simp only [a1, Option.getD_some]
              refine flat_rv (hfl _ ?_) (by rw [hg i hi]; exact a2)
              rw [gt_of_lt (by rw [hlen]; exact hi)]
              exact List.getElem_mem _
            · simp only [a1, Option.getD_some]
              exact a3
          · cases hcut
        · cases hy
      · cases hy
    · cases hy
  | _ => simp at hy

theorem resL_rv (h : Holds P M1 H L w') (hn : ∀ (id : Nat) (b : Blk) lc, H[id]? = some (some b) → M1.loc id b.gen = some lc → n ≤ lc.blk) (hm : ∀ b o, b < n → M1.imm b o = M.imm b o) : ∀ {xs ys : List AV}, resL H xs = some ys → xs.length = ys.length ∧ ∀ i v, RV M1 (gt xs i) v → RV (mpVal M n w') (gt ys i) v
  | [], ys, hy => by
    cases hy
    refine ⟨rfl, fun i v hv => ?_⟩
    simp only [gt] at hv ⊢
    cases hv with
    | tup0 => exact .tup0
    | tuple l c hl _ => have : c = #[] := by simpa using hl.symm
                        subst this; exact .tup0
  | x :: r, ys, hy => by
    unfold resL at hy
    split at hy
    · rename_i a l ha hl
      cases hy
      obtain ⟨g1, g2⟩ := resL_rv h hn hm hl
      refine ⟨by simp [g1], fun i v hv => ?_⟩
      cases i with
      | zero => exact resC_rv h hn hm hv ha
      | succ i => exact g2 i v hv
    · cases hy

theorem resA_rv (h : Holds P M1 H L w') (hn : ∀ (id : Nat) (b : Blk) lc, H[id]? = some (some b) → M1.loc id b.gen = some lc → n ≤ lc.blk) (hm : ∀ b o, b < n → M1.imm b o = M.imm b o) {x y : AV} {v : Value} (hx : RV M1 x v) (hy : resA H x = some y) : RV (mpVal M n w') y v := by
  unfold resA at hy
  split at hy
  · split at hy
    · rename_i l l' hl
      cases hy
      cases hx with
      | agg _ c hlc hr h1 =>
        obtain ⟨g1, g2⟩ := resL_rv (M := M) h hn hm hl
        exact .agg _ c (by omega) (fun i => g2 i _ (hr i)) h1
    · cases hy
  · exact resC_rv h hn hm hx hy

theorem resT_rv (h : Holds P M1 H L w') (hn : ∀ (id : Nat) (b : Blk) lc, H[id]? = some (some b) → M1.loc id b.gen = some lc → n ≤ lc.blk) (hm : ∀ b o, b < n → M1.imm b o = M.imm b o) : ∀ {xs ys : List AV}, resT H xs = some ys → xs.length = ys.length ∧ ∀ i v, RV M1 (gt xs i) v → RV (mpVal M n w') (gt ys i) v
  | [], ys, hy => by
    cases hy
    refine ⟨rfl, fun i v hv => ?_⟩
    simp only [gt] at hv ⊢
    cases hv with
    | tup0 => exact .tup0
    | tuple l c hl _ => have : c = #[] := by simpa using hl.symm
                        subst this; exact .tup0
  | x :: r, ys, hy => by
    unfold resT at hy
    split at hy
    · rename_i a l ha hl
      cases hy
      obtain ⟨g1, g2⟩ := resT_rv h hn hm hl
      refine ⟨by simp [g1], fun i v hv => ?_⟩
      cases i with
      | zero => exact resA_rv h hn hm hv ha
      | succ i => exact g2 i v hv
    · cases hy

theorem resV_rv (h : Holds P M1 H L w') (hn : ∀ (id : Nat) (b : Blk) lc, H[id]? = some (some b) → M1.loc id b.gen = some lc → n ≤ lc.blk) (hm : ∀ b o, b < n → M1.imm b o = M.imm b o) {x y : AV} {v : Value} (hx : RV M1 x v) (hy : resV H x = some y) : RV (mpVal M n w') y v := by
  unfold resV at hy
  split at hy
  · split at hy
    · rename_i l l' hl
      cases hy
      obtain ⟨g1, g2⟩ := resT_rv (M := M) h hn hm hl
      cases hx with
      | tup0 =>
        have : l' = [] := by simpa using g1.symm
        subst this
        exact .tup0
      | tuple _ c hlc hr => exact .tuple _ c (by omega) (fun i => g2 i _ (hr i))
    · cases hy
  · exact resA_rv h hn hm hx hy
end

/-- **BORROWED, BY VALUE.** -/
theorem borrowV_ok {P : Program} {Γ : Env} (hΓ : EnvOk P Γ) {n g : Nat} (hg : Callable P g) : SpecOk P g (borrowV Γ n g) := by
  refine ⟨hg, fun args m v mm hS N M w cargs ha h hf => ?_⟩
  unfold borrowV at hS
  split at hS
  · rename_i hpure
    unfold byValue at hS
    split at hS
    · rename_i y m' hev
      split at hS
      · rename_i y' hres
        simp only [Option.some.injEq, Prod.mk.injEq] at hS
        obtain ⟨rfl, rfl⟩ := hS
        have hys' := pures_rv hpure ha
        have ans := sound hΓ n _ _ _ _ _ hev N (mpImm M) w (.func (.func g) #[] #[]) cargs (.func g [] [] #[] #[] rfl rfl (fun i => by simp [gt, ag]; exact .tup0) (fun i => by simp [gt, ag]; exact .tup0)) hys' (holdsImm h) (freshImm M)
        cases ans with
        | func _ _ _ hcl hcall =>
          have earr : (#[] ++ cargs ++ #[] : Array Value) = cargs := by simp
          rw [earr] at hcall
          refine hcall.mono fun e w' he => ?_
          obtain ⟨cv, rfl, M1, g1, g2, g3⟩ := he
          have hkeep : ∀ b, b < w.heap.size → w'.heap[b]? = w.heap[b]? := fun b hb => g3.keep b hb (fun id bl lc h => by simp at h) (fun k r h => by simp at h)
          have hsz := g3.size
          have hn : ∀ (id : Nat) (b : Blk) lc, m'.heap[id]? = some (some b) → M1.loc id b.gen = some lc → w.heap.size ≤ lc.blk := by
            intro id b lc hb hl
            refine Nat.le_of_not_lt fun hlt => ?_
            obtain ⟨_, _, hx, _⟩ := g3.old id b lc hb hl hlt
            simp at hx
          have hle : M.le (mpVal M w.heap.size w') := ⟨fun b o u hu => by
            show (if b < w.heap.size then _ else _) = _
            rw [if_pos (cell_lt (h.imm b o u hu))]; exact hu, fun _ _ _ h => h, fun _ _ h => h⟩
          have oldlt : ∀ (id : Nat) (b : Blk) lc, m.heap[id]? = some (some b) → M.loc id b.gen = some lc → lc.blk < w.heap.size := fun id b lc hb hl => by
            obtain ⟨lc', hB⟩ := h.blk id b hb
            have := hB.loc
            rw [hl] at this
            rw [Option.some.inj this]
            exact hB.lt
          refine ⟨cv, rfl, mpVal M w.heap.size w', resV_rv (M := M) g2 hn (fun b o hb => g3.imm b o hb) g1 hres, ⟨?_, ?_, ?_, ?_, ?_, ?_, ?_⟩, ?_⟩
          · intro b o u hu
            simp only [mpVal] at hu
            split at hu
            · rename_i hlt
              rw [World.cell?_of_block (w := w) (hkeep b hlt)]
              exact h.imm b o u hu
            · exact hu
          · intro id b hb
            obtain ⟨lc, hB⟩ := h.blk id b hb
            exact ⟨lc, hB.kept hle (hkeep _ hB.lt) hsz⟩
          · intro id b lc hb hl o
            show (if lc.blk < w.heap.size then _ else _) = _
            rw [if_pos (oldlt id b lc hb hl)]
            exact h.sep id b lc hb hl o
          · exact h.inj
          · exact h.gen
          · intro k q hq
            obtain ⟨l, h1, h2⟩ := h.lp k q hq
            exact ⟨l, h1, h2.kept hle (hkeep l h2.lt)⟩
          · exact h.lpi
          · exact ⟨g3.os, g3.output, hsz, g3.froz, fun b hb _ _ => hkeep b hb, fun id bl lc h1 h2 _ => ⟨bl, lc, h1, h2, rfl⟩, fun k r l h1 h2 _ => ⟨r, h1, h2⟩, Nat.le_refl _, Nat.le_refl _, hle,
              (fun id gg lc h1 h0 => by rw [show (mpVal M w.heap.size w').loc id gg = M.loc id gg from rfl, h0] at h1; cases h1), fun id b hb => ⟨b, hb⟩, (fun b o hb => if_pos hb),
              (fun k l h1 h0 => by rw [show (mpVal M w.heap.size w').lp k = M.lp k from rfl, h0] at h1; cases h1), fun l q hq => ⟨q, (hkeep l (Array.getElem?_eq_some_iff.1 hq).1).trans hq⟩⟩
      · cases hS
    · cases hS
  · cases hS

end Go.Zz
