/-
  A function that writes nothing old: its contract out of its answer on an empty memory.
-/
import Derived.Test.YtpddngcgajjacaaAbs20
namespace Go.Zz

def flatAV : AV → Bool
  | .int _ _ | .bool _ => true
  | _ => false

def byC (H : Hp) : AV → Option AV
  | .int k n => some (.int k n)
  | .bool b => some (.bool b)
  | .snil => some .snil
  | .sval f n l => if l.all flatAV then some (.sval f n l) else none
  | .sref id g off sz n cap => match look H id g with
    | some l => match cut l off (n * sz) with
      | some c => if c.all flatAV then some (.sval (cap == some n) n c) else none
      | none => none
    | none => none
  | _ => none

def byL (H : Hp) : List AV → Option (List AV)
  | [] => some []
  | x :: r => match byC H x, byL H r with
    | some a, some l => some (a :: l)
    | _, _ => none

def byVal (H : Hp) : AV → Option AV
  | .agg l => match byL H l with | some l => some (.agg l) | none => none
  | x => byC H x

def byVals (H : Hp) : List AV → Option (List AV)
  | [] => some []
  | x :: r => match byVal H x, byVals H r with
    | some a, some l => some (a :: l)
    | _, _ => none

def refsC : AV → List Nat
  | .sref id _ _ _ _ _ => [id]
  | _ => []

def refsL : List AV → List Nat
  | [] => []
  | x :: r => refsC x ++ refsL r

def refsA : AV → List Nat
  | .agg l => refsL l
  | x => refsC x

def refsT : List AV → List Nat
  | [] => []
  | x :: r => refsA x ++ refsT r

def refs : AV → List Nat
  | .tuple l => refsT l
  | x => refsA x

def uniq : List Nat → List Nat → List Nat
  | [], acc => acc
  | x :: r, acc => if acc.contains x then uniq r acc else uniq r (acc ++ [x])

/-- The blocks that go with the result. -/
def takeBlks (H : Hp) : List Nat → Option Hp
  | [] => some []
  | id :: r => match H[id]? with
    | some (some b) => if b.cells.all flatAV then (match takeBlks H r with | some l => some (some ⟨0, b.cells⟩ :: l) | none => none) else none
    | _ => none

def findIdx (ρ : List Nat) (id : Nat) : Nat → Option Nat
  | k => match ρ with
    | [] => none
    | x :: r => if x = id then some k else findIdx r id (k + 1)

def renC (H : Hp) (ρ : List Nat) (base : Nat) : AV → Option AV
  | .int k n => some (.int k n)
  | .bool b => some (.bool b)
  | .snil => some .snil
  | .sval f n [] => some (.sval f n [])
  | .sref id g off sz n cap => match look H id g, findIdx ρ id 0 with
    | some _, some i => some (.sref (base + i) 0 off sz n cap)
    | _, _ => none
  | _ => none

def renL (H : Hp) (ρ : List Nat) (base : Nat) : List AV → Option (List AV)
  | [] => some []
  | x :: r => match renC H ρ base x, renL H ρ base r with
    | some a, some l => some (a :: l)
    | _, _ => none

def renA (H : Hp) (ρ : List Nat) (base : Nat) : AV → Option AV
  | .agg l => match renL H ρ base l with | some l => some (.agg l) | none => none
  | x => renC H ρ base x

def renT (H : Hp) (ρ : List Nat) (base : Nat) : List AV → Option (List AV)
  | [] => some []
  | x :: r => match renA H ρ base x, renT H ρ base r with
    | some a, some l => some (a :: l)
    | _, _ => none

def renV (H : Hp) (ρ : List Nat) (base : Nat) : AV → Option AV
  | .tuple l => match renT H ρ base l with | some l => some (.tuple l) | none => none
  | x => renA H ρ base x

/-- What a function gives on an empty memory. -/
def alone (r : Option (AV × Mem)) (m : Mem) : Option (AV × Mem) :=
  match r with
  | some (y, m') => match takeBlks m'.heap (uniq (refs y) []), renV m'.heap (uniq (refs y) []) m.heap.length y with
    | some new, some y' => some (y', ⟨m.heap ++ new, m.loops⟩)
    | _, _ => none
  | none => none

def borrow (Γ : Env) (n g : Nat) (args : List AV) (m : Mem) : Option (AV × Mem) :=
  match byVals m.heap args with
  | some ys => alone (evF Γ n (.func g [] []) ys ⟨[], []⟩) m
  | none => none

theorem flat_rv {M M' : Mp} {x : AV} {v : Value} (hf : flatAV x = true) (h : RV M x v) : RV M' x v := by
  cases h <;> first | (simp [flatAV] at hf; done) | constructor

theorem byC_rv {P : Program} {M : Mp} {H : Hp} {L : List (Option ALoop)} {w : World} (h : Holds P M H L w) {x y : AV} {v : Value} (hx : RV M x v) (hy : byC H x = some y) : RV (mp0 w) y v := by
  unfold byC at hy
  cases hx with
  | int k n => cases hy; exact .int k n
  | bool b => cases hy; exact .bool b
  | snil => cases hy; exact .snil
  | sval full len l b o cap f hc hf hi hr h1 =>
    simp only at hy
    split at hy
    · rename_i hfl
      cases hy
      rw [List.all_eq_true] at hfl
      refine .sval full len l b o cap f hc hf (fun i hlt => h.imm _ _ _ (hi i hlt)) (fun i hlt => flat_rv (hfl _ ?_) (hr i hlt)) h1
      rw [gt_of_lt hlt]
      exact List.getElem_mem hlt
    · cases hy
  | sref id g off sz len cap lc ccap hl hc hr he ho =>
    simp only at hy
    split at hy
    · rename_i l hk
      split at hy
      · rename_i c hcut
        split at hy
        · rename_i hfl
          cases hy
          obtain ⟨lc0, hB⟩ := h.blk id _ (look_eq hk)
          have e0 : lc0 = lc := by have := hB.loc; simp only at this; rw [hl] at this; exact (Option.some.inj this).symm
          subst e0
          unfold cut at hcut
          split at hcut
          · rename_i hle
            cases hcut
            rw [List.all_eq_true] at hfl
            have hlen : ((l.drop off).take (len * sz)).length = len * sz := by simp; omega
            have hg : ∀ i, i < len * sz → gt ((l.drop off).take (len * sz)) i = gt l (off + i) := fun i hi => by
              simp only [gt_eq, List.getD, List.getElem?_take, if_pos hi, List.getElem?_drop]
            have cell : ∀ i, i < len * sz → ∃ u, w.cell? ⟨lc0.blk, lc0.base + off + i, none⟩ = some u ∧ RV M (gt l (off + i)) u ∧ u.oneCell' = true := fun i hi => by
              obtain ⟨u, a1, a2, a3⟩ := hB.rel (off + i) (by simp only; omega)
              exact ⟨u, by rw [Nat.add_assoc]; exact a1, a2, a3⟩
            refine .sval _ len _ lc0.blk (lc0.base + off) ccap (fun i => (w.cell? ⟨lc0.blk, lc0.base + off + i, none⟩).getD undef) hc (fun e => he _ (by simpa using e)) (fun i hi => ?_) (fun i hi => ?_) (fun i hi => ?_) <;> (
              rw [hlen] at hi
              obtain ⟨u, a1, a2, a3⟩ := cell i hi)
            · show w.cell? _ = _
              rw [a1]; rfl
            · simp only [a1, Option.getD_some]
              refine flat_rv (hfl _ ?_) (by rw [hg i hi]; exact a2)
              rw [gt_of_lt (by rw [hlen]; exact hi)]
              exact List.getElem_mem _
            · simp only [a1, Option.getD_some]
              exact a3
          · cases hcut
        · cases hy
      · cases hy
    · cases hy
  | _ => simp at hy

theorem byL_rv {P : Program} {M : Mp} {H : Hp} {L : List (Option ALoop)} {w : World} (h : Holds P M H L w) : ∀ {xs ys : List AV}, byL H xs = some ys → xs.length = ys.length ∧ ∀ i v, RV M (gt xs i) v → RV (mp0 w) (gt ys i) v
  | [], ys, hy => by
    cases hy
    refine ⟨rfl, fun i v hv => ?_⟩
    simp only [gt] at hv ⊢
    cases hv with
    | tup0 => exact .tup0
    | tuple l c hl _ => have : c = #[] := by simpa using hl.symm
                        subst this; exact .tup0
  | x :: r, ys, hy => by
    unfold byL at hy
    split at hy
    · rename_i a l ha hl
      cases hy
      obtain ⟨g1, g2⟩ := byL_rv h hl
      refine ⟨by simp [g1], fun i v hv => ?_⟩
      cases i with
      | zero => exact byC_rv h hv ha
      | succ i => exact g2 i v hv
    · cases hy

theorem byVal_rv {P : Program} {M : Mp} {H : Hp} {L : List (Option ALoop)} {w : World} (h : Holds P M H L w) {x y : AV} {v : Value} (hx : RV M x v) (hy : byVal H x = some y) : RV (mp0 w) y v := by
  unfold byVal at hy
  split at hy
  · rename_i l
    split at hy
    · rename_i l' hl
      cases hy
      cases hx with
      | agg _ c hlc hr h1 =>
        obtain ⟨g1, g2⟩ := byL_rv h hl
        exact .agg _ c (by omega) (fun i => g2 i _ (hr i)) h1
    · cases hy
  · exact byC_rv h hx hy

theorem byVals_rv {P : Program} {M : Mp} {H : Hp} {L : List (Option ALoop)} {w : World} (h : Holds P M H L w) : ∀ {xs ys : List AV} {c : List Value}, byVals H xs = some ys → RVs M xs c.toArray → RVs (mp0 w) ys c.toArray
  | [], ys, c, hy, hx => by
    cases hy
    have hl := hx.len
    cases c with
    | nil => exact RVs.nil _
    | cons v c => simp at hl
  | x :: r, ys, c, hy, hx => by
    unfold byVals at hy
    split at hy
    · rename_i a l ha hl
      cases hy
      cases c with
      | nil => have := hx.len; simp at this
      | cons v c =>
        have h0 : RV M x v := by have := hx.rel 0; simpa [gt, ag] using this
        have hr : RVs M r c.toArray := ⟨by have := hx.len; simpa using this, fun i => by have := hx.rel (i + 1); simpa [gt, ag] using this⟩
        have ih := byVals_rv h hl hr
        refine ⟨by have := ih.len; simp at this; simp [this], fun i => ?_⟩
        cases i with
        | zero => simpa [gt, ag] using byVal_rv h h0 ha
        | succ i => have := ih.rel i; simpa [gt, ag] using this
    · cases hy

theorem uniq_nodup : ∀ (l acc : List Nat), acc.Nodup → (uniq l acc).Nodup
  | [], acc, h => h
  | x :: r, acc, h => by
    unfold uniq
    split
    · exact uniq_nodup r acc h
    · rename_i hn
      refine uniq_nodup r _ ?_
      rw [List.nodup_append]
      refine ⟨h, by simp, ?_⟩
      intro a ha b hb e
      simp at hb
      subst hb; subst e
      exact hn (by simpa using ha)

theorem takeBlks_get {H : Hp} : ∀ {ρ : List Nat} {new : Hp}, takeBlks H ρ = some new → new.length = ρ.length ∧ ∀ (i r : Nat), ρ[i]? = some r → ∃ b : Blk, H[r]? = some (some b) ∧ b.cells.all flatAV = true ∧ new[i]? = some (some ⟨0, b.cells⟩)
  | [], new, h => by cases h; simp
  | id :: ρ, new, h => by
    unfold takeBlks at h
    split at h
    · rename_i b hb
      split at h
      · rename_i hf
        split at h
        · rename_i l hl
          cases h
          obtain ⟨g1, g2⟩ := takeBlks_get hl
          refine ⟨by simp [g1], fun i r hi => ?_⟩
          cases i with
          | zero => simp at hi; subst hi; exact ⟨b, hb, hf, rfl⟩
          | succ i => simpa using g2 i r (by simpa using hi)
        · cases h
      · cases h
    · cases h

theorem findIdx_get : ∀ {ρ : List Nat} {id k i : Nat}, findIdx ρ id k = some i → ∃ j, i = k + j ∧ ρ[j]? = some id
  | [], _, _, _, h => by simp [findIdx] at h
  | x :: r, id, k, i, h => by
    unfold findIdx at h
    simp only at h
    split at h
    · rename_i e
      cases h
      exact ⟨0, rfl, by simp [e]⟩
    · obtain ⟨j, h1, h2⟩ := findIdx_get h
      exact ⟨j + 1, by omega, by simpa using h2⟩

/-- The map behind it. -/
def mpNew (M M1 : Mp) (H : Hp) (ρ : List Nat) (base : Nat) : Mp where
  imm := M.imm
  loc := fun id g => if g = 0 ∧ base ≤ id then (match ρ[id - base]? with
    | some r => (match H[r]? with | some (some b) => M1.loc r b.gen | _ => M.loc id g)
    | none => M.loc id g) else M.loc id g
  lp := M.lp

theorem mpNew_old {M M1 : Mp} {H : Hp} {ρ : List Nat} {base id g : Nat} (h : id < base) : (mpNew M M1 H ρ base).loc id g = M.loc id g := by
  simp only [mpNew]
  rw [if_neg (by omega)]

theorem mpNew_new {M M1 : Mp} {H : Hp} {ρ : List Nat} {base i r : Nat} {b : Blk} (hr : ρ[i]? = some r) (hb : H[r]? = some (some b)) : (mpNew M M1 H ρ base).loc (base + i) 0 = M1.loc r b.gen := by
  refine (if_pos (show (0 : Nat) = 0 ∧ base ≤ base + i from ⟨rfl, by omega⟩)).trans ?_
  rw [show base + i - base = i by omega, hr]
  simp only [hb]

theorem renC_rv {M M1 : Mp} {H : Hp} {ρ : List Nat} {base : Nat} {x y : AV} {v : Value} (hx : RV M1 x v) (hy : renC H ρ base x = some y) : RV (mpNew M M1 H ρ base) y v := by
  unfold renC at hy
  cases hx with
  | int k n => cases hy; exact .int k n
  | bool b => cases hy; exact .bool b
  | snil => cases hy; exact .snil
  | sval full len l b o cap f hc hf hi hr h1 =>
    cases l with
    | nil => cases hy; exact .sval full len [] b o cap f hc hf (fun i hi => by simp at hi) (fun i hi => by simp at hi) (fun i hi => by simp at hi)
    | cons a l => simp at hy
  | sref id g off sz len cap lc ccap hl hc hr he ho =>
    simp only at hy
    split at hy
    · rename_i l i hk hi
      cases hy
      obtain ⟨j, h1, h2⟩ := findIdx_get hi
      have e : i = j := by omega
      subst e
      have := mpNew_new (M := M) (M1 := M1) (base := base) h2 (look_eq hk)
      exact .sref _ 0 off sz len cap lc ccap (this.trans hl) hc hr he ho
    · cases hy
  | _ => simp at hy

theorem renL_rv {M M1 : Mp} {H : Hp} {ρ : List Nat} {base : Nat} : ∀ {xs ys : List AV}, renL H ρ base xs = some ys → xs.length = ys.length ∧ ∀ i v, RV M1 (gt xs i) v → RV (mpNew M M1 H ρ base) (gt ys i) v
  | [], ys, hy => by
    cases hy
    refine ⟨rfl, fun i v hv => ?_⟩
    simp only [gt] at hv ⊢
    cases hv with
    | tup0 => exact .tup0
    | tuple l c hl _ => have : c = #[] := by simpa using hl.symm
                        subst this; exact .tup0
  | x :: r, ys, hy => by
    unfold renL at hy
    split at hy
    · rename_i a l ha hl
      cases hy
      obtain ⟨g1, g2⟩ := renL_rv hl
      refine ⟨by simp [g1], fun i v hv => ?_⟩
      cases i with
      | zero => exact renC_rv hv ha
      | succ i => exact g2 i v hv
    · cases hy

theorem renA_rv {M M1 : Mp} {H : Hp} {ρ : List Nat} {base : Nat} {x y : AV} {v : Value} (hx : RV M1 x v) (hy : renA H ρ base x = some y) : RV (mpNew M M1 H ρ base) y v := by
  unfold renA at hy
  split at hy
  · split at hy
    · rename_i l l' hl
      cases hy
      cases hx with
      | agg _ c hlc hr h1 =>
        obtain ⟨g1, g2⟩ := renL_rv (M := M) (M1 := M1) hl
        exact .agg _ c (by omega) (fun i => g2 i _ (hr i)) h1
    · cases hy
  · exact renC_rv hx hy

theorem renT_rv {M M1 : Mp} {H : Hp} {ρ : List Nat} {base : Nat} : ∀ {xs ys : List AV}, renT H ρ base xs = some ys → xs.length = ys.length ∧ ∀ i v, RV M1 (gt xs i) v → RV (mpNew M M1 H ρ base) (gt ys i) v
  | [], ys, hy => by
    cases hy
    refine ⟨rfl, fun i v hv => ?_⟩
    simp only [gt] at hv ⊢
    cases hv with
    | tup0 => exact .tup0
    | tuple l c hl _ => have : c = #[] := by simpa using hl.symm
                        subst this; exact .tup0
  | x :: r, ys, hy => by
    unfold renT at hy
    split at hy
    · rename_i a l ha hl
      cases hy
      obtain ⟨g1, g2⟩ := renT_rv hl
      refine ⟨by simp [g1], fun i v hv => ?_⟩
      cases i with
      | zero => exact renA_rv hv ha
      | succ i => exact g2 i v hv
    · cases hy

theorem renV_rv {M M1 : Mp} {H : Hp} {ρ : List Nat} {base : Nat} {x y : AV} {v : Value} (hx : RV M1 x v) (hy : renV H ρ base x = some y) : RV (mpNew M M1 H ρ base) y v := by
  unfold renV at hy
  split at hy
  · split at hy
    · rename_i l l' hl
      cases hy
      obtain ⟨g1, g2⟩ := renT_rv (M := M) (M1 := M1) hl
      cases hx with
      | tup0 =>
        have : l' = [] := by simpa using g1.symm
        subst this
        exact .tup0
      | tuple _ c hlc hr => exact .tuple _ c (by omega) (fun i => g2 i _ (hr i))
    · cases hy
  · exact renA_rv hx hy

/-- **BORROWED.** -/
theorem borrow_ok {P : Program} {Γ : Env} (hΓ : EnvOk P Γ) {n g : Nat} (hg : Callable P g) : SpecOk P g (borrow Γ n g) := by
  refine ⟨hg, fun args m v mm hS N M w cargs ha h hf => ?_⟩
  unfold borrow at hS
  split at hS
  · rename_i ys hys
    unfold alone at hS
    split at hS
    · rename_i y m' hev
      split at hS
      · rename_i new y' hnew hren
        simp only [Option.some.injEq, Prod.mk.injEq] at hS
        obtain ⟨rfl, rfl⟩ := hS
        have hys' : RVs (mp0 w) ys cargs := by
          have := byVals_rv h (c := cargs.toList) hys (by simpa using ha)
          simpa using this
        have ans := sound hΓ n _ _ _ _ _ hev N (mp0 w) w (.func (.func g) #[] #[]) cargs (.func g [] [] #[] #[] rfl rfl (fun i => by simp [gt, ag]; exact .tup0) (fun i => by simp [gt, ag]; exact .tup0)) hys' (holds0 w) (fresh0 w)
        cases ans with
        | func _ _ _ hcl hcall =>
          have earr : (#[] ++ cargs ++ #[] : Array Value) = cargs := by simp
          rw [earr] at hcall
          refine hcall.mono fun e w' he => ?_
          obtain ⟨cv, rfl, M1, g1, g2, g3⟩ := he
          generalize hρ : uniq (refs y) [] = ρ at hnew hren
          have hnd : ρ.Nodup := by rw [← hρ]; exact uniq_nodup _ _ List.nodup_nil
          obtain ⟨n1, n2⟩ := takeBlks_get hnew
          have hkeep : ∀ b, b < w.heap.size → w'.heap[b]? = w.heap[b]? := fun b hb => g3.keep b hb (fun id bl lc h => by simp at h) (fun k r h => by simp at h)
          have hsz := g3.size
          -- what is new
          have hget : ∀ (id : Nat) (b : Blk), (m.heap ++ new)[id]? = some (some b) → (id < m.heap.length ∧ m.heap[id]? = some (some b)) ∨ ∃ i r b0, id = m.heap.length + i ∧ ρ[i]? = some r ∧ m'.heap[r]? = some (some b0) ∧ b0.cells.all flatAV = true ∧ b = ⟨0, b0.cells⟩ := by
            intro id b hb
            by_cases hlt : id < m.heap.length
            · rw [List.getElem?_append_left hlt] at hb; exact .inl ⟨hlt, hb⟩
            · right
              rw [List.getElem?_append_right (by omega)] at hb
              have hi := (List.getElem?_eq_some_iff.1 hb).1
              obtain ⟨b0, q1, q2, q3⟩ := n2 (id - m.heap.length) ρ[id - m.heap.length] (by simp)
              rw [hb] at q3
              exact ⟨id - m.heap.length, _, b0, by omega, by simp, q1, q2, by simpa using q3⟩
          have newloc : ∀ (i r : Nat) (b0 : Blk), ρ[i]? = some r → m'.heap[r]? = some (some b0) → ∃ lc, HB M1 w' r b0 lc ∧ (mpNew M M1 m'.heap ρ m.heap.length).loc (m.heap.length + i) 0 = some lc ∧ w.heap.size ≤ lc.blk := by
            intro i r b0 hr hb
            obtain ⟨lc, hB⟩ := g2.blk r b0 hb
            refine ⟨lc, hB, (mpNew_new hr hb).trans hB.loc, Nat.le_of_not_lt fun hlt => ?_⟩
            obtain ⟨_, _, hx, _⟩ := g3.old r b0 lc hb hB.loc hlt
            simp at hx
          have oldlt : ∀ (id : Nat) (b : Blk) lc, m.heap[id]? = some (some b) → M.loc id b.gen = some lc → lc.blk < w.heap.size := fun id b lc hb hl => by
            obtain ⟨lc', hB⟩ := h.blk id b hb
            have := hB.loc
            rw [hl] at this
            rw [Option.some.inj this]
            exact hB.lt
          have hle : M.le (mpNew M M1 m'.heap ρ m.heap.length) := ⟨fun _ _ _ h => h, fun i gg l hl => by
            by_cases hi : i < m.heap.length
            · rw [mpNew_old hi]; exact hl
            · (rw [hf.loc i gg (by omega)] at hl; cases hl), fun _ _ h => h⟩
          refine ⟨cv, rfl, mpNew M M1 m'.heap ρ m.heap.length, renV_rv g1 hren, ⟨?_, ?_, ?_, ?_, ?_, ?_, ?_⟩, ?_⟩
          · intro b o u hu
            have h0 := h.imm b o u hu
            rw [World.cell?_of_block (w := w) (hkeep b (cell_lt h0))]
            exact h0
          · intro id b hb
            rcases hget id b hb with ⟨hlt, hb⟩ | ⟨i, r, b0, rfl, hr, hb0, hfl, rfl⟩
            · obtain ⟨lc, hB⟩ := h.blk id b hb
              exact ⟨lc, hB.kept hle (hkeep _ hB.lt) hsz⟩
            · obtain ⟨lc, hB, hl, _⟩ := newloc i r b0 hr hb0
              rw [List.all_eq_true] at hfl
              refine ⟨lc, hl, hB.len, hB.room, hB.there, fun j hj => ?_, hB.froz, hB.lt, hB.obj⟩
              obtain ⟨u, u1, u2, u3⟩ := hB.rel j hj
              refine ⟨u, u1, flat_rv (hfl _ ?_) u2, u3⟩
              simp only at hj
              show gt b0.cells j ∈ _
              rw [gt_of_lt hj]
              exact List.getElem_mem hj
          · intro id b lc hb hl o
            rcases hget id b hb with ⟨hlt, hb⟩ | ⟨i, r, b0, rfl, hr, hb0, hfl, rfl⟩
            · rw [mpNew_old hlt] at hl
              exact h.sep id b lc hb hl o
            · obtain ⟨lc', _, hl', hge⟩ := newloc i r b0 hr hb0
              rw [hl'] at hl
              have e : lc' = lc := Option.some.inj hl
              rw [← e]
              cases hi : M.imm lc'.blk o with
              | none => exact hi
              | some u => have := cell_lt (h.imm _ _ _ hi); omega
          · intro id id' b b' lc lc' hb hb' hl hl' e0
            rcases hget id b hb with ⟨hlt, hb⟩ | ⟨i, r, b0, rfl, hr, hb0, hfl, rfl⟩ <;> rcases hget id' b' hb' with ⟨hlt', hb'⟩ | ⟨i', r', b0', rfl, hr', hb0', hfl', rfl⟩
            · rw [mpNew_old hlt] at hl
              rw [mpNew_old hlt'] at hl'
              exact h.inj id id' b b' lc lc' hb hb' hl hl' e0
            · rw [mpNew_old hlt] at hl
              obtain ⟨l2, _, hl2, hge⟩ := newloc i' r' b0' hr' hb0'
              rw [hl2] at hl'
              cases hl'
              have := oldlt id b lc hb hl
              omega
            · rw [mpNew_old hlt'] at hl'
              obtain ⟨l2, _, hl2, hge⟩ := newloc i r b0 hr hb0
              rw [hl2] at hl
              cases hl
              have := oldlt id' b' lc' hb' hl'
              omega
            · obtain ⟨l2, hB2, hl2, _⟩ := newloc i r b0 hr hb0
              obtain ⟨l3, hB3, hl3, _⟩ := newloc i' r' b0' hr' hb0'
              rw [hl2] at hl
              cases hl
              rw [hl3] at hl'
              cases hl'
              have err := g2.inj r r' b0 b0' _ _ hb0 hb0' hB2.loc hB3.loc e0
              subst err
              have hi := (List.getElem?_eq_some_iff.1 hr)
              have hi' := (List.getElem?_eq_some_iff.1 hr')
              have := (List.getElem_inj (h₀ := hi.1) (h₁ := hi'.1) hnd).1 (hi.2.trans hi'.2.symm)
              omega
          · intro id b gg hb hgt
            rcases hget id b hb with ⟨hlt, hb⟩ | ⟨i, r, b0, rfl, hr, hb0, hfl, rfl⟩
            · rw [mpNew_old hlt]; exact h.gen id b gg hb hgt
            · simp only [mpNew]
              simp only at hgt
              rw [if_neg (by omega)]
              exact hf.loc _ _ (by omega)
          · intro k q hq
            obtain ⟨l, h1, h2⟩ := h.lp k q hq
            exact ⟨l, h1, h2.kept hle (hkeep l h2.lt)⟩
          · exact h.lpi
          · refine ⟨g3.os, g3.output, hsz, g3.froz, fun b hb _ _ => hkeep b hb, ?_, fun k r l h1 h2 _ => ⟨r, h1, h2⟩, by simp, Nat.le_refl _, hle, ?_, (fun id b hb => ⟨b, by rw [List.getElem?_append_left (List.getElem?_eq_some_iff.1 hb).1]; exact hb⟩), (fun _ _ _ => rfl), ?_, fun l q hq => ⟨q, (hkeep l (Array.getElem?_eq_some_iff.1 hq).1).trans hq⟩⟩
            · intro id b lc hb hl hlt2
              rcases hget id b hb with ⟨hlt, hb⟩ | ⟨i, r, b0, rfl, hr, hb0, hfl, rfl⟩
              · rw [mpNew_old hlt] at hl
                exact ⟨b, lc, hb, hl, rfl⟩
              · obtain ⟨l2, _, hl2, hge⟩ := newloc i r b0 hr hb0
                rw [hl2] at hl
                cases hl
                omega
            · intro id gg lc h1 h0
              by_cases hlt : id < m.heap.length
              · rw [mpNew_old hlt, h0] at h1; cases h1
              · simp only [mpNew] at h1
                split at h1
                · split at h1
                  · rename_i r hr
                    obtain ⟨b0, q1, q2, q3⟩ := n2 (id - m.heap.length) r hr
                    exact ⟨⟨0, b0.cells⟩, by rw [List.getElem?_append_right (by omega)]; exact q3⟩
                  · rw [h0] at h1; cases h1
                · rw [h0] at h1; cases h1
            · intro k l h1 h0
              rw [show (mpNew M M1 m'.heap ρ m.heap.length).lp k = M.lp k from rfl, h0] at h1; cases h1
      · cases hS
    · cases hS
  · cases hS

end Go.Zz
