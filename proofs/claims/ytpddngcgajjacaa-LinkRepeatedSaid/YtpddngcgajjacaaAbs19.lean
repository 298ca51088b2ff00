/-
  From a reading of what comes in to abstract values; from an answer of the small code to a law's contract.
-/
import Derived.Test.YtpddngcgajjacaaAbs18
import Derived.OpenShut
import Derived.ChangeSame
import Derived.Carry
import Derived.RowKit
import Derived.WalkKit
import Derived.ProofKit
namespace Go.Zz

def All2 {α β : Type} (R : α → β → Prop) : List α → List β → Prop
  | [], [] => True
  | a :: l, b :: r => R a b ∧ All2 R l r
  | _, _ => False

theorem All2.len {α β : Type} {R : α → β → Prop} : ∀ {l : List α} {r : List β}, All2 R l r → l.length = r.length
  | [], [], _ => rfl
  | _ :: l, _ :: r, h => by simp [All2.len h.2]
theorem All2.append {α β : Type} {R : α → β → Prop} : ∀ {l l' : List α} {r r' : List β}, All2 R l r → All2 R l' r' → All2 R (l ++ l') (r ++ r')
  | [], _, [], _, _, h => h
  | _ :: l, _, _ :: r, _, h, h' => ⟨h.1, h.2.append h'⟩
theorem All2.get {α β : Type} {R : α → β → Prop} : ∀ {l : List α} {r : List β}, All2 R l r → ∀ (i : Nat) a b, l[i]? = some a → r[i]? = some b → R a b
  | [], [], _, i, a, b, h, _ => by simp at h
  | x :: l, y :: r, h, i, a, b, h1, h2 => by
    cases i with
    | zero => simp at h1 h2; subst h1; subst h2; exact h.1
    | succ i => exact h.2.get i a b (by simpa using h1) (by simpa using h2)

inductive FK where
  | bool
  | int (k : IntKind)
  deriving DecidableEq

inductive CK where
  | flat (f : FK)
  | slice (e : List FK)
  deriving DecidableEq

def FC : FK → Value → Prop
  | .bool, v => ∃ b, v = .bool b
  | .int k, v => ∃ n, v = .int k n ∧ (Lit.int k n).wf = true

def CC (w : World) : CK → Value → Prop
  | .flat f, v => FC f v
  | .slice fk, v => v = .slice none 0 0 ∨ ∃ a len cap, v = .slice (some a) len cap ∧ len ≤ cap ∧ cap ≤ maxLen ∧ ∀ i, i < len * fk.length → ∃ u f, w.cell? (a.add i) = some u ∧ fk[i % fk.length]? = some f ∧ FC f u

section
variable (P : Program)

def flatFs {K : Type} (g : TypeId → Option (List K)) : List Field → Nat → Option (List K)
  | [], _ => some []
  | f :: r, o => match g f.type with
    | some a => if f.offset = o ∧ a.length = P.cellsOf f.type then (flatFs g r (o + a.length)).map fun b => a ++ b else none
    | none => none

def repsK {K : Type} (l : List K) : Nat → List K
  | 0 => []
  | n + 1 => l ++ repsK l n

def flatOf : Nat → TypeId → Option (List FK)
  | 0, _ => none
  | d + 1, t => match P.underlying t with
    | some .bool => some [.bool]
    | some (.int k) => some [.int k]
    | some (.struct fs) => (flatFs P (flatOf d) fs.toList 0).bind fun l => if l.length = P.cellsOf t then some l else none
    | some (.array n e) => (flatOf d e).bind fun l => if l.length = P.cellsOf e ∧ n * l.length = P.cellsOf t then some (repsK l n) else none
    | _ => none

def ckOf : Nat → TypeId → Option (List CK)
  | 0, _ => none
  | d + 1, t => match P.underlying t with
    | some (.slice e) => (flatOf P d e).bind fun l => if l.length = P.cellsOf e ∧ 0 < l.length then some [.slice l] else none
    | some (.struct fs) => (flatFs P (ckOf d) fs.toList 0).bind fun l => if l.length = P.cellsOf t then some l else none
    | _ => (flatOf P (d + 1) t).map fun l => l.map .flat

def aggT (t : TypeId) : Bool := match P.underlying t with
  | some (.struct _) | some (.array _ _) => true
  | _ => false

def paramK (t : TypeId) : Option (Bool × List CK) := (ckOf P 20 t).map fun l => (aggT P t, l)
end

section
variable {H : Type} {enc : TypeId × Value → H} {P : Program} {w : World} {base : Nat} {sp : Nat → Bool} {held : Bool}

theorem fields_all {K : Type} {R : K → Value → Prop} {g : TypeId → Option (List K)} {cs : List Value} : ∀ (fs : List Field) (o : Nat) (r : List K), flatFs P g fs o = some r → o + r.length ≤ cs.length →
    (∀ f ∈ fs, ∀ a, g f.type = some a → All2 R a ((cs.drop f.offset).take (P.cellsOf f.type))) → All2 R r ((cs.drop o).take r.length)
  | [], o, r, h, _, _ => by cases h; simp [All2]
  | f :: fs, o, r, h, hle, hf => by
    unfold flatFs at h
    split at h
    · rename_i a ha
      split at h
      · rename_i hc
        simp only [Option.map_eq_some_iff] at h
        obtain ⟨b, hb, rfl⟩ := h
        simp only [List.length_append] at hle
        have h1 := hf f (by simp) a ha
        have h2 := fields_all fs _ b hb (by omega) fun f' hf' => hf f' (by simp [hf'])
        rw [hc.1, ← hc.2] at h1
        have e : (cs.drop o).take (a ++ b).length = (cs.drop o).take a.length ++ (cs.drop (o + a.length)).take b.length := by
          rw [List.length_append, List.take_add, List.drop_drop]
        rw [e]
        exact h1.append h2
      · cases h
    · cases h

theorem reps_all {K : Type} {R : K → Value → Prop} {l : List K} {cs : List Value} : ∀ (n o : Nat), o + n * l.length ≤ cs.length → (∀ i, i < n → All2 R l ((cs.drop (o + i * l.length)).take l.length)) → All2 R (repsK l n) ((cs.drop o).take (n * l.length))
  | 0, o, _, _ => by simp [repsK, All2]
  | n + 1, o, hle, h => by
    have e : (n + 1) * l.length = l.length + n * l.length := by rw [Nat.succ_mul]; omega
    rw [e] at hle ⊢
    rw [List.take_add, List.drop_drop]
    refine All2.append (by simpa using h 0 (by omega)) (reps_all n (o + l.length) (by omega) fun i hi => ?_)
    have := h (i + 1) (by omega)
    rwa [show o + (i + 1) * l.length = o + l.length + i * l.length by rw [Nat.succ_mul]; omega] at this

theorem trod_flat : ∀ (d : Nat) (t : TypeId) (fk : List FK) (fuel : Nat) (cs : List Value) (x : DataW H × List MemPlace), flatOf P d t = some fk → DataW.trod enc P w base sp held fuel t cs = some x → All2 FC fk cs
  | 0, _, _, _, _, _, h, _ => by cases h
  | d + 1, t, fk, fuel, cs, x, h, hx => by
    unfold flatOf at h
    split at h
    · rename_i hu
      cases h
      cases fuel with
      | zero => simp [DataW.trod] at hx
      | succ n =>
        unfold DataW.trod at hx
        rw [hu] at hx
        split at hx <;> simp_all [All2, FC]
    · rename_i k hu
      cases h
      cases fuel with
      | zero => simp [DataW.trod] at hx
      | succ n =>
        unfold DataW.trod at hx
        rw [hu] at hx
        split at hx <;> simp_all [All2, FC]
    · rename_i fs hu
      simp only [Option.bind_eq_some_iff] at h
      obtain ⟨l, hl, h⟩ := h
      split at h
      · rename_i hlen
        cases h
        obtain ⟨xs, n, _, _, hcs, hxs, hf⟩ := DataW.trod_struct hu hx
        have := fields_all (cs := cs) fs.toList 0 fk hl (by omega) fun f hfm a ha => by
          obtain ⟨i, hi, hfi⟩ := List.getElem_of_mem hfm
          have h1 := hf i f (by simp at hi; simp [← hfi, hi])
          have hxi : i < xs.length := by rw [hxs]; simpa using hi
          rw [List.getElem?_eq_getElem hxi] at h1
          exact trod_flat d f.type a n _ _ ha h1
        rw [hlen, ← hcs] at this
        simpa using this
      · cases h
    · rename_i n e hu
      simp only [Option.bind_eq_some_iff] at h
      obtain ⟨l, hl, h⟩ := h
      split at h
      · rename_i hlen
        cases h
        obtain ⟨xs, m, _, _, hcs, hxs, hf⟩ := DataW.trod_array hu hx
        have := reps_all (R := FC) (l := l) (cs := cs) n 0 (by omega) fun i hi => by
          have h1 := hf i hi
          rw [List.getElem?_eq_getElem (by omega)] at h1
          rw [← hlen.1] at h1
          simpa using trod_flat d e l m _ _ hl h1
        rw [hlen.2, ← hcs] at this
        simpa using this
      · cases h
    · cases h

theorem All2.map_left {α α' β : Type} {R : α → β → Prop} {R' : α' → β → Prop} {f : α → α'} (hf : ∀ a b, R a b → R' (f a) b) : ∀ {l : List α} {r : List β}, All2 R l r → All2 R' (l.map f) r
  | [], [], _ => trivial
  | _ :: _, _ :: _, h => ⟨hf _ _ h.1, h.2.map_left hf⟩

theorem mapM_get {α β : Type} {f : α → Option β} : ∀ {l : List α} {r : List β}, l.mapM f = some r → l.length = r.length ∧ ∀ (i : Nat) a, l[i]? = some a → ∃ b, f a = some b ∧ r[i]? = some b
  | [], r, h => by simp at h; subst h; simp
  | a :: l, r, h => by
    simp only [List.mapM_cons, Option.bind_eq_bind, Option.bind_eq_some_iff, Option.pure_def, Option.some.injEq] at h
    obtain ⟨b, hb, r', hr, rfl⟩ := h
    obtain ⟨g1, g2⟩ := mapM_get hr
    refine ⟨by simp [g1], fun i x hx => ?_⟩
    cases i with
    | zero => simp at hx; subst hx; exact ⟨b, hb, rfl⟩
    | succ i => simpa using g2 i x (by simpa using hx)

theorem cells?_get {w : World} {base : Nat} {a : Addr} {n : Nat} {cs : List Value} (h : w.cells? base a n = some cs) : cs.length = n ∧ ∀ i, i < n → w.cell? (a.add i) = cs[i]? := by
  unfold World.cells? at h
  split at h
  · obtain ⟨g1, g2⟩ := mapM_get h
    refine ⟨by simpa using g1.symm, fun i hi => ?_⟩
    obtain ⟨b, hb, hr⟩ := g2 i i (by simp [hi])
    rw [hb, hr]
  · cases h

theorem trod_ck : ∀ (d : Nat) (t : TypeId) (ks : List CK) (fuel : Nat) (cs : List Value) (x : DataW H × List MemPlace), ckOf P d t = some ks → DataW.trod enc P w base sp held fuel t cs = some x → All2 (CC w) ks cs
  | 0, _, _, _, _, _, h, _ => by cases h
  | d + 1, t, ks, fuel, cs, x, h, hx => by
    unfold ckOf at h
    split at h
    · rename_i e hu
      simp only [Option.bind_eq_some_iff] at h
      obtain ⟨l, hl, h⟩ := h
      split at h
      · rename_i hlen
        cases h
        rcases DataW.trod_slice hu hx with ⟨rfl, _⟩ | ⟨a, len, cap, elems, rest, n, _, rfl, _, _, hlc, hcm, hel, hf, _⟩
        · exact ⟨.inl rfl, trivial⟩
        · refine ⟨.inr ⟨a, len, cap, rfl, hlc, hcm, fun i hi => ?_⟩, trivial⟩
          have hpos := hlen.2
          have hq : i / l.length < len := (Nat.div_lt_iff_lt_mul hpos).2 hi
          have hr : i % l.length < l.length := Nat.mod_lt _ hpos
          have h1 := hf (i / l.length) hq
          rw [List.getElem?_eq_getElem (by omega), Option.bind_eq_some_iff] at h1
          obtain ⟨cs', hc', ht⟩ := h1
          obtain ⟨c1, c2⟩ := cells?_get hc'
          have h2 := trod_flat d e l n cs' _ hl ht
          have h3 := c2 (i % l.length) (by rw [← hlen.1]; exact hr)
          have hcl : i % l.length < cs'.length := by rw [c1, ← hlen.1]; exact hr
          rw [List.getElem?_eq_getElem hcl] at h3
          refine ⟨cs'[i % l.length], l[i % l.length], ?_, by simp [hr], h2.get (i % l.length) _ _ (by simp [hr]) (by simp [hcl])⟩
          rw [← h3, ← hlen.1, Addr.add_add]
          congr 2
          rw [Nat.mul_comm]
          exact (Nat.div_add_mod i l.length).symm
      · cases h
    · rename_i fs hu
      simp only [Option.bind_eq_some_iff] at h
      obtain ⟨l, hl, h⟩ := h
      split at h
      · rename_i hlen
        cases h
        obtain ⟨xs, n, _, _, hcs, hxs, hf⟩ := DataW.trod_struct hu hx
        have := fields_all (R := CC w) (cs := cs) fs.toList 0 ks hl (by omega) fun f hfm a ha => by
          obtain ⟨i, hi, hfi⟩ := List.getElem_of_mem hfm
          have h1 := hf i f (by simp at hi; simp [← hfi, hi])
          have hxi : i < xs.length := by rw [hxs]; simpa using hi
          rw [List.getElem?_eq_getElem hxi] at h1
          exact trod_ck d f.type a n _ _ ha h1
        rw [hlen, ← hcs] at this
        simpa using this
      · cases h
    · simp only [Option.map_eq_some_iff] at h
      obtain ⟨l, hl, rfl⟩ := h
      exact (trod_flat (d + 1) t l fuel cs x hl hx).map_left (R' := CC w) (f := CK.flat) fun a b h => h

/-! ### Abstract values -/

def FA : FK → AV → Prop
  | .bool, x => ∃ b, x = .bool b
  | .int k, x => ∃ n, x = .int k n ∧ (Lit.int k n).wf = true

def CA : CK → AV → Prop
  | .flat f, x => FA f x
  | .slice fk, x => x = .snil ∨ ∃ full len l, x = .sval full len l ∧ len ≤ maxLen ∧ l.length = len * fk.length ∧ ∀ i, i < l.length → ∃ f, fk[i % fk.length]? = some f ∧ FA f (gt l i)

def PA (p : Bool × List CK) (x : AV) : Prop := if p.1 then ∃ l, x = .agg l ∧ All2 CA p.2 l else ∃ k, p.2 = [k] ∧ CA k x

/-- Nothing is known but what lies there. -/
def mp0 (W : World) : Mp := { imm := fun b o => W.cell? ⟨b, o, none⟩, loc := fun _ _ => none, lp := fun _ => none }

theorem holds0 (W : World) : Holds P (mp0 W) [] [] W :=
  ⟨fun _ _ _ h => h, fun id b h => by simp at h, fun id b lc h => by simp at h, fun id id' b b' lc lc' h => by simp at h, fun id b g h => by simp at h, fun k r h => by simp at h, fun k k' r r' l h => by simp at h⟩

theorem fresh0 (W : World) : Fresh (mp0 W) [] [] := ⟨fun _ _ _ => rfl, fun _ _ => rfl⟩

theorem fc_rv {M : Mp} {f : FK} {v : Value} (h : FC f v) : ∃ x, FA f x ∧ RV M x v ∧ v.oneCell' = true := by
  cases f with
  | bool => obtain ⟨b, rfl⟩ := h; exact ⟨_, ⟨b, rfl⟩, .bool b, rfl⟩
  | int k => obtain ⟨n, rfl, hw⟩ := h; exact ⟨_, ⟨n, rfl, hw⟩, .int k n, rfl⟩

theorem choose_list {Q : Nat → AV → Prop} : ∀ (n : Nat), (∀ i, i < n → ∃ x, Q i x) → ∃ l : List AV, l.length = n ∧ ∀ i, i < n → Q i (gt l i)
  | 0, _ => ⟨[], rfl, fun i hi => by omega⟩
  | n + 1, h => by
    obtain ⟨l, h1, h2⟩ := choose_list n fun i hi => h i (by omega)
    obtain ⟨x, hx⟩ := h n (by omega)
    refine ⟨l ++ [x], by simp [h1], fun i hi => ?_⟩
    by_cases e : i = n
    · subst e
      rwa [gt_of_lt (by simp; omega), List.getElem_append_right (by omega), show ([x])[i - l.length]'(by simp; omega) = x by simp [h1]]
    · rw [gt_of_lt (by simp; omega), List.getElem_append_left (by omega), ← gt_of_lt]
      exact h2 i (by omega)

theorem cc_rv {W : World} {k : CK} {v : Value} (h : CC W k v) (hs : ∀ a len cap, v = .slice (some a) len cap → a.spot = none) : ∃ x, CA k x ∧ RV (mp0 W) x v ∧ v.oneCell' = true := by
  cases k with
  | flat f => exact fc_rv h
  | slice fk =>
    rcases h with rfl | ⟨a, len, cap, rfl, hlc, hcm, hc⟩
    · exact ⟨.snil, .inl rfl, .snil, rfl⟩
    · have hsp := hs a len cap rfl
      obtain ⟨l, l1, l2⟩ := choose_list (Q := fun i x => ∃ u f, W.cell? (a.add i) = some u ∧ fk[i % fk.length]? = some f ∧ FA f x ∧ RV (mp0 W) x u ∧ u.oneCell' = true) (len * fk.length) fun i hi => by
        obtain ⟨u, f, h1, h2, h3⟩ := hc i hi
        obtain ⟨x, g1, g2, g3⟩ := fc_rv (M := mp0 W) h3
        exact ⟨x, u, f, h1, h2, g1, g2, g3⟩
      refine ⟨.sval (cap == len) len l, .inr ⟨_, len, l, rfl, by omega, l1, fun i hi => ?_⟩, ?_, rfl⟩
      · obtain ⟨u, f, h1, h2, h3, _⟩ := l2 i (by omega)
        exact ⟨f, h2, h3⟩
      · obtain ⟨blk, off, spot⟩ := a
        simp only at hsp
        subst hsp
        refine .sval _ _ _ blk off cap (fun i => (W.cell? ⟨blk, off + i, none⟩).getD undef) hlc (fun e => by simpa using e) (fun i hi => ?_) (fun i hi => ?_) (fun i hi => ?_) <;> (
          obtain ⟨u, f, h1, h2, h3, h4, h5⟩ := l2 i (by omega)
          rw [Addr.add_mid] at h1)
        · show W.cell? _ = _
          rw [h1]; rfl
        · show RV _ _ ((W.cell? _).getD undef)
          rw [h1]; exact h4
        · show ((W.cell? _).getD undef).oneCell' = true
          rw [h1]; exact h5

theorem ccs_rv {W : World} : ∀ {ks : List CK} {cs : List Value}, All2 (CC W) ks cs → (∀ v ∈ cs, ∀ a len cap, v = .slice (some a) len cap → a.spot = none) → ∃ l, All2 CA ks l ∧ RVs (mp0 W) l cs.toArray ∧ ∀ v ∈ cs, v.oneCell' = true
  | [], [], _, _ => ⟨[], trivial, RVs.nil _, by simp⟩
  | k :: ks, v :: cs, h, hs => by
    obtain ⟨x, a1, a2, a3⟩ := cc_rv h.1 (hs v (by simp))
    obtain ⟨l, b1, b2, b3⟩ := ccs_rv h.2 fun v' hv' => hs v' (by simp [hv'])
    refine ⟨x :: l, ⟨a1, b1⟩, ⟨by have := b2.len; simp at this; simp [this], fun i => ?_⟩, fun u hu => ?_⟩
    · cases i with
      | zero => simpa [gt, ag] using a2
      | succ i => have := b2.rel i; simpa [gt, ag] using this
    · rcases List.mem_cons.1 hu with rfl | hu
      · exact a3
      · exact b3 u hu

theorem okWide_spot {r : Reach} {b0 : Nat} {t : TypeId} {v : Value} (h : Value.okWide P w r b0 t v) : ∀ c ∈ v.cells.toList, ∀ a len cap, c = .slice (some a) len cap → a.spot = none := by
  have cell : ∀ (u : TypeId) (a : Addr) (len cap : Nat), Cell.okWide P w r b0 u (.slice (some a) len cap) → a.spot = none := by
    intro u a len cap hc
    unfold Cell.okWide at hc
    split at hc
    case h_8 =>
      unfold Cell.ok at hc
      split at hc <;> simp_all [World.has]
    all_goals simp_all
  intro c hc a len cap rfl
  unfold Value.okWide at h
  split at h
  · obtain ⟨cs, rfl, _, ts, _, _, h3⟩ := h
    simp only [Value.cells] at hc
    obtain ⟨i, hi, e⟩ := List.getElem_of_mem hc
    obtain ⟨u, _, h4⟩ := h3 i _ (by simp at hi; rw [Array.getElem?_eq_getElem hi])
    simp at e
    rw [e] at h4
    exact cell u a len cap h4
  · obtain ⟨cs, rfl, _, ts, _, _, h3⟩ := h
    simp only [Value.cells] at hc
    obtain ⟨i, hi, e⟩ := List.getElem_of_mem hc
    obtain ⟨u, _, h4⟩ := h3 i _ (by simp at hi; rw [Array.getElem?_eq_getElem hi])
    simp at e
    rw [e] at h4
    exact cell u a len cap h4
  · cases v <;> simp [Value.cells] at hc
    · obtain ⟨rfl, rfl, rfl⟩ := hc
      exact cell t a len cap h
    · exfalso
      unfold Cell.okWide at h
      split at h
      case h_8 =>
        unfold Cell.ok at h
        split at h <;> simp_all
      all_goals simp_all

end
end Go.Zz
