import Derived.Test.YtgchabldcnmccacGreatDoorAbsE
import Derived.OpenShut
import Derived.ChangeSame
import Derived.Carry
import Derived.RowKit
import Derived.WalkKit
import Derived.ProofKit

set_option linter.unusedSimpArgs false
set_option linter.unusedVariables false

namespace Go.Zz
def All2 {α β : Type} (R : α → β → Prop) : List α → List β → Prop
 | [], [] => True
 | a :: l, b :: r => R a b ∧ All2 R l r
 | _, _ => False
theorem All2.len {α β : Type} {R : α → β → Prop} : ∀ {l : List α} {r : List β}, All2 R l r → l.length = r.length
 | [], [], _ => rfl
 | _ :: l, _ :: r, h => by simp [All2.len h.2]
theorem All2.append {α β : Type} {R : α → β → Prop} : ∀ {l l' : List α} {r r' : List β}, All2 R l r → All2 R l' r' → All2 R (l ++ l') (r ++ r')
 | [], _, [], _, _, h => h
 | _ :: l, _, _ :: r, _, h, h' => ⟨h.1, h.2.append h'⟩
theorem All2.get {α β : Type} {R : α → β → Prop} : ∀ {l : List α} {r : List β}, All2 R l r → ∀ (i : Nat) a b, l[i]? = some a → r[i]? = some b → R a b
 | [], [], _, i, a, b, h, _ => by simp at h
 | x :: l, y :: r, h, i, a, b, h1, h2 => by
  cases i with
  | zero => simp at h1 h2; subst h1; subst h2; exact h.1
  | succ i => exact h.2.get i a b (by simpa using h1) (by simpa using h2)
inductive FK where
 | bool
 | int (k : IntKind)
 | str
 deriving DecidableEq
inductive CK where
 | flat (f : FK)
 | slice (e : List FK)
 deriving DecidableEq
def FC : FK → Value → Prop
 | .bool, v => ∃ b, v = .bool b
 | .int k, v => ∃ n, v = .int k n ∧ (Lit.int k n).wf = true
 | .str, v => ∃ s, v = .string s ∧ s.size ≤ maxLen
def CC (w : World) : CK → Value → Prop
 | .flat f, v => FC f v
 | .slice fk, v => v = .slice none 0 0 ∨ ∃ a len cap, v = .slice (some a) len cap ∧ len ≤ cap ∧ cap ≤ maxLen ∧ ∀ i, i < len * fk.length → ∃ u f, w.cell? (a.add i) = some u ∧ fk[i % fk.length]? = some f ∧ FC f u
section
variable (P : Program)
def flatFs {K : Type} (g : TypeId → Option (List K)) : List Field → Nat → Option (List K)
 | [], _ => some []
 | f :: r, o => match g f.type with
  | some a => if f.offset = o ∧ a.length = P.cellsOf f.type then (flatFs g r (o + a.length)).map fun b => a ++ b else none
  | none => none
def repsK {K : Type} (l : List K) : Nat → List K
 | 0 => []
 | n + 1 => l ++ repsK l n
def flatOf : Nat → TypeId → Option (List FK)
 | 0, _ => none
 | d + 1, t => match P.underlying t with
  | some .bool => some [.bool]
  | some (.int k) => some [.int k]
  | some .string => some [.str]
  | some (.struct fs) => (flatFs P (flatOf d) fs.toList 0).bind fun l => if l.length = P.cellsOf t then some l else none
  | some (.array n e) => (flatOf d e).bind fun l => if l.length = P.cellsOf e ∧ n * l.length = P.cellsOf t then some (repsK l n) else none
  | _ => none
def ckOf : Nat → TypeId → Option (List CK)
 | 0, _ => none
 | d + 1, t => match P.underlying t with
  | some (.slice e) => (flatOf P d e).bind fun l => if l.length = P.cellsOf e ∧ 0 < l.length then some [.slice l] else none
  | some (.struct fs) => (flatFs P (ckOf d) fs.toList 0).bind fun l => if l.length = P.cellsOf t then some l else none
  | _ => (flatOf P (d + 1) t).map fun l => l.map .flat
def aggT (t : TypeId) : Bool := match P.underlying t with
 | some (.struct _) | some (.array _ _) => true
 | _ => false
def paramK (t : TypeId) : Option (Bool × List CK) := (ckOf P 20 t).map fun l => (aggT P t, l)
end
section
variable {H : Type} {enc : TypeId × Value → H} {P : Program} {w : World} {base : Nat} {sp : Nat → Bool} {held : Bool}
theorem fields_all {K : Type} {R : K → Value → Prop} {g : TypeId → Option (List K)} {cs : List Value} : ∀ (fs : List Field) (o : Nat) (r : List K), flatFs P g fs o = some r → o + r.length ≤ cs.length →
  (∀ f ∈ fs, ∀ a, g f.type = some a → All2 R a ((cs.drop f.offset).take (P.cellsOf f.type))) → All2 R r ((cs.drop o).take r.length)
 | [], o, r, h, _, _ => by cases h; simp [All2]
 | f :: fs, o, r, h, hle, hf => by
  unfold flatFs at h
  split at h
  ·rename_i a ha
   split at h
   ·rename_i hc
    simp only [Option.map_eq_some_iff] at h
    obtain ⟨b, hb, rfl⟩ := h
    simp only [List.length_append] at hle
    have h1 := hf f (by simp) a ha
    have h2 := fields_all fs _ b hb (by omega) fun f' hf' => hf f' (by simp [hf'])
    rw [hc.1, ← hc.2] at h1
    have e : (cs.drop o).take (a ++ b).length = (cs.drop o).take a.length ++ (cs.drop (o + a.length)).take b.length := by
     rw [List.length_append, List.take_add, List.drop_drop]
    rw [e]
    exact h1.append h2
   ·cases h
  ·cases h
theorem reps_all {K : Type} {R : K → Value → Prop} {l : List K} {cs : List Value} : ∀ (n o : Nat), o + n * l.length ≤ cs.length → (∀ i, i < n → All2 R l ((cs.drop (o + i * l.length)).take l.length)) → All2 R (repsK l n) ((cs.drop o).take (n * l.length))
 | 0, o, _, _ => by simp [repsK, All2]
 | n + 1, o, hle, h => by
  have e : (n + 1) * l.length = l.length + n * l.length := by rw [Nat.succ_mul]; omega
  rw [e] at hle ⊢
  rw [List.take_add, List.drop_drop]
  refine All2.append (by simpa using h 0 (by omega)) (reps_all n (o + l.length) (by omega) fun i hi => ?_)
  have := h (i + 1) (by omega)
  rwa [show o + (i + 1) * l.length = o + l.length + i * l.length by rw [Nat.succ_mul]; omega] at this
theorem trod_flat : ∀ (d : Nat) (t : TypeId) (fk : List FK) (fuel : Nat) (cs : List Value) (x : DataW H × List MemPlace), flatOf P d t = some fk → DataW.trod enc P w base sp held fuel t cs = some x → All2 FC fk cs
 | 0, _, _, _, _, _, h, _ => by cases h
 | d + 1, t, fk, fuel, cs, x, h, hx => by
  unfold flatOf at h
  split at h
  ·rename_i hu
   cases h
   cases fuel with
   | zero => simp [DataW.trod] at hx
   | succ n =>
    unfold DataW.trod at hx
    rw [hu] at hx
    split at hx <;> simp_all [All2, FC]
  ·rename_i k hu
   cases h
   cases fuel with
   | zero => simp [DataW.trod] at hx
   | succ n =>
    unfold DataW.trod at hx
    rw [hu] at hx
    split at hx <;> simp_all [All2, FC]
  ·rename_i hu
   cases h
   obtain ⟨s, rfl, _, hs⟩ := DataW.trod_string hu hx
   exact ⟨⟨s, rfl, hs⟩, trivial⟩
  ·rename_i fs hu
   simp only [Option.bind_eq_some_iff] at h
   obtain ⟨l, hl, h⟩ := h
   split at h
   ·rename_i hlen
    cases h
    obtain ⟨xs, n, _, _, hcs, hxs, hf⟩ := DataW.trod_struct hu hx
    have := fields_all (cs := cs) fs.toList 0 fk hl (by omega) fun f hfm a ha => by
     obtain ⟨i, hi, hfi⟩ := List.getElem_of_mem hfm
     have h1 := hf i f (by simp at hi; simp [← hfi, hi])
     have hxi : i < xs.length := by rw [hxs]; simpa using hi
     rw [List.getElem?_eq_getElem hxi] at h1
     exact trod_flat d f.type a n _ _ ha h1
    rw [hlen, ← hcs] at this
    simpa using this
   ·cases h
  ·rename_i n e hu
   simp only [Option.bind_eq_some_iff] at h
   obtain ⟨l, hl, h⟩ := h
   split at h
   ·rename_i hlen
    cases h
    obtain ⟨xs, m, _, _, hcs, hxs, hf⟩ := DataW.trod_array hu hx
    have := reps_all (R := FC) (l := l) (cs := cs) n 0 (by omega) fun i hi => by
     have h1 := hf i hi
     rw [List.getElem?_eq_getElem (by omega)] at h1
     rw [← hlen.1] at h1
     simpa using trod_flat d e l m _ _ hl h1
    rw [hlen.2, ← hcs] at this
    simpa using this
   ·cases h
  ·cases h
theorem All2.map_left {α α' β : Type} {R : α → β → Prop} {R' : α' → β → Prop} {f : α → α'} (hf : ∀ a b, R a b → R' (f a) b) : ∀ {l : List α} {r : List β}, All2 R l r → All2 R' (l.map f) r
 | [], [], _ => trivial
 | _ :: _, _ :: _, h => ⟨hf _ _ h.1, h.2.map_left hf⟩
theorem mapM_get {α β : Type} {f : α → Option β} : ∀ {l : List α} {r : List β}, l.mapM f = some r → l.length = r.length ∧ ∀ (i : Nat) a, l[i]? = some a → ∃ b, f a = some b ∧ r[i]? = some b
 | [], r, h => by simp at h; subst h; simp
 | a :: l, r, h => by
  simp only [List.mapM_cons, Option.bind_eq_bind, Option.bind_eq_some_iff, Option.pure_def, Option.some.injEq] at h
  obtain ⟨b, hb, r', hr, rfl⟩ := h
  obtain ⟨g1, g2⟩ := mapM_get hr
  refine ⟨by simp [g1], fun i x hx => ?_⟩
  cases i with
  | zero => simp at hx; subst hx; exact ⟨b, hb, rfl⟩
  | succ i => simpa using g2 i x (by simpa using hx)
theorem cells?_get {w : World} {base : Nat} {a : Addr} {n : Nat} {cs : List Value} (h : w.cells? base a n = some cs) : cs.length = n ∧ ∀ i, i < n → w.cell? (a.add i) = cs[i]? := by
 unfold World.cells? at h
 split at h
 ·obtain ⟨g1, g2⟩ := mapM_get h
  refine ⟨by simpa using g1.symm, fun i hi => ?_⟩
  obtain ⟨b, hb, hr⟩ := g2 i i (by simp [hi])
  rw [hb, hr]
 ·cases h
theorem trod_ck : ∀ (d : Nat) (t : TypeId) (ks : List CK) (fuel : Nat) (cs : List Value) (x : DataW H × List MemPlace), ckOf P d t = some ks → DataW.trod enc P w base sp held fuel t cs = some x → All2 (CC w) ks cs
 | 0, _, _, _, _, _, h, _ => by cases h
 | d + 1, t, ks, fuel, cs, x, h, hx => by
  unfold ckOf at h
  split at h
  ·rename_i e hu
   simp only [Option.bind_eq_some_iff] at h
   obtain ⟨l, hl, h⟩ := h
   split at h
   ·rename_i hlen
    cases h
    rcases DataW.trod_slice hu hx with ⟨rfl, _⟩ | ⟨a, len, cap, elems, rest, n, _, rfl, _, _, hlc, hcm, hel, hf, _⟩
    ·exact ⟨.inl rfl, trivial⟩
    ·refine ⟨.inr ⟨a, len, cap, rfl, hlc, hcm, fun i hi => ?_⟩, trivial⟩
     have hpos := hlen.2
     have hq : i / l.length < len := (Nat.div_lt_iff_lt_mul hpos).2 hi
     have hr : i % l.length < l.length := Nat.mod_lt _ hpos
     have h1 := hf (i / l.length) hq
     rw [List.getElem?_eq_getElem (by omega), Option.bind_eq_some_iff] at h1
     obtain ⟨cs', hc', ht⟩ := h1
     obtain ⟨c1, c2⟩ := cells?_get hc'
     have h2 := trod_flat d e l n cs' _ hl ht
     have h3 := c2 (i % l.length) (by rw [← hlen.1]; exact hr)
     have hcl : i % l.length < cs'.length := by rw [c1, ← hlen.1]; exact hr
     rw [List.getElem?_eq_getElem hcl] at h3
     refine ⟨cs'[i % l.length], l[i % l.length], ?_, by simp [hr], h2.get (i % l.length) _ _ (by simp [hr]) (by simp [hcl])⟩
     rw [← h3, ← hlen.1, Addr.add_add]
     congr 2
     rw [Nat.mul_comm]
     exact (Nat.div_add_mod i l.length).symm
   ·cases h
  ·rename_i fs hu
   simp only [Option.bind_eq_some_iff] at h
   obtain ⟨l, hl, h⟩ := h
   split at h
   ·rename_i hlen
    cases h
    obtain ⟨xs, n, _, _, hcs, hxs, hf⟩ := DataW.trod_struct hu hx
    have := fields_all (R := CC w) (cs := cs) fs.toList 0 ks hl (by omega) fun f hfm a ha => by
     obtain ⟨i, hi, hfi⟩ := List.getElem_of_mem hfm
     have h1 := hf i f (by simp at hi; simp [← hfi, hi])
     have hxi : i < xs.length := by rw [hxs]; simpa using hi
     rw [List.getElem?_eq_getElem hxi] at h1
     exact trod_ck d f.type a n _ _ ha h1
    rw [hlen, ← hcs] at this
    simpa using this
   ·cases h
  ·simp only [Option.map_eq_some_iff] at h
   obtain ⟨l, hl, rfl⟩ := h
   exact (trod_flat (d + 1) t l fuel cs x hl hx).map_left (R' := CC w) (f := CK.flat) fun a b h => h
def FA : FK → AV → Prop
 | .bool, x => ∃ b, x = .bool b
 | .int k, x => ∃ n, x = .int k n ∧ (Lit.int k n).wf = true
 | .str, x => ∃ s, x = .str s ∧ s.size ≤ maxLen
def CA : CK → AV → Prop
 | .flat f, x => FA f x
 | .slice fk, x => x = .snil ∨ ∃ full len l, x = .sval full len l ∧ len ≤ maxLen ∧ l.length = len * fk.length ∧ ∀ i, i < l.length → ∃ f, fk[i % fk.length]? = some f ∧ FA f (gt l i)
def PA (p : Bool × List CK) (x : AV) : Prop := if p.1 then ∃ l, x = .agg l ∧ All2 CA p.2 l else ∃ k, p.2 = [k] ∧ CA k x
def mp0 [Globs] (W : World) (hG : GlobW W) : Mp := { imm := fun b o => W.cell? ⟨b, o, none⟩, loc := fun _ _ => none, lp := fun _ => none, glob := hG }
theorem holds0 [Globs] (W : World) (hG : GlobW W) : Holds P (mp0 W hG) [] [] W :=
 ⟨fun _ _ _ h => h, fun id b h => by simp at h, fun id b lc h => by simp at h, fun id id' b b' lc lc' h => by simp at h, fun id b g h => by simp at h, fun k r h => by simp at h, fun k k' r r' l h => by simp at h⟩
theorem fresh0 [Globs] (W : World) (hG : GlobW W) : Fresh (mp0 W hG) [] [] := ⟨fun _ _ _ => rfl, fun _ _ => rfl⟩
theorem fc_rv [Globs] {M : Mp} {f : FK} {v : Value} (h : FC f v) : ∃ x, FA f x ∧ RV M x v ∧ v.oneCell' = true := by
 cases f with
 | bool => obtain ⟨b, rfl⟩ := h; exact ⟨_, ⟨b, rfl⟩, .bool b, rfl⟩
 | int k => obtain ⟨n, rfl, hw⟩ := h; exact ⟨_, ⟨n, rfl, hw⟩, .int k n, rfl⟩
 | str => obtain ⟨s, rfl, hs⟩ := h; exact ⟨_, ⟨s, rfl, hs⟩, .str s, rfl⟩
theorem choose_list {Q : Nat → AV → Prop} : ∀ (n : Nat), (∀ i, i < n → ∃ x, Q i x) → ∃ l : List AV, l.length = n ∧ ∀ i, i < n → Q i (gt l i)
 | 0, _ => ⟨[], rfl, fun i hi => by omega⟩
 | n + 1, h => by
  obtain ⟨l, h1, h2⟩ := choose_list n fun i hi => h i (by omega)
  obtain ⟨x, hx⟩ := h n (by omega)
  refine ⟨l ++ [x], by simp [h1], fun i hi => ?_⟩
  by_cases e : i = n
  ·subst e
   rwa [gt_of_lt (by simp; omega), List.getElem_append_right (by omega), show ([x])[i - l.length]'(by simp; omega) = x by simp [h1]]
  ·rw [gt_of_lt (by simp; omega), List.getElem_append_left (by omega), ← gt_of_lt]
   exact h2 i (by omega)
theorem cc_rv [Globs] {W : World} {hG : GlobW W} {k : CK} {v : Value} (h : CC W k v) (hs : ∀ a len cap, v = .slice (some a) len cap → a.spot = none) : ∃ x, CA k x ∧ RV (mp0 W hG) x v ∧ v.oneCell' = true := by
 cases k with
 | flat f => exact fc_rv h
 | slice fk =>
  rcases h with rfl | ⟨a, len, cap, rfl, hlc, hcm, hc⟩
  ·exact ⟨.snil, .inl rfl, .snil, rfl⟩
  ·have hsp := hs a len cap rfl
   obtain ⟨l, l1, l2⟩ := choose_list (Q := fun i x => ∃ u f, W.cell? (a.add i) = some u ∧ fk[i % fk.length]? = some f ∧ FA f x ∧ RV (mp0 W hG) x u ∧ u.oneCell' = true) (len * fk.length) fun i hi => by
    obtain ⟨u, f, h1, h2, h3⟩ := hc i hi
    obtain ⟨x, g1, g2, g3⟩ := fc_rv (M := mp0 W hG) h3
    exact ⟨x, u, f, h1, h2, g1, g2, g3⟩
   refine ⟨.sval (cap == len) len l, .inr ⟨_, len, l, rfl, by omega, l1, fun i hi => ?_⟩, ?_, rfl⟩
   ·obtain ⟨u, f, h1, h2, h3, _⟩ := l2 i (by omega)
    exact ⟨f, h2, h3⟩
   ·obtain ⟨blk, off, spot⟩ := a
    simp only at hsp
    subst hsp
    refine .sval _ _ _ blk off cap (fun i => (W.cell? ⟨blk, off + i, none⟩).getD undef) hlc (fun e => by simpa using e) (fun i hi => ?_) (fun i hi => ?_) (fun i hi => ?_) <;> (
     obtain ⟨u, f, h1, h2, h3, h4, h5⟩ := l2 i (by omega)
     rw [Addr.add_mid] at h1)
    ·show W.cell? _ = _
     rw [h1]; rfl
    ·show RV _ _ ((W.cell? _).getD undef)
     rw [h1]; exact h4
    ·show ((W.cell? _).getD undef).oneCell' = true
     rw [h1]; exact h5
theorem ccs_rv [Globs] {W : World} {hG : GlobW W} : ∀ {ks : List CK} {cs : List Value}, All2 (CC W) ks cs → (∀ v ∈ cs, ∀ a len cap, v = .slice (some a) len cap → a.spot = none) → ∃ l, All2 CA ks l ∧ RVs (mp0 W hG) l cs.toArray ∧ ∀ v ∈ cs, v.oneCell' = true
 | [], [], _, _ => ⟨[], trivial, RVs.nil _, by simp⟩
 | k :: ks, v :: cs, h, hs => by
  obtain ⟨x, a1, a2, a3⟩ := cc_rv h.1 (hs v (by simp))
  obtain ⟨l, b1, b2, b3⟩ := ccs_rv h.2 fun v' hv' => hs v' (by simp [hv'])
  refine ⟨x :: l, ⟨a1, b1⟩, ⟨by have := b2.len; simp at this; simp [this], fun i => ?_⟩, fun u hu => ?_⟩
  ·cases i with
   | zero => simpa [gt, ag] using a2
   | succ i => have := b2.rel i; simpa [gt, ag] using this
  ·rcases List.mem_cons.1 hu with rfl | hu
   ·exact a3
   ·exact b3 u hu
theorem okWide_spot {r : Reach} {b0 : Nat} {t : TypeId} {v : Value} (h : Value.okWide P w r b0 t v) : ∀ c ∈ v.cells.toList, ∀ a len cap, c = .slice (some a) len cap → a.spot = none := by
 have cell : ∀ (u : TypeId) (a : Addr) (len cap : Nat), Cell.okWide P w r b0 u (.slice (some a) len cap) → a.spot = none := by
  intro u a len cap hc
  unfold Cell.okWide at hc
  split at hc
  case h_8 =>
   unfold Cell.ok at hc
   split at hc <;> simp_all [World.has]
  all_goals simp_all
 intro c hc a len cap rfl
 unfold Value.okWide at h
 split at h
 ·obtain ⟨cs, rfl, _, ts, _, _, h3⟩ := h
  simp only [Value.cells] at hc
  obtain ⟨i, hi, e⟩ := List.getElem_of_mem hc
  obtain ⟨u, _, h4⟩ := h3 i _ (by simp at hi; rw [Array.getElem?_eq_getElem hi])
  simp at e
  rw [e] at h4
  exact cell u a len cap h4
 ·obtain ⟨cs, rfl, _, ts, _, _, h3⟩ := h
  simp only [Value.cells] at hc
  obtain ⟨i, hi, e⟩ := List.getElem_of_mem hc
  obtain ⟨u, _, h4⟩ := h3 i _ (by simp at hi; rw [Array.getElem?_eq_getElem hi])
  simp at e
  rw [e] at h4
  exact cell u a len cap h4
 ·cases v <;> simp [Value.cells] at hc
  ·obtain ⟨rfl, rfl, rfl⟩ := hc
   exact cell t a len cap h
  ·exfalso
   unfold Cell.okWide at h
   split at h
   case h_8 =>
    unfold Cell.ok at h
    split at h <;> simp_all
   all_goals simp_all
end
end Go.Zz


namespace Go.Zz
open Go.ChangeShapes Go.WideShapes Go.RowKit
section
variable {H : Type} {enc : TypeId × Value → H} {P : Program}
theorem okWide_notAgg {w : World} {r : Reach} {b0 : Nat} {t : TypeId} {v : Value} (h : Value.okWide P w r b0 t v) (ha : aggT P t = false) : v.cells = #[v] := by
 unfold Value.okWide at h
 unfold aggT at ha
 split at h <;> simp_all
 cases v <;> try rfl
 exfalso
 unfold Cell.okWide at h
 split at h
 case h_8 =>
  unfold Cell.ok at h
  split at h <;> simp_all
 all_goals simp_all
theorem okWide_agg {w : World} {r : Reach} {b0 : Nat} {t : TypeId} {v : Value} (h : Value.okWide P w r b0 t v) (ha : aggT P t = true) : ∃ cs, v = .agg cs := by
 unfold Value.okWide at h
 unfold aggT at ha
 split at h
 ·obtain ⟨cs, h, _⟩ := h; exact ⟨cs, h⟩
 ·obtain ⟨cs, h, _⟩ := h; exact ⟨cs, h⟩
 ·exfalso; revert ha; split <;> simp_all
theorem arg_rv [Globs] {W : World} {hG : GlobW W} {t : TypeId} {v : Value} {d : DataW H} {p : List MemPlace} {pk : Bool × List CK} (h : DataW.Trod enc P W 0 (fun _ => true) true t v d p) {r : Reach} {b0 : Nat} (hok : Value.okWide P W r b0 t v) (hp : paramK P t = some pk) :
  ∃ x, RV (mp0 W hG) x v ∧ PA pk x := by
 unfold paramK at hp
 simp only [Option.map_eq_some_iff] at hp
 obtain ⟨ks, hks, rfl⟩ := hp
 obtain ⟨fuel, h⟩ := h
 have hcc := trod_ck 20 t ks fuel _ _ hks h
 obtain ⟨l, a1, a2, a3⟩ := ccs_rv hcc (okWide_spot hok)
 cases hagg : aggT P t with
 | true =>
  obtain ⟨cs, rfl⟩ := okWide_agg hok hagg
  have a2' : RVs (mp0 W hG) l cs := by simpa [Value.cells] using a2
  exact ⟨.agg l, .agg l cs a2'.len a2'.rel (by simpa [Value.cells] using a3), by simp [PA]; exact a1⟩
 | false =>
  have e := okWide_notAgg hok hagg
  rw [e] at hcc a2
  match ks, l, hcc, a1, a2 with
  | [k], [x], _, a1, a2 =>
   refine ⟨x, ?_, by simp [PA]; exact a1.1⟩
   have := a2.rel 0
   simpa [gt, ag] using this
theorem args_rv [Globs] {W : World} {hG : GlobW W} {r : Reach} {b0 : Nat} : ∀ {ts : List TypeId} {vs : List Value} {ds : List (DataW H)} {p : List MemPlace} {pks : List (Bool × List CK)}, DataW.TrodAll enc P W 0 (fun _ => true) true ts vs ds p →
  (∀ (j : Nat) t v, ts[j]? = some t → vs[j]? = some v → Value.okWide P W r b0 t v) → ts.mapM (paramK P) = some pks → ∃ avs, RVs (mp0 W hG) avs vs.toArray ∧ All2 PA pks avs ∧ ds.length = ts.length
 | [], vs, ds, p, pks, h, _, hp => by
  obtain ⟨rfl, rfl, rfl⟩ := trodAll_nil h
  simp at hp
  subst hp
  exact ⟨[], RVs.nil _, trivial, rfl⟩
 | t :: ts, vs, ds, p, pks, h, hok, hp => by
  obtain ⟨v, vs1, d, ds1, p1, p2, rfl, rfl, rfl, h1, h2⟩ := trodAll_cons h
  simp only [List.mapM_cons, Option.bind_eq_bind, Option.bind_eq_some_iff, Option.pure_def, Option.some.injEq] at hp
  obtain ⟨pk, g1, pks', g2, rfl⟩ := hp
  obtain ⟨x, x1, x2⟩ := arg_rv h1 (hok 0 t v rfl rfl) g1
  obtain ⟨avs, y1, y2, y3⟩ := args_rv h2 (fun j t v a b => hok (j + 1) t v (by simpa using a) (by simpa using b)) g2
  refine ⟨x :: avs, ⟨by have := y1.len; simp at this; simp [this], fun i => ?_⟩, ⟨x2, y2⟩, by simp [y3]⟩
  cases i with
  | zero => simpa [gt, ag] using x1
  | succ i => have := y1.rel i; simpa [gt, ag] using this
theorem trodAll_stays (hl : laidOutB P = true) {W W' : World} {sp : Nat → Bool} : ∀ {ts : List TypeId} {vs : List Value} {ds : List (DataW H)} {p : List MemPlace}, (∀ t ∈ ts, P.readableRec t = true ∧ t < P.types.size) → DataW.TrodAll enc P W 0 (fun _ => true) true ts vs ds p →
  (∀ x ∈ p, W.sameAt W' x) → (∀ x ∈ p, sp x.block = true) → DataW.TrodAll enc P W' 0 sp true ts vs ds p
 | [], vs, ds, p, _, h, _, _ => by
  obtain ⟨rfl, rfl, rfl⟩ := trodAll_nil h
  exact rfl
 | t :: ts, vs, ds, p, hr, h, h1, h2 => by
  obtain ⟨v, vs1, d, ds1, p1, p2, rfl, rfl, rfl, g1, g2⟩ := trodAll_cons h
  refine ⟨p1, p2, ?_, trodAll_stays hl (fun t ht => hr t (by simp [ht])) g2 (fun x hx => h1 x (by simp [hx])) (fun x hx => h2 x (by simp [hx])), rfl⟩
  obtain ⟨r1, r2⟩ := hr t (by simp)
  exact WideElems.Trod_stays hl r1 r2 g1 (fun x hx => h1 x (by simp [hx])) (fun x hx => h2 x (by simp [hx]))
end
end Go.Zz


namespace Go.Zz
def flatAV : AV → Bool
 | .int _ _ | .bool _ | .str _ => true
 | _ => false
def byC (H : Hp) : AV → Option AV
 | .int k n => some (.int k n)
 | .bool b => some (.bool b)
 | .str s => some (.str s)
 | .snil => some .snil
 | .sval f n l => if l.all flatAV then some (.sval f n l) else none
 | .sref id g off sz n cap => match look H id g with
  | some l => match cut l off (n * sz) with
   | some c => if c.all flatAV then some (.sval (cap == some n) n c) else none
   | none => none
  | none => none
 | _ => none
def byL (H : Hp) : List AV → Option (List AV)
 | [] => some []
 | x :: r => match byC H x, byL H r with
  | some a, some l => some (a :: l)
  | _, _ => none
def byVal (H : Hp) : AV → Option AV
 | .agg l => match byL H l with | some l => some (.agg l) | none => none
 | x => byC H x
def byVals (H : Hp) : List AV → Option (List AV)
 | [] => some []
 | x :: r => match byVal H x, byVals H r with
  | some a, some l => some (a :: l)
  | _, _ => none
def refsC : AV → List Nat
 | .sref id _ _ _ _ _ => [id]
 | _ => []
def refsL : List AV → List Nat
 | [] => []
 | x :: r => refsC x ++ refsL r
def refsA : AV → List Nat
 | .agg l => refsL l
 | x => refsC x
def refsT : List AV → List Nat
 | [] => []
 | x :: r => refsA x ++ refsT r
def refs : AV → List Nat
 | .tuple l => refsT l
 | x => refsA x
def uniq : List Nat → List Nat → List Nat
 | [], acc => acc
 | x :: r, acc => if acc.contains x then uniq r acc else uniq r (acc ++ [x])
def takeBlks (H : Hp) : List Nat → Option Hp
 | [] => some []
 | id :: r => match H[id]? with
  | some (some b) => if b.cells.all flatAV then (match takeBlks H r with | some l => some (some ⟨0, b.cells⟩ :: l) | none => none) else none
  | _ => none
def findIdx (ρ : List Nat) (id : Nat) : Nat → Option Nat
 | k => match ρ with
  | [] => none
  | x :: r => if x = id then some k else findIdx r id (k + 1)
def renC (H : Hp) (ρ : List Nat) (base : Nat) : AV → Option AV
 | .int k n => some (.int k n)
 | .bool b => some (.bool b)
 | .str s => some (.str s)
 | .snil => some .snil
 | .sval f n [] => some (.sval f n [])
 | .sref id g off sz n cap => match look H id g, findIdx ρ id 0 with
  | some _, some i => some (.sref (base + i) 0 off sz n cap)
  | _, _ => none
 | _ => none
def renL (H : Hp) (ρ : List Nat) (base : Nat) : List AV → Option (List AV)
 | [] => some []
 | x :: r => match renC H ρ base x, renL H ρ base r with
  | some a, some l => some (a :: l)
  | _, _ => none
def renA (H : Hp) (ρ : List Nat) (base : Nat) : AV → Option AV
 | .agg l => match renL H ρ base l with | some l => some (.agg l) | none => none
 | x => renC H ρ base x
def renT (H : Hp) (ρ : List Nat) (base : Nat) : List AV → Option (List AV)
 | [] => some []
 | x :: r => match renA H ρ base x, renT H ρ base r with
  | some a, some l => some (a :: l)
  | _, _ => none
def renV (H : Hp) (ρ : List Nat) (base : Nat) : AV → Option AV
 | .tuple l => match renT H ρ base l with | some l => some (.tuple l) | none => none
 | x => renA H ρ base x
def alone (r : Option (AV × Mem)) (m : Mem) : Option (AV × Mem) :=
 match r with
 | some (y, m') => match takeBlks m'.heap (uniq (refs y) []), renV m'.heap (uniq (refs y) []) m.heap.length y with
  | some new, some y' => some (y', ⟨m.heap ++ new, m.loops⟩)
  | _, _ => none
 | none => none
def borrow (Γ : Env) (n g : Nat) (args : List AV) (m : Mem) : Option (AV × Mem) :=
 match byVals m.heap args with
 | some ys => alone (evF Γ n (.func g [] []) ys ⟨[], []⟩) m
 | none => none
theorem flat_rv [Globs] {M M' : Mp} {x : AV} {v : Value} (hf : flatAV x = true) (h : RV M x v) : RV M' x v := by
 cases h <;> first | (simp [flatAV] at hf; done) | constructor
theorem byC_rv [Globs] {P : Program} {M : Mp} {H : Hp} {L : List (Option ALoop)} {w : World} (h : Holds P M H L w) {x y : AV} {v : Value} (hx : RV M x v) (hy : byC H x = some y) : RV (mp0 w h.globs) y v := by
 unfold byC at hy
 cases hx with
 | int k n => cases hy; exact .int k n
 | bool b => cases hy; exact .bool b
 | str s => cases hy; exact .str s
 | inil => cases hy
 | ifc t x v h => cases hy
 | snil => cases hy; exact .snil
 | sval full len l b o cap f hc hf hi hr h1 =>
  simp only at hy
  split at hy
  ·rename_i hfl
   cases hy
   rw [List.all_eq_true] at hfl
   refine .sval full len l b o cap f hc hf (fun i hlt => h.imm _ _ _ (hi i hlt)) (fun i hlt => flat_rv (hfl _ ?_) (hr i hlt)) h1
   rw [gt_of_lt hlt]
   exact List.getElem_mem hlt
  ·cases hy
 | sref id g off sz len cap lc ccap hl hc hr he ho =>
  simp only at hy
  split at hy
  ·rename_i l hk
   split at hy
   ·rename_i c hcut
    split at hy
    ·rename_i hfl
     cases hy
     obtain ⟨lc0, hB⟩ := h.blk id _ (look_eq hk)
     have e0 : lc0 = lc := by have := hB.loc; simp only at this; rw [hl] at this; exact (Option.some.inj this).symm
     subst e0
     unfold cut at hcut
     split at hcut
     ·rename_i hle
      cases hcut
      rw [List.all_eq_true] at hfl
      have hlen : ((l.drop off).take (len * sz)).length = len * sz := by simp; omega
      have hg : ∀ i, i < len * sz → gt ((l.drop off).take (len * sz)) i = gt l (off + i) := fun i hi => by
       simp only [gt_eq, List.getD, List.getElem?_take, if_pos hi, List.getElem?_drop]
      have cell : ∀ i, i < len * sz → ∃ u, w.cell? ⟨lc0.blk, lc0.base + off + i, none⟩ = some u ∧ RV M (gt l (off + i)) u ∧ u.oneCell' = true := fun i hi => by
       obtain ⟨u, a1, a2, a3⟩ := hB.rel (off + i) (by simp only; omega)
       exact ⟨u, by rw [Nat.add_assoc]; exact a1, a2, a3⟩
      refine .sval _ len _ lc0.blk (lc0.base + off) ccap (fun i => (w.cell? ⟨lc0.blk, lc0.base + off + i, none⟩).getD undef) hc (fun e => he _ (by simpa using e)) (fun i hi => ?_) (fun i hi => ?_) (fun i hi => ?_) <;> (
       rw [hlen] at hi
       obtain ⟨u, a1, a2, a3⟩ := cell i hi)
      ·show w.cell? _ = _
       rw [a1]; rfl
      ·simp only [a1, Option.getD_some]
       refine flat_rv (hfl _ ?_) (by rw [hg i hi]; exact a2)
       rw [gt_of_lt (by rw [hlen]; exact hi)]
       exact List.getElem_mem _
      ·simp only [a1, Option.getD_some]
       exact a3
     ·cases hcut
    ·cases hy
   ·cases hy
  ·cases hy
 | _ => simp at hy
theorem byL_rv [Globs] {P : Program} {M : Mp} {H : Hp} {L : List (Option ALoop)} {w : World} (h : Holds P M H L w) : ∀ {xs ys : List AV}, byL H xs = some ys → xs.length = ys.length ∧ ∀ i v, RV M (gt xs i) v → RV (mp0 w h.globs) (gt ys i) v
  | [], ys, hy => by
    cases hy
    refine ⟨rfl, fun i v hv => ?_⟩
    simp only [gt] at hv ⊢
    cases hv with
    | tup0 => exact .tup0
    | tuple l c hl _ => have : c = #[] := by simpa using hl.symm
                        subst this; exact .tup0
  | x :: r, ys, hy => by
    unfold byL at hy
    split at hy
    · rename_i a l ha hl
      cases hy
      obtain ⟨g1, g2⟩ := byL_rv h hl
      refine ⟨by simp [g1], fun i v hv => ?_⟩
      cases i with
      | zero => exact byC_rv h hv ha
      | succ i => exact g2 i v hv
    · cases hy
theorem byVal_rv [Globs] {P : Program} {M : Mp} {H : Hp} {L : List (Option ALoop)} {w : World} (h : Holds P M H L w) {x y : AV} {v : Value} (hx : RV M x v) (hy : byVal H x = some y) : RV (mp0 w h.globs) y v := by
 unfold byVal at hy
 split at hy
 ·rename_i l
  split at hy
  ·rename_i l' hl
   cases hy
   cases hx with
   | agg _ c hlc hr h1 =>
    obtain ⟨g1, g2⟩ := byL_rv h hl
    exact .agg _ c (by omega) (fun i => g2 i _ (hr i)) h1
  ·cases hy
 ·exact byC_rv h hx hy
theorem byVals_rv [Globs] {P : Program} {M : Mp} {H : Hp} {L : List (Option ALoop)} {w : World} (h : Holds P M H L w) : ∀ {xs ys : List AV} {c : List Value}, byVals H xs = some ys → RVs M xs c.toArray → RVs (mp0 w h.globs) ys c.toArray
 | [], ys, c, hy, hx => by
  cases hy
  have hl := hx.len
  cases c with
  | nil => exact RVs.nil _
  | cons v c => simp at hl
 | x :: r, ys, c, hy, hx => by
  unfold byVals at hy
  split at hy
  ·rename_i a l ha hl
   cases hy
   cases c with
   | nil => have := hx.len; simp at this
   | cons v c =>
    have h0 : RV M x v := by have := hx.rel 0; simpa [gt, ag] using this
    have hr : RVs M r c.toArray := ⟨by have := hx.len; simpa using this, fun i => by have := hx.rel (i + 1); simpa [gt, ag] using this⟩
    have ih := byVals_rv h hl hr
    refine ⟨by have := ih.len; simp at this; simp [this], fun i => ?_⟩
    cases i with
    | zero => simpa [gt, ag] using byVal_rv h h0 ha
    | succ i => have := ih.rel i; simpa [gt, ag] using this
  ·cases hy
def mpNew [Globs] (M M1 : Mp) (H : Hp) (ρ : List Nat) (base : Nat) : Mp where
 imm := M.imm
 glob := M.glob
 loc := fun id g => if g = 0 ∧ base ≤ id then (match ρ[id - base]? with
  | some r => (match H[r]? with | some (some b) => M1.loc r b.gen | _ => M.loc id g)
  | none => M.loc id g) else M.loc id g
 lp := M.lp
end Go.Zz


namespace Go.Zz
def pureC : AV → Bool
 | .int _ _ | .bool _ | .snil | .str _ => true
 | .sval _ _ l => l.all flatAV
 | _ => false
def pureA : AV → Bool
 | .agg l => l.all pureC
 | x => pureC x
def mpImm [Globs] (M : Mp) : Mp := { imm := M.imm, loc := fun _ _ => none, lp := fun _ => none, glob := M.glob }
theorem holdsImm [Globs] {P : Program} {M : Mp} {H : Hp} {L : List (Option ALoop)} {w : World} (h : Holds P M H L w) : Holds P (mpImm M) [] [] w :=
 ⟨h.imm, fun id b h => by simp at h, fun id b lc h => by simp at h, fun id id' b b' lc lc' h => by simp at h, fun id b g h => by simp at h, fun k r h => by simp at h, fun k k' r r' l h => by simp at h⟩
theorem freshImm [Globs] (M : Mp) : Fresh (mpImm M) [] [] := ⟨fun _ _ _ => rfl, fun _ _ => rfl⟩
theorem pureC_rv [Globs] {M : Mp} {x : AV} {v : Value} (hp : pureC x = true) (h : RV M x v) : RV (mpImm M) x v := by
 cases h with
 | int k n => exact .int k n
 | bool b => exact .bool b
 | str s => exact .str s
 | inil => simp [pureC] at hp
 | ifc t x v h => simp [pureC] at hp
 | snil => exact .snil
 | sval full len l b o cap f hc hf hi hr h1 =>
  simp only [pureC] at hp
  rw [List.all_eq_true] at hp
  refine .sval full len l b o cap f hc hf hi (fun i hlt => flat_rv (hp _ ?_) (hr i hlt)) h1
  rw [gt_of_lt hlt]
  exact List.getElem_mem hlt
 | _ => simp [pureC] at hp
theorem pureA_rv [Globs] {M : Mp} {x : AV} {v : Value} (hp : pureA x = true) (h : RV M x v) : RV (mpImm M) x v := by
 unfold pureA at hp
 split at hp
 ·rename_i l
  rw [List.all_eq_true] at hp
  cases h with
  | agg _ c hl hr h1 =>
   refine .agg l c hl (fun i => ?_) h1
   by_cases hi : i < l.length
   ·exact pureC_rv (hp _ (by rw [gt_of_lt hi]; exact List.getElem_mem hi)) (hr i)
   ·have e := hr i
    rw [gt_of_ge (by omega)] at e ⊢
    rw [ag_of_ge (by omega)]
    exact .tup0
 ·exact pureC_rv hp h
theorem pures_rv [Globs] {M : Mp} {xs : List AV} {c : Array Value} (hp : xs.all pureA = true) (h : RVs M xs c) : RVs (mpImm M) xs c := by
 refine ⟨h.len, fun i => ?_⟩
 rw [List.all_eq_true] at hp
 by_cases hi : i < xs.length
 ·exact pureA_rv (hp _ (by rw [gt_of_lt hi]; exact List.getElem_mem hi)) (h.rel i)
 ·rw [gt_of_ge (by omega), ag_of_ge (by have := h.len; omega)]
  exact .tup0
def resC (H : Hp) : AV → Option AV
 | .int k n => some (.int k n)
 | .bool b => some (.bool b)
 | .str s => some (.str s)
 | .snil => some .snil
 | .sval f n l => if l.all flatAV then some (.sval f n l) else none
 | .sref id g off sz n cap => match look H id g with
  | some l => match cut l off (n * sz) with
   | some c => if c.all flatAV then some (.sval (cap == some n) n c) else none
   | none => none
  | none => none
 | _ => none
def resL (H : Hp) : List AV → Option (List AV)
 | [] => some []
 | x :: r => match resC H x, resL H r with
  | some a, some l => some (a :: l)
  | _, _ => none
def resA (H : Hp) : AV → Option AV
 | .agg l => match resL H l with | some l => some (.agg l) | none => none
 | x => resC H x
def resT (H : Hp) : List AV → Option (List AV)
 | [] => some []
 | x :: r => match resA H x, resT H r with
  | some a, some l => some (a :: l)
  | _, _ => none
def resV (H : Hp) : AV → Option AV
 | .tuple l => match resT H l with | some l => some (.tuple l) | none => none
 | x => resA H x
def byValue (r : Option (AV × Mem)) (m : Mem) : Option (AV × Mem) :=
 match r with
 | some (y, m') => match resV m'.heap y with
  | some v => some (v, m)
  | none => none
 | none => none
def borrowV (Γ : Env) (n g : Nat) (args : List AV) (m : Mem) : Option (AV × Mem) :=
 if args.all pureA then byValue (evF Γ n (.func g [] []) args ⟨[], []⟩) m else none
def mpVal [Globs] (M : Mp) (n : Nat) (w' : World) (hG : GlobW w') : Mp where
 imm := fun b o => if b < n then M.imm b o else w'.cell? ⟨b, o, none⟩
 loc := M.loc
 lp := M.lp
 glob := fun g l hl i hi => by
  show ∃ v, (if g < n then M.imm g i else w'.cell? ⟨g, i, none⟩) = some v ∧ FlatV (gt l i) v
  split
  ·exact M.glob g l hl i hi
  ·exact hG g l hl i hi
section
variable [Globs] {P : Program} {M M1 : Mp} {H : Hp} {L : List (Option ALoop)} {w' : World} {n : Nat}
theorem resC_rv (h : Holds P M1 H L w') (hn : ∀ (id : Nat) (b : Blk) lc, H[id]? = some (some b) → M1.loc id b.gen = some lc → n ≤ lc.blk) (hm : ∀ b o, b < n → M1.imm b o = M.imm b o) {x y : AV} {v : Value} (hx : RV M1 x v) (hy : resC H x = some y) : RV (mpVal M n w' h.globs) y v := by
 unfold resC at hy
 cases hx with
 | int k n => cases hy; exact .int k n
 | bool b => cases hy; exact .bool b
 | str s => cases hy; exact .str s
 | inil => cases hy
 | ifc t x v h => cases hy
 | snil => cases hy; exact .snil
 | sval full len l b o cap f hc hf hi hr h1 =>
  simp only at hy
  split at hy
  ·rename_i hfl
   cases hy
   rw [List.all_eq_true] at hfl
   refine .sval full len l b o cap f hc hf (fun i hlt => ?_) (fun i hlt => flat_rv (hfl _ (by rw [gt_of_lt hlt]; exact List.getElem_mem hlt)) (hr i hlt)) h1
   show (if b < n then _ else _) = _
   have h0 := hi i hlt
   split
   ·rename_i hb; rw [← hm _ _ hb]; exact h0
   ·exact h.imm _ _ _ h0
  ·cases hy
 | sref id g off sz len cap lc ccap hl hc hr he ho =>
  simp only at hy
  split at hy
  ·rename_i l hk
   split at hy
   ·rename_i c hcut
    split at hy
    ·rename_i hfl
     cases hy
     obtain ⟨lc0, hB⟩ := h.blk id _ (look_eq hk)
     have e0 : lc0 = lc := by have := hB.loc; simp only at this; rw [hl] at this; exact (Option.some.inj this).symm
     subst e0
     have hnew := hn id _ lc0 (look_eq hk) hl
     unfold cut at hcut
     split at hcut
     ·rename_i hle
      cases hcut
      rw [List.all_eq_true] at hfl
      have hlen : ((l.drop off).take (len * sz)).length = len * sz := by simp; omega
      have hg : ∀ i, i < len * sz → gt ((l.drop off).take (len * sz)) i = gt l (off + i) := fun i hi => by
       simp only [gt_eq, List.getD, List.getElem?_take, if_pos hi, List.getElem?_drop]
      have cell : ∀ i, i < len * sz → ∃ u, w'.cell? ⟨lc0.blk, lc0.base + off + i, none⟩ = some u ∧ RV M1 (gt l (off + i)) u ∧ u.oneCell' = true := fun i hi => by
       obtain ⟨u, a1, a2, a3⟩ := hB.rel (off + i) (by simp only; omega)
       exact ⟨u, by rw [Nat.add_assoc]; exact a1, a2, a3⟩
      refine .sval _ len _ lc0.blk (lc0.base + off) ccap (fun i => (w'.cell? ⟨lc0.blk, lc0.base + off + i, none⟩).getD undef) hc (fun e => he _ (by simpa using e)) (fun i hi => ?_) (fun i hi => ?_) (fun i hi => ?_) <;> (
       rw [hlen] at hi
       obtain ⟨u, a1, a2, a3⟩ := cell i hi)
      ·show (if lc0.blk < n then _ else _) = _
       rw [if_neg (by omega), a1]; rfl
      ·simp only [a1, Option.getD_some]
       refine flat_rv (hfl _ ?_) (by rw [hg i hi]; exact a2)
       rw [gt_of_lt (by rw [hlen]; exact hi)]
       exact List.getElem_mem _
      ·simp only [a1, Option.getD_some]
       exact a3
     ·cases hcut
    ·cases hy
   ·cases hy
  ·cases hy
 | _ => simp at hy
theorem resL_rv (h : Holds P M1 H L w') (hn : ∀ (id : Nat) (b : Blk) lc, H[id]? = some (some b) → M1.loc id b.gen = some lc → n ≤ lc.blk) (hm : ∀ b o, b < n → M1.imm b o = M.imm b o) : ∀ {xs ys : List AV}, resL H xs = some ys → xs.length = ys.length ∧ ∀ i v, RV M1 (gt xs i) v → RV (mpVal M n w' h.globs) (gt ys i) v
  | [], ys, hy => by
    cases hy
    refine ⟨rfl, fun i v hv => ?_⟩
    simp only [gt] at hv ⊢
    cases hv with
    | tup0 => exact .tup0
    | tuple l c hl _ => have : c = #[] := by simpa using hl.symm
                        subst this; exact .tup0
  | x :: r, ys, hy => by
    unfold resL at hy
    split at hy
    · rename_i a l ha hl
      cases hy
      obtain ⟨g1, g2⟩ := resL_rv h hn hm hl
      refine ⟨by simp [g1], fun i v hv => ?_⟩
      cases i with
      | zero => exact resC_rv h hn hm hv ha
      | succ i => exact g2 i v hv
    · cases hy
theorem resA_rv (h : Holds P M1 H L w') (hn : ∀ (id : Nat) (b : Blk) lc, H[id]? = some (some b) → M1.loc id b.gen = some lc → n ≤ lc.blk) (hm : ∀ b o, b < n → M1.imm b o = M.imm b o) {x y : AV} {v : Value} (hx : RV M1 x v) (hy : resA H x = some y) : RV (mpVal M n w' h.globs) y v := by
 unfold resA at hy
 split at hy
 ·split at hy
  ·rename_i l l' hl
   cases hy
   cases hx with
   | agg _ c hlc hr h1 =>
    obtain ⟨g1, g2⟩ := resL_rv (M := M) h hn hm hl
    exact .agg _ c (by omega) (fun i => g2 i _ (hr i)) h1
  ·cases hy
 ·exact resC_rv h hn hm hx hy
theorem resT_rv (h : Holds P M1 H L w') (hn : ∀ (id : Nat) (b : Blk) lc, H[id]? = some (some b) → M1.loc id b.gen = some lc → n ≤ lc.blk) (hm : ∀ b o, b < n → M1.imm b o = M.imm b o) : ∀ {xs ys : List AV}, resT H xs = some ys → xs.length = ys.length ∧ ∀ i v, RV M1 (gt xs i) v → RV (mpVal M n w' h.globs) (gt ys i) v
  | [], ys, hy => by
    cases hy
    refine ⟨rfl, fun i v hv => ?_⟩
    simp only [gt] at hv ⊢
    cases hv with
    | tup0 => exact .tup0
    | tuple l c hl _ => have : c = #[] := by simpa using hl.symm
                        subst this; exact .tup0
  | x :: r, ys, hy => by
    unfold resT at hy
    split at hy
    · rename_i a l ha hl
      cases hy
      obtain ⟨g1, g2⟩ := resT_rv h hn hm hl
      refine ⟨by simp [g1], fun i v hv => ?_⟩
      cases i with
      | zero => exact resA_rv h hn hm hv ha
      | succ i => exact g2 i v hv
    · cases hy
theorem resV_rv (h : Holds P M1 H L w') (hn : ∀ (id : Nat) (b : Blk) lc, H[id]? = some (some b) → M1.loc id b.gen = some lc → n ≤ lc.blk) (hm : ∀ b o, b < n → M1.imm b o = M.imm b o) {x y : AV} {v : Value} (hx : RV M1 x v) (hy : resV H x = some y) : RV (mpVal M n w' h.globs) y v := by
 unfold resV at hy
 split at hy
 ·split at hy
  ·rename_i l l' hl
   cases hy
   obtain ⟨g1, g2⟩ := resT_rv (M := M) h hn hm hl
   cases hx with
   | tup0 =>
    have : l' = [] := by simpa using g1.symm
    subst this
    exact .tup0
   | tuple _ c hlc hr => exact .tuple _ c (by omega) (fun i => g2 i _ (hr i))
  ·cases hy
 ·exact resA_rv h hn hm hx hy
end
theorem borrowV_ok [Globs] {P : Program} {Γ : Env} (hΓ : EnvOk P Γ) {n g : Nat} (hg : Callable P g) : SpecOk P g (borrowV Γ n g) := by
 refine ⟨hg, fun args m v mm hS N M w cargs ha h hf => ?_⟩
 unfold borrowV at hS
 split at hS
 ·rename_i hpure
  unfold byValue at hS
  split at hS
  ·rename_i y m' hev
   split at hS
   ·rename_i y' hres
    simp only [Option.some.injEq, Prod.mk.injEq] at hS
    obtain ⟨rfl, rfl⟩ := hS
    have hys' := pures_rv hpure ha
    have ans := sound hΓ n _ _ _ _ _ hev N (mpImm M) w (.func (.func g) #[] #[]) cargs (.func g [] [] #[] #[] rfl rfl (fun i => by simp [gt, ag]; exact .tup0) (fun i => by simp [gt, ag]; exact .tup0)) hys' (holdsImm h) (freshImm M)
    cases ans with
    | func _ _ _ hcl hcall =>
     have earr : (#[] ++ cargs ++ #[] : Array Value) = cargs := by simp
     rw [earr] at hcall
     refine hcall.mono fun e w' he => ?_
     obtain ⟨cv, rfl, M1, g1, g2, g3⟩ := he
     have hkeep : ∀ b, b < w.heap.size → w'.heap[b]? = w.heap[b]? := fun b hb => g3.keep b hb (fun id bl lc h => by simp at h) (fun k r h => by simp at h)
     have hsz := g3.size
     have hn : ∀ (id : Nat) (b : Blk) lc, m'.heap[id]? = some (some b) → M1.loc id b.gen = some lc → w.heap.size ≤ lc.blk := by
      intro id b lc hb hl
      refine Nat.le_of_not_lt fun hlt => ?_
      obtain ⟨_, _, hx, _⟩ := g3.old id b lc hb hl hlt
      simp at hx
     have hle : M.le (mpVal M w.heap.size w' g2.globs) := ⟨fun b o u hu => by
      show (if b < w.heap.size then _ else _) = _
      rw [if_pos (cell_lt (h.imm b o u hu))]; exact hu, fun _ _ _ h => h, fun _ _ h => h⟩
     have oldlt : ∀ (id : Nat) (b : Blk) lc, m.heap[id]? = some (some b) → M.loc id b.gen = some lc → lc.blk < w.heap.size := fun id b lc hb hl => by
      obtain ⟨lc', hB⟩ := h.blk id b hb
      have := hB.loc
      rw [hl] at this
      rw [Option.some.inj this]
      exact hB.lt
     refine ⟨cv, rfl, mpVal M w.heap.size w' g2.globs, resV_rv (M := M) g2 hn (fun b o hb => g3.imm b o hb) g1 hres, ⟨?_, ?_, ?_, ?_, ?_, ?_, ?_⟩, ?_⟩
     ·intro b o u hu
      simp only [mpVal] at hu
      split at hu
      ·rename_i hlt
       rw [World.cell?_of_block (w := w) (hkeep b hlt)]
       exact h.imm b o u hu
      ·exact hu
     ·intro id b hb
      obtain ⟨lc, hB⟩ := h.blk id b hb
      exact ⟨lc, hB.kept hle (hkeep _ hB.lt) hsz⟩
     ·intro id b lc hb hl o
      show (if lc.blk < w.heap.size then _ else _) = _
      rw [if_pos (oldlt id b lc hb hl)]
      exact h.sep id b lc hb hl o
     ·exact h.inj
     ·exact h.gen
     ·intro k q hq
      obtain ⟨l, h1, h2⟩ := h.lp k q hq
      exact ⟨l, h1, h2.kept hle (hkeep l h2.lt)⟩
     ·exact h.lpi
     ·exact ⟨g3.os, g3.output, hsz, g3.froz, fun b hb _ _ => hkeep b hb, fun id bl lc h1 h2 _ => ⟨bl, lc, h1, h2, rfl⟩, fun k r l h1 h2 _ => ⟨r, h1, h2⟩, Nat.le_refl _, Nat.le_refl _, hle,
       (fun id gg lc h1 h0 => by rw [show (mpVal M w.heap.size w' g2.globs).loc id gg = M.loc id gg from rfl, h0] at h1; cases h1), fun id b hb => ⟨b, hb⟩, (fun b o hb => if_pos hb),
       (fun k l h1 h0 => by rw [show (mpVal M w.heap.size w' g2.globs).lp k = M.lp k from rfl, h0] at h1; cases h1), fun l q hq => ⟨q, (hkeep l (Array.getElem?_eq_some_iff.1 hq).1).trans hq⟩⟩
   ·cases hS
  ·cases hS
 ·cases hS
end Go.Zz


namespace Go.Zz
def CallLe (c c' : AV → List AV → Mem → Option (AV × Mem)) : Prop := ∀ f a m r, c f a m = some r → c' f a m = some r
theorem evOp_mono {c c' : AV → List AV → Mem → Option (AV × Mem)} (h : CallLe c c') {T : List AV} {m : Mem} {op : IOp} {r : AV × Mem} (he : evOp c T m op = some r) : evOp c' T m op = some r := by
 cases hc : isCall op with
 | true =>
  cases op <;> simp [isCall] at hc
  case call => exact h _ _ _ _ he
  all_goals exact he
 | false =>
  obtain ⟨v, m'⟩ := r
  obtain ⟨h1, h2⟩ := evOp_loops hc he
  have := h2 c' m.loops
  obtain ⟨H, L⟩ := m
  obtain ⟨H', L'⟩ := m'
  simp only at h1 this
  subst h1
  exact this
theorem evOps_mono {c c' : AV → List AV → Mem → Option (AV × Mem)} (h : CallLe c c') : ∀ {ops : List IOper} {s s' : St}, evOps c ops s = some s' → evOps c' ops s = some s'
 | [], s, s', he => he
 | o :: r, s, s', he => by
  simp only [evOps] at he ⊢
  split
  ·rename_i hw
   rw [if_pos hw] at he
   split at he
   ·rename_i v m hv
    rw [evOp_mono h hv]
    exact evOps_mono h he
   ·cases he
  ·rename_i hw
   rw [if_neg hw] at he
   exact evOps_mono h he
theorem evDraw_mono {c c' : AV → List AV → Mem → Option (AV × Mem)} (h : CallLe c c') : ∀ {ops : List DOper} {s s' : St} {seen : List (Hp × Nat × Nat)}, evDraw c ops s seen = some s' → evDraw c' ops s seen = some s'
 | [], s, s', seen, he => he
 | d :: r, s, s', seen, he => by
  simp only [evDraw] at he ⊢
  split
  ·rename_i hw
   rw [if_pos hw] at he
   split
   ·rename_i hf
    rw [if_pos hf] at he
    split at he
    ·rename_i v m hv
     rw [evOp_mono h hv]
     exact evDraw_mono h he
    ·cases he
   ·rename_i hf
    rw [if_neg hf] at he
    split at he
    ·rename_i v m hv
     rw [evOp_mono h hv]
     simp only
     split at he
     ·rename_i hd
      rw [if_pos hd]
      exact evDraw_mono h he
     ·cases he
    ·cases he
  ·rename_i hw
   rw [if_neg hw] at he
   exact evDraw_mono h he
theorem mono (Γ : Env) : ∀ n, (∀ c s r, evC Γ n c s = some r → evC Γ (n + 1) c s = some r) ∧ CallLe (fun f a m => evF Γ n f a m) (fun f a m => evF Γ (n + 1) f a m)
 | 0 => ⟨fun c s r h => by simp [evC] at h, fun f a m r h => by simp [evF] at h⟩
 | n + 1 => by
  obtain ⟨ihC, ihF⟩ := mono Γ n
  constructor
  ·intro c s r h
   cases c with
   | skip => exact h
   | region ops =>
    simp only [evC, Option.map_eq_some_iff] at h ⊢
    obtain ⟨s', h1, h2⟩ := h
    exact ⟨s', evOps_mono ihF h1, h2⟩
   | draw ops =>
    simp only [evC, Option.map_eq_some_iff] at h ⊢
    obtain ⟨s', h1, h2⟩ := h
    exact ⟨s', evDraw_mono ihF h1, h2⟩
   | seq a b =>
    rw [evC] at h ⊢
    cases ha : evC Γ n a s with
    | none => rw [ha] at h; simp at h
    | some q =>
     rw [ha] at h
     rw [ihC _ _ _ ha]
     obtain ⟨e, s'⟩ := q
     cases e with
     | normal => exact ihC _ _ _ h
     | exit id => exact h
     | ret => exact h
   | cond c a b =>
    rw [evC] at h ⊢
    split at h
    ·rename_i t ht
     split at h
     ·rename_i h1; rw [if_pos h1]; exact ihC _ _ _ h
     ·rename_i h1; rw [if_neg h1]; exact ihC _ _ _ h
    ·cases h
   | block id b =>
    rw [evC] at h ⊢
    cases ha : evC Γ n b s with
    | none => rw [ha] at h; simp at h
    | some q =>
     rw [ha] at h
     rw [ihC _ _ _ ha]
     exact h
   | loop b =>
    rw [evC] at h ⊢
    cases ha : evC Γ n b s with
    | none => rw [ha] at h; simp at h
    | some q =>
     rw [ha] at h
     rw [ihC _ _ _ ha]
     obtain ⟨e, s'⟩ := q
     cases e with
     | normal => exact ihC _ _ _ h
     | exit id => exact h
     | ret => exact h
   | rangeFunc f ps assign body =>
    rw [evC] at h ⊢
    generalize hx : f.ev s.T = x at h ⊢
    cases x with
    | func g a c =>
     simp only at h ⊢
     cases hc : evF Γ n (.func g a c) [.yield s.loops.length] ⟨s.heap, s.loops ++ [some ⟨true, none, s.T, ps, assign, body⟩]⟩ with
     | none => rw [hc] at h; simp at h
     | some q =>
      rw [hc] at h
      have h2 := ihF _ _ _ _ hc
      simp only at h2
      rw [h2]
      exact h
    | _ => simp at h
   | exit id => exact h
   | ret => exact h
  ·intro f args m r h
   simp only at h ⊢
   cases f with
   | func g a c =>
    rw [evF] at h ⊢
    split at h
    ·exact h
    ·split at h
     ·rename_i fn hfn
      split at h
      ·rename_i hle
       simp only [hfn, if_pos hle]
       split at h
       ·rename_i s' hev
        rw [ihC _ _ _ hev]
        exact h
       ·rename_i s' hev
        rw [ihC _ _ _ hev]
        exact h
       ·cases h
      ·cases h
     ·cases h
   | yield k =>
    rw [evF] at h ⊢
    cases hk : m.loops[k]? with
    | none => rw [hk] at h; simp at h
    | some q0 =>
     cases q0 with
     | none => rw [hk] at h; simp at h
     | some r0 =>
      rw [hk] at h
      simp only at h ⊢
      split at h
      ·rename_i hr
       rw [if_pos hr]
       cases h1 : evC Γ n r0.assign ⟨setAll r0.tmps r0.params args, m.heap, m.loops⟩ with
       | none => rw [h1] at h; simp at h
       | some q1 =>
        rw [h1] at h
        rw [ihC _ _ _ h1]
        obtain ⟨e1, s1⟩ := q1
        cases e1 with
        | normal =>
         simp only at h ⊢
         cases h2 : s1.loops[k]? with
         | none => rw [h2] at h; simp at h
         | some q2 =>
          cases q2 with
          | none => rw [h2] at h; simp at h
          | some r1 =>
           rw [h2] at h
           simp only at h ⊢
           split at h
           ·rename_i h3
            rw [if_pos h3]
            cases h4 : evC Γ n r0.body ⟨s1.T, s1.heap, setLoop s1.loops k (some { r1 with ready := false })⟩ with
            | none => rw [h4] at h; simp at h
            | some q4 =>
             rw [h4] at h
             rw [ihC _ _ _ h4]
             exact h
           ·cases h
        | exit id => simp at h
        | ret => simp at h
      ·cases h
   | _ => simp [evF] at h
end Go.Zz

