import Derived.Test.YtgchabldcnmccacGreatDoorHA
import Derived.Test.YtgchabldcnmccacGreatDoorHD

set_option linter.unusedSimpArgs false
set_option linter.unusedVariables false

namespace Go.Proofs.YtgchabldcnmccacGreatDoor
open Go.Zz
theorem countP_or {α : Type} {P Q : α → Bool} (l : List α) (h : ∀ x ∈ l, ¬ (P x = true ∧ Q x = true)) : l.countP (fun x => P x || Q x) = l.countP P + l.countP Q := by
 induction l with
 | nil => rfl
 | cons x r ih =>
  have h1 := h x (by simp)
  have h2 := ih fun y hy => h y (by simp [hy])
  simp only [List.countP_cons, h2]
  cases hp : P x <;> cases hq : Q x <;> simp [hp, hq] at h1 ⊢ <;> omega
theorem countP_both {α : Type} {P Q : α → Bool} (l : List α) (h : l.length < l.countP P + l.countP Q) : ∃ x ∈ l, P x = true ∧ Q x = true := by
 apply Classical.byContradiction
 intro hn
 have := countP_or (P := P) (Q := Q) l fun x hx hb => hn ⟨x, hx, hb⟩
 have := List.countP_le_length (p := fun x => P x || Q x) (l := l)
 omega
def dn (n : Int) (ds : List Int) : Nat := (List.range n.toNat).countP fun i : Nat => decide ((i : Int) ∈ ds)
theorem dn_mono {n : Int} {a b : List Int} (h : ∀ x ∈ a, x ∈ b) : dn n a ≤ dn n b := by
 unfold dn
 apply List.countP_mono_left
 intro x _ hx
 simp only [decide_eq_true_eq] at hx ⊢
 exact h _ hx
theorem dn_both {n : Int} {a b : List Int} (h : n.toNat < dn n a + dn n b) : ∃ x, x ∈ a ∧ x ∈ b := by
 obtain ⟨i, _, h1, h2⟩ := countP_both (List.range n.toNat) (by rw [List.length_range]; exact h)
 exact ⟨i, by simpa using h1, by simpa using h2⟩
theorem dn_pos {n : Int} {a : List Int} (h : 0 < dn n a) : ∃ x, x ∈ a := by
 obtain ⟨i, _, h1⟩ := List.countP_pos_iff.1 h
 exact ⟨i, by simpa using h1⟩
theorem dn_nil {n : Int} : dn n [] = 0 := by
 unfold dn
 rw [List.countP_eq_zero]
 intro a _
 simp
theorem dn_one {n x : Int} (h : DkOk x n) : dn n [x] = 1 := by
 obtain ⟨h1, h2⟩ := h
 obtain ⟨k, rfl⟩ := Int.eq_ofNat_of_zero_le h1
 have hk : k < n.toNat := by omega
 have e : ∀ m, (List.range m).countP (fun i : Nat => decide ((i : Int) ∈ [(k : Int)])) = if k < m then 1 else 0 := by
  intro m
  induction m with
  | zero => rfl
  | succ j ih =>
   rw [List.range_succ, List.countP_append, ih]
   simp only [List.countP_cons, List.countP_nil, List.mem_singleton, Int.natCast_inj, decide_eq_true_eq]
   by_cases h1 : k < j
   ·rw [if_pos h1, if_neg (by omega), if_pos (by omega)]
   ·by_cases h2 : j = k
    ·rw [if_neg h1, if_pos h2, if_pos (by omega)]
    ·rw [if_neg h1, if_neg h2, if_neg (by omega)]
 unfold dn
 rw [e, if_pos hk]
theorem dn_cons {n x : Int} {a : List Int} (h : DkOk x n) (hx : x ∉ a) : dn n (x :: a) = 1 + dn n a := by
 rw [← dn_one h]
 unfold dn
 rw [← countP_or]
 ·congr 1
  funext i
  simp [List.mem_cons]
 ·intro i _ hb
  simp only [decide_eq_true_eq, List.mem_singleton] at hb
  exact hx (hb.1 ▸ hb.2)
theorem dn_congr {n : Int} {a b : List Int} (h : ∀ x, x ∈ a ↔ x ∈ b) : dn n a = dn n b := by
 unfold dn
 congr 1
 funext i
 simp [h]
theorem dn_nodup {n : Int} : ∀ {a : List Int}, a.Nodup → (∀ x ∈ a, DkOk x n) → dn n a = a.length
 | [], _, _ => dn_nil
 | x :: r, h, ho => by
  rw [List.nodup_cons] at h
  rw [dn_cons (ho x (by simp)) h.1, dn_nodup h.2 fun y hy => ho y (by simp [hy]), List.length_cons]
  omega
def kput (k : Int) (ks : List Int) : List Int := if k ∈ ks then ks else ks ++ [k]
theorem kput_mem {k x : Int} {ks : List Int} : x ∈ kput k ks ↔ x = k ∨ x ∈ ks := by
 unfold kput
 split
 ·constructor
  ·exact .inr
  ·rintro (rfl | h) <;> assumption
 ·simp [or_comm]
theorem kput_nodup {k : Int} {ks : List Int} (h : ks.Nodup) : (kput k ks).Nodup := by
 unfold kput
 split
 ·exact h
 ·rename_i hn
  rw [List.nodup_append]
  refine ⟨h, by simp, ?_⟩
  intro a ha b hb
  obtain rfl := List.mem_singleton.1 hb
  rintro rfl
  exact hn ha
def kF (ks : List Int) : List AV := ks.flatMap fun k => [.int .i64 k, .bool true]
theorem kF_len (ks : List Int) : (kF ks).length = 2 * ks.length := by
 induction ks with
 | nil => rfl
 | cons k r ih =>
  have : kF (k :: r) = .int .i64 k :: .bool true :: kF r := rfl
  rw [this, List.length_cons, List.length_cons, ih, List.length_cons]
  omega
theorem kF_put (k : Int) : ∀ ks : List Int, mput (.int .i64 k) (.bool true) (kF ks) = kF (kput k ks)
 | [] => by simp [kF, kput, mput]
 | x :: r => by
  have e : kF (x :: r) = .int .i64 x :: .bool true :: kF r := rfl
  rw [e]
  simp only [mput, keyEq, decide_eq_true_eq]
  by_cases h : k = x
  ·subst h
   rw [if_pos rfl]
   simp [kput, kF]
  ·rw [if_neg h, kF_put k r]
   unfold kput
   by_cases h2 : k ∈ r
   ·simp [h2, h, kF]
   ·simp [h2, h, kF]
theorem kF_keys : ∀ ks : List Int, mkeys (.int .i64) (kF ks) = true
 | [] => rfl
 | x :: r => by
  have e : kF (x :: r) = .int .i64 x :: .bool true :: kF r := rfl
  rw [e]
  simp [mkeys, KK.of, kF_keys r]
def pks (b : Int) : List Pm → List Int → List Int
 | [], ks => ks
 | p :: r, ks => pks b r (if p.b = b then kput p.d ks else ks)
theorem dks_kF {b : Int} : ∀ (ps : List Pm) (ks : List Int), dks b ps (kF ks) = kF (pks b ps ks)
 | [], _ => rfl
 | p :: r, ks => by
  unfold dks pks
  split
  ·rw [kF_put, dks_kF r]
  ·exact dks_kF r ks
theorem pks_mem {b x : Int} : ∀ (ps : List Pm) (ks : List Int), x ∈ pks b ps ks ↔ x ∈ ks ∨ ∃ p ∈ ps, p.b = b ∧ p.d = x
 | [], ks => by simp [pks]
 | p :: r, ks => by
  unfold pks
  rw [pks_mem r]
  split
  ·rename_i h
   rw [kput_mem]
   simp only [List.mem_cons, exists_eq_or_imp, h, true_and]
   constructor
   ·rintro ((rfl | h1) | h1)
    ·exact .inr (.inl rfl)
    ·exact .inl h1
    ·exact .inr (.inr h1)
   ·rintro (h1 | rfl | h1)
    ·exact .inl (.inr h1)
    ·exact .inl (.inl rfl)
    ·exact .inr h1
  ·rename_i h
   simp [h]
theorem pks_nodup {b : Int} : ∀ (ps : List Pm) {ks : List Int}, ks.Nodup → (pks b ps ks).Nodup
 | [], _, h => h
 | p :: r, ks, h => by
  unfold pks
  split
  ·exact pks_nodup r (kput_nodup h)
  ·exact pks_nodup r h
theorem dcnt_eq {n b : Int} {ps : List Pm} (h : ∀ p ∈ ps, p.b = b → DkOk p.d n) : dcnt b ps = (dn n ((ps.filter fun p => decide (p.b = b)).map (·.d)) : Nat) := by
 have e : dks b ps [] = kF (pks b ps []) := dks_kF ps []
 unfold dcnt
 rw [e, kF_len, Nat.mul_div_cancel_left _ (by decide)]
 rw [← dn_nodup (n := n) (pks_nodup ps List.nodup_nil)]
 ·congr 1
  apply dn_congr
  intro x
  rw [pks_mem]
  simp only [List.not_mem_nil, false_or, List.mem_map, List.mem_filter, decide_eq_true_eq]
  constructor
  ·rintro ⟨p, h1, h2, h3⟩
   exact ⟨p, ⟨h1, h2⟩, h3⟩
  ·rintro ⟨p, ⟨h1, h2⟩, h3⟩
   exact ⟨p, h1, h2, h3⟩
 ·intro x hx
  rw [pks_mem] at hx
  rcases hx with hx | ⟨p, h1, h2, rfl⟩
  ·cases hx
  ·exact h p h1 h2
theorem nodup_sub {α : Type} [DecidableEq α] : ∀ {a b : List α}, a.Nodup → (∀ x ∈ a, x ∈ b) → a.length ≤ b.length
 | [], b, _, _ => Nat.zero_le _
 | x :: r, b, h, hs => by
  rw [List.nodup_cons] at h
  have hx : x ∈ b := hs x (by simp)
  have h1 := nodup_sub (b := b.erase x) h.2 fun y hy => by
   rw [List.mem_erase_of_ne]
   ·exact hs y (by simp [hy])
   ·rintro rfl
    exact h.1 hy
  rw [List.length_erase_of_mem hx] at h1
  have : 0 < b.length := List.length_pos_of_mem hx
  rw [List.length_cons]
  omega
theorem vget_app {b : Int} {l r : List (Int × Tk)} {t : Tk} (h : vget b l = some t) : vget b (l ++ r) = some t := by
 induction l with
 | nil => cases h
 | cons x l ih =>
  simp only [List.cons_append, vget] at h ⊢
  split
  ·rename_i e
   rw [if_pos e] at h
   exact h
  ·rename_i e
   rw [if_neg e] at h
   exact ih h
theorem vget_new {b : Int} {l : List (Int × Tk)} {t : Tk} (h : vget b l = none) : vget b (l ++ [(b, t)]) = some t := by
 induction l with
 | nil => simp [vget]
 | cons x l ih =>
  simp only [List.cons_append, vget] at h ⊢
  split
  ·rename_i e
   rw [if_pos e] at h
   cases h
  ·rename_i e
   rw [if_neg e] at h
   exact ih h
theorem vget_memY {b : Int} {l : List (Int × Tk)} {t : Tk} (h : vget b l = some t) : (b, t) ∈ l := by
 induction l with
 | nil => cases h
 | cons x l ih =>
  simp only [vget] at h
  split at h
  ·rename_i e
   cases h
   obtain ⟨x1, x2⟩ := x
   cases e
   simp
  ·exact List.mem_cons_of_mem _ (ih h)
theorem scan_some {n b : Int} {v : Tk} : ∀ {ps : List Pm} {last : Int} {own : Tk}, scan n b ps last own = some v → (∀ p ∈ ps, PmOk n b p) ∧ ((v = own ∧ ∀ p ∈ ps, p.b = b → p.w ≤ last) ∨ ∃ p ∈ ps, p.b = b ∧ last < p.w ∧ v = p.v ∧ ∀ q ∈ ps, q.b = b → q.w ≤ p.w)
 | [], last, own, h => by
  simp only [scan, Option.some.injEq] at h
  exact ⟨by simp, .inl ⟨h.symm, by simp⟩⟩
 | p :: r, last, own, h => by
  unfold scan at h
  split at h
  ·rename_i hp
   split at h
   ·rename_i hc
    obtain ⟨h1, h2⟩ := scan_some h
    refine ⟨fun q hq => ?_, .inr ?_⟩
    ·rcases List.mem_cons.1 hq with rfl | hq
     ·exact hp
     ·exact h1 q hq
    ·rcases h2 with ⟨h2, h3⟩ | ⟨q, h2, h3, h4, h5, h6⟩
     ·refine ⟨p, by simp, hc.1, hc.2, h2, fun q hq he => ?_⟩
      rcases List.mem_cons.1 hq with rfl | hq
      ·exact Int.le_refl _
      ·exact h3 q hq he
     ·refine ⟨q, by simp [h2], h3, by omega, h5, fun q' hq he => ?_⟩
      rcases List.mem_cons.1 hq with rfl | hq
      ·omega
      ·exact h6 q' hq he
   ·rename_i hc
    obtain ⟨h1, h2⟩ := scan_some h
    refine ⟨fun q hq => ?_, ?_⟩
    ·rcases List.mem_cons.1 hq with rfl | hq
     ·exact hp
     ·exact h1 q hq
    ·rcases h2 with ⟨h2, h3⟩ | ⟨q, h2, h3, h4, h5, h6⟩
     ·refine .inl ⟨h2, fun q hq he => ?_⟩
      rcases List.mem_cons.1 hq with rfl | hq
      ·apply Int.not_lt.1
       exact fun hl => hc ⟨he, hl⟩
      ·exact h3 q hq he
     ·refine .inr ⟨q, by simp [h2], h3, h4, h5, fun q' hq he => ?_⟩
      rcases List.mem_cons.1 hq with rfl | hq
      ·have : ¬ last < q'.w := fun hl => hc ⟨he, hl⟩
       omega
      ·exact h6 q' hq he
  ·cases h
structure PInv (n : Int) (s : RS) : Prop where
 len : s.acs.length = n.toNat
 uniq : ∀ x ∈ s.sts, vget x.1 s.sts = some x.2
 nodup : (s.sts.map (·.1)).Nodup
 vo : ∀ v ∈ s.vos, DkOk v.d n ∧ BlOk v.b ∧ TkOk v.v ∧ vget v.b s.sts = some v.v ∧ v.b ≤ (acAt s v.d).w
 aw : ∀ d, DkOk d n → 0 ≤ (acAt s d).w ∧ (acAt s d).w ≤ (acAt s d).p ∧ (0 < (acAt s d).w → vget (acAt s d).w s.sts = some (acAt s d).v)
 pm : ∀ p ∈ s.pms, DkOk p.d n ∧ p.b ≤ (acAt s p.d).p ∧ 0 ≤ p.w ∧ p.w < p.b ∧ (0 < p.w → vget p.w s.sts = some p.v) ∧ ∀ v ∈ s.vos, v.d = p.d → v.b < p.b → v.b ≤ p.w
 st : ∀ x ∈ s.sts, ∃ Q : List Pm, (∀ p ∈ Q, p ∈ s.pms ∧ p.b = x.1) ∧ n.toNat < 2 * dn n (Q.map (·.d)) ∧ ((∀ p ∈ Q, p.w = 0) ∨ ∃ p ∈ Q, 0 < p.w ∧ p.v = x.2 ∧ ∀ q ∈ Q, q.w ≤ p.w)
theorem getD_rep {k : Nat} {a : Ac} (i : Nat) : (List.replicate k a).getD i a = a := by
 rw [List.getD_eq_getElem?_getD, List.getElem?_replicate]
 split <;> rfl
theorem PInv.init (n : Int) : PInv n (rs0 n) := by
 have hac : ∀ d, acAt (rs0 n) d = ac0 := fun d => getD_rep _
 refine ⟨by simp [rs0], by simp [rs0], by simp [rs0], by simp [rs0], fun d _ => ?_, by simp [rs0], by simp [rs0]⟩
 rw [hac]
 exact ⟨by decide, by decide, fun h => absurd h (by decide)⟩
theorem acAt_set {n : Int} {s : RS} {t d : Int} {a : Ac} {pms sts vos} (hl : s.acs.length = n.toNat) (ht : DkOk t n) (hd : DkOk d n) : acAt ⟨s.acs.set t.toNat a, pms, sts, vos⟩ d = if d = t then a else acAt s d := by
 obtain ⟨t1, t2⟩ := ht
 obtain ⟨d1, d2⟩ := hd
 unfold acAt
 simp only [List.getD_eq_getElem?_getD, List.getElem?_set]
 by_cases e : d = t
 ·subst e
  rw [if_pos rfl, if_pos rfl, if_pos (by omega)]
  rfl
 ·rw [if_neg (by omega), if_neg e]
theorem PInv.step {n : Int} {s : RS} {m : Mv} (h : PInv n s) (hm : MvOk n m) : PInv n (stepM n s m) := by
 obtain ⟨hb, hk⟩ := hm
 unfold stepM
 dsimp only
 split
 ·-- prepare
  rename_i hk1
  have ht : DkOk m.t n := by
   rcases hk with ⟨_, h⟩ | ⟨h, _⟩ | ⟨h, _⟩
   ·exact h
   ·omega
   ·omega
  split
  ·rename_i he
   unfold prep at he ⊢
   split at he
   ·rename_i hg
    rw [if_pos hg]
    split at he
    ·cases he
    ·rename_i hlt
     rw [if_neg hlt]
     dsimp only
     have hA := fun d (hd : DkOk d n) => acAt_set (pms := s.pms ++ [⟨m.t, m.b, (acAt s m.t).w, (acAt s m.t).v⟩]) (sts := s.sts) (vos := s.vos) (a := ⟨m.b, (acAt s m.t).w, (acAt s m.t).v⟩) h.len ht hd
     refine ⟨by simp [h.len], h.uniq, h.nodup, fun v hv => ?_, fun d hd => ?_, fun p hp => ?_, fun x hx => ?_⟩
     ·obtain ⟨h1, h2, h3, h4, h5⟩ := h.vo v hv
      refine ⟨h1, h2, h3, h4, ?_⟩
      rw [hA _ h1]
      split
      ·rename_i e
       rw [e] at h5
       exact h5
      ·exact h5
     ·rw [hA _ hd]
      obtain ⟨h1, h2, h3⟩ := h.aw d hd
      split
      ·rename_i e
       subst e
       exact ⟨h1, by dsimp only; omega, h3⟩
      ·exact ⟨h1, h2, h3⟩
     ·rcases List.mem_append.1 hp with hp | hp
      ·obtain ⟨h1, h2, h3, h4, h5, h6⟩ := h.pm p hp
       refine ⟨h1, ?_, h3, h4, h5, h6⟩
       rw [hA _ h1]
       split
       ·rename_i e
        rw [e] at h2
        dsimp only
        omega
       ·exact h2
      ·obtain rfl := List.mem_singleton.1 hp
       obtain ⟨h1, h2, h3⟩ := h.aw m.t ht
       refine ⟨ht, ?_, h1, by dsimp only; omega, h3, fun v hv he hlt => ?_⟩
       ·rw [hA _ ht, if_pos rfl]
        exact Int.le_refl _
       ·have := (h.vo v hv).2.2.2.2
        dsimp only at he ⊢
        rw [he] at this
        exact this
     ·obtain ⟨Q, h1, h2, h3⟩ := h.st x hx
      exact ⟨Q, fun p hp => ⟨List.mem_append_left _ (h1 p hp).1, (h1 p hp).2⟩, h2, h3⟩
   ·cases he
  ·exact h
 ·split
  ·-- start
   split
   ·exact h
   ·rename_i hv
    split
    ·rename_i he
     unfold chs at he ⊢
     split at he
     ·rename_i hg
      rw [if_pos hg]
      split at he
      ·cases he
      ·rename_i v hsc
       try rw [hsc]
       split at he
       ·rename_i hd
        rw [if_pos hd]
        dsimp only
        have hmono : ∀ {c t}, vget c s.sts = some t → vget c (s.sts ++ [(m.b, v)]) = some t := fun h => vget_app h
        have hnotin : m.b ∉ s.sts.map (·.1) := by
         intro hin
         obtain ⟨x, hx, e⟩ := List.mem_map.1 hin
         have := h.uniq x hx
         rw [e, hv] at this
         cases this
        refine ⟨h.len, fun x hx => ?_, ?_, fun w hw => ?_, fun d hd => ?_, fun p hp => ?_, fun x hx => ?_⟩
        ·rcases List.mem_append.1 hx with hx | hx
         ·exact hmono (h.uniq x hx)
         ·obtain rfl := List.mem_singleton.1 hx
          exact vget_new hv
        ·rw [List.map_append, List.nodup_append]
         refine ⟨h.nodup, by simp, fun a ha b hb' => ?_⟩
         simp only [List.map_cons, List.map_nil, List.mem_singleton] at hb'
         rintro rfl
         subst hb'
         exact hnotin ha
        ·obtain ⟨h1, h2, h3, h4, h5⟩ := h.vo w hw
         exact ⟨h1, h2, h3, hmono h4, h5⟩
        ·obtain ⟨h1, h2, h3⟩ := h.aw d hd
         exact ⟨h1, h2, fun h0 => hmono (h3 h0)⟩
        ·obtain ⟨h1, h2, h3, h4, h5, h6⟩ := h.pm p hp
         exact ⟨h1, h2, h3, h4, fun h0 => hmono (h5 h0), h6⟩
        ·rcases List.mem_append.1 hx with hx | hx
         ·exact h.st x hx
         ·obtain rfl := List.mem_singleton.1 hx
          obtain ⟨hok, hcase⟩ := scan_some hsc
          refine ⟨s.pms.filter fun p => decide (p.b = m.b), fun p hp => ?_, ?_, ?_⟩
          ·obtain ⟨h1, h2⟩ := List.mem_filter.1 hp
           exact ⟨h1, of_decide_eq_true h2⟩
          ·rw [dcnt_eq (n := n) fun p hp _ => (h.pm p hp).1] at hd
           omega
          ·rcases hcase with ⟨_, h2⟩ | ⟨p, h1, h2, h3, h4, h5⟩
           ·refine .inl fun p hp => ?_
            obtain ⟨h1, h3⟩ := List.mem_filter.1 hp
            have := h2 p h1 (of_decide_eq_true h3)
            have := (h.pm p h1).2.2.1
            omega
           ·refine .inr ⟨p, List.mem_filter.2 ⟨h1, decide_eq_true h2⟩, h3, h4.symm, fun q hq => ?_⟩
            obtain ⟨h6, h7⟩ := List.mem_filter.1 hq
            exact h5 q h6 (of_decide_eq_true h7)
       ·cases he
     ·cases he
    ·exact h
  ·-- accept
   rename_i hk1 hk2
   have ht : DkOk m.t n := by
    rcases hk with ⟨h, _⟩ | ⟨h, _⟩ | ⟨_, h⟩
    ·exact absurd h hk1
    ·exact absurd h hk2
    ·exact h
   split
   ·exact h
   ·rename_i v hv
    split
    ·rename_i he
     unfold acc at he ⊢
     split at he
     ·rename_i hg
      rw [if_pos hg]
      split at he
      ·cases he
      ·rename_i hlt
       rw [if_neg hlt]
       dsimp only
       have hA := fun d (hd : DkOk d n) => acAt_set (pms := s.pms) (sts := s.sts) (vos := s.vos ++ [⟨m.t, m.b, v⟩]) (a := ⟨m.b, m.b, v⟩) h.len ht hd
       have hb1 : 1 ≤ m.b := hb.1
       refine ⟨by simp [h.len], h.uniq, h.nodup, fun w hw => ?_, fun d hd => ?_, fun p hp => ?_, h.st⟩
       ·rcases List.mem_append.1 hw with hw | hw
        ·obtain ⟨h1, h2, h3, h4, h5⟩ := h.vo w hw
         refine ⟨h1, h2, h3, h4, ?_⟩
         rw [hA _ h1]
         split
         ·rename_i e
          rw [e] at h5
          have := (h.aw m.t ht).2.1
          dsimp only
          omega
         ·exact h5
        ·obtain rfl := List.mem_singleton.1 hw
         refine ⟨ht, hb, hg.2.2.2, hv, ?_⟩
         rw [hA _ ht, if_pos rfl]
         exact Int.le_refl _
       ·rw [hA _ hd]
        split
        ·exact ⟨by dsimp only; omega, Int.le_refl _, fun _ => hv⟩
        ·exact h.aw d hd
       ·obtain ⟨h1, h2, h3, h4, h5, h6⟩ := h.pm p hp
        refine ⟨h1, ?_, h3, h4, h5, fun w hw hwd hlt2 => ?_⟩
        ·rw [hA _ h1]
         split
         ·rename_i e
          rw [e] at h2
          dsimp only
          omega
         ·exact h2
        ·rcases List.mem_append.1 hw with hw | hw
         ·exact h6 w hw hwd hlt2
         ·obtain rfl := List.mem_singleton.1 hw
          dsimp only at hwd hlt2 ⊢
          rw [← hwd] at h2
          omega
     ·cases he
    ·exact h
theorem PInv.run {n : Int} {ms : List Mv} (h : ∀ m ∈ ms, MvOk n m) : PInv n (runM n ms) := by
 have key : ∀ (ms : List Mv) (s : RS), (∀ m ∈ ms, MvOk n m) → PInv n s → PInv n (ms.foldl (stepM n) s) := by
  intro ms
  induction ms with
  | nil => intro s _ hs; exact hs
  | cons m r ih => intro s hm hs; exact ih _ (fun x hx => hm x (by simp [hx])) (hs.step (hm m (by simp)))
 exact key ms _ h (PInv.init n)
theorem run_cost {n : Int} {ms : List Mv} : (runM n ms).pms.length + (runM n ms).sts.length + (runM n ms).vos.length ≤ ms.length := by
 have key : ∀ (ms : List Mv) (s : RS), (ms.foldl (stepM n) s).pms.length + (ms.foldl (stepM n) s).sts.length + (ms.foldl (stepM n) s).vos.length ≤ s.pms.length + s.sts.length + s.vos.length + ms.length := by
  intro ms
  induction ms with
  | nil => intro s; exact Nat.le_refl _
  | cons m r ih =>
   intro s
   have h1 := ih (stepM n s m)
   have h2 : (stepM n s m).pms.length + (stepM n s m).sts.length + (stepM n s m).vos.length ≤ s.pms.length + s.sts.length + s.vos.length + 1 := by
    unfold stepM
    dsimp only
    repeat' split
    all_goals (try simp only [List.length_append, List.length_singleton]) <;> omega
   rw [List.foldl_cons, List.length_cons]
   omega
 simpa [runM, rs0] using key ms (rs0 n)
def vds (vs : List Vo) (x : Int × Tk) : List Int := (vs.filter fun v => decide (v.b = x.1 ∧ v.v = x.2)).map (·.d)
def Chn (n : Int) (vs : List Vo) (x : Int × Tk) : Prop := n < 2 * (dn n (vds vs x) : Nat)
instance {n vs x} : Decidable (Chn n vs x) := inferInstanceAs (Decidable (_ < _))
theorem vds_mem {vs : List Vo} {x : Int × Tk} {d : Int} : d ∈ vds vs x ↔ ∃ v ∈ vs, v.b = x.1 ∧ v.v = x.2 ∧ v.d = d := by
 simp only [vds, List.mem_map, List.mem_filter, decide_eq_true_eq]
 constructor
 ·rintro ⟨v, ⟨h1, h2, h3⟩, h4⟩
  exact ⟨v, h1, h2, h3, h4⟩
 ·rintro ⟨v, h1, h2, h3, h4⟩
  exact ⟨v, ⟨h1, h2, h3⟩, h4⟩
theorem Chn.mono {n : Int} {vs ws : List Vo} {x : Int × Tk} (h : Chn n vs x) (hs : ∀ v ∈ vs, v ∈ ws) : Chn n ws x := by
 have := dn_mono (n := n) (a := vds vs x) (b := vds ws x) fun d hd => by
  rw [vds_mem] at hd ⊢
  obtain ⟨v, h1, h2⟩ := hd
  exact ⟨v, hs v h1, h2⟩
 unfold Chn at h ⊢
 omega
theorem Chn.mem {n : Int} {vs : List Vo} {x : Int × Tk} (hn : 1 ≤ n) (h : Chn n vs x) : ∃ v ∈ vs, v.b = x.1 ∧ v.v = x.2 := by
 obtain ⟨d, hd⟩ := dn_pos (n := n) (a := vds vs x) (by unfold Chn at h; omega)
 obtain ⟨v, h1, h2, h3, _⟩ := vds_mem.1 hd
 exact ⟨v, h1, h2, h3⟩
theorem PInv.later {n : Int} {s : RS} (h : PInv n s) (hn : 1 ≤ n) {x : Int × Tk} (hc : Chn n s.vos x) : ∀ (k : Nat) (y : Int × Tk), y ∈ s.sts → y.1.toNat ≤ k → x.1 < y.1 → y.2 = x.2 := by
 obtain ⟨v0, hv0, hvb, hvv⟩ := hc.mem hn
 have hx1 : 1 ≤ x.1 := by have := (h.vo v0 hv0).2.1.1; omega
 intro k
 induction k with
 | zero => intro y _ hk hlt; omega
 | succ k ih =>
  intro y hy hk hlt
  obtain ⟨Q, q1, q2, q3⟩ := h.st y hy
  obtain ⟨d, hd1, hd2⟩ := dn_both (n := n) (a := Q.map (·.d)) (b := vds s.vos x) (by unfold Chn at hc; omega)
  obtain ⟨p, hp, rfl⟩ := List.mem_map.1 hd1
  obtain ⟨v, hv, hb, hvv, hvd⟩ := vds_mem.1 hd2
  obtain ⟨hpm, hpb⟩ := q1 p hp
  have hw := (h.pm p hpm).2.2.2.2.2 v hv hvd (by omega)
  rcases q3 with q3 | ⟨r, hr, hr0, hrv, hrm⟩
  ·have := q3 p hp
   omega
  ·obtain ⟨hrp, hrb⟩ := q1 r hr
   have hrw := hrm p hp
   have hrs := (h.pm r hrp).2.2.2.2.1 hr0
   have hrlt := (h.pm r hrp).2.2.2.1
   rw [hrv] at hrs
   by_cases he : r.w = x.1
   ·have hvg := (h.vo v hv).2.2.2.1
    rw [hb, ← he, hrs, hvv] at hvg
    exact Option.some.inj hvg
   ·exact ih (r.w, y.2) (vget_memY hrs) (by dsimp only; omega) (by dsimp only; omega)
theorem PInv.same {n : Int} {s : RS} (h : PInv n s) (hn : 1 ≤ n) {x y : Int × Tk} (hx : Chn n s.vos x) (hy : Chn n s.vos y) : x.2 = y.2 := by
 obtain ⟨v, hv, hvb, hvv⟩ := hx.mem hn
 obtain ⟨w, hw, hwb, hwv⟩ := hy.mem hn
 have g1 := (h.vo v hv).2.2.2.1
 have g2 := (h.vo w hw).2.2.2.1
 rw [hvb, hvv] at g1
 rw [hwb, hwv] at g2
 by_cases h1 : x.1 < y.1
 ·exact (h.later hn hx _ y (vget_memY g2) (Nat.le_refl _) h1).symm
 ·by_cases h2 : y.1 < x.1
  ·exact h.later hn hy _ x (vget_memY g1) (Nat.le_refl _) h2
  ·have e : x.1 = y.1 := by omega
   rw [e, g2] at g1
   exact (Option.some.inj g1).symm
theorem PInv.few {n : Int} {s : RS} (h : PInv n s) (hn : 1 ≤ n) {l : List (Int × Tk)} (hl : l.Nodup) (hc : ∀ x ∈ l, Chn n s.vos x) : l.length ≤ s.pms.length ∧ l.length ≤ s.sts.length ∧ l.length ≤ s.vos.length := by
 have hst : ∀ x ∈ l, x ∈ s.sts := fun x hx => by
  obtain ⟨v, hv, hvb, hvv⟩ := (hc x hx).mem hn
  have g := (h.vo v hv).2.2.2.1
  rw [hvb, hvv] at g
  exact vget_memY g
 refine ⟨?_, nodup_sub hl hst, ?_⟩
 ·have hb : (l.map (·.1)).Nodup := by
   rw [List.nodup_iff_pairwise_ne, List.pairwise_map]
   rw [List.nodup_iff_pairwise_ne] at hl
   refine List.Pairwise.imp_of_mem ?_ hl
   intro a b ha hb hne he
   apply hne
   have h1 := h.uniq a (hst a ha)
   have h2 := h.uniq b (hst b hb)
   rw [he, h2] at h1
   exact Prod.ext he (Option.some.inj h1).symm
  have := nodup_sub (b := s.pms.map (·.b)) hb fun b hb => by
   obtain ⟨x, hx, rfl⟩ := List.mem_map.1 hb
   obtain ⟨Q, q1, q2, _⟩ := h.st x (hst x hx)
   obtain ⟨d, hd⟩ := dn_pos (n := n) (a := Q.map (·.d)) (by omega)
   obtain ⟨p, hp, _⟩ := List.mem_map.1 hd
   exact List.mem_map.2 ⟨p, (q1 p hp).1, (q1 p hp).2⟩
  simpa using this
 ·have := nodup_sub (b := s.vos.map fun v => (v.b, v.v)) hl fun x hx => by
   obtain ⟨v, hv, hvb, hvv⟩ := (hc x hx).mem hn
   exact List.mem_map.2 ⟨v, hv, Prod.ext hvb hvv⟩
  simpa using this
end Go.Proofs.YtgchabldcnmccacGreatDoor


namespace Go.Proofs.YtgchabldcnmccacGreatDoor
open Go.Zz
def Vo.key (v : Vo) : Int × Tk := (v.b, v.v)
def chF (n : Int) (ws : List Vo) : List Vo → List (Int × Tk) → List (Int × Tk) → List (Int × Tk)
 | [], _, out => out
 | v :: r, seen, out => if v.key ∈ seen then chF n ws r seen out else chF n ws r (seen ++ [v.key]) (if Chn n ws v.key then out ++ [v.key] else out)
def chL (n : Int) (ws : List Vo) : List (Int × Tk) := chF n ws ws [] []
theorem chF_mem {n : Int} {ws : List Vo} {x : Int × Tk} : ∀ (r : List Vo) (seen out : List (Int × Tk)), (∀ y ∈ out, y ∈ seen) → (x ∈ chF n ws r seen out ↔ x ∈ out ∨ (x ∉ seen ∧ Chn n ws x ∧ ∃ v ∈ r, v.key = x))
 | [], seen, out, _ => by simp [chF]
 | v :: r, seen, out, h => by
  unfold chF
  split
  ·rename_i hs
   rw [chF_mem r seen out h]
   constructor
   ·rintro (h1 | ⟨h1, h2, w, hw, he⟩)
    ·exact .inl h1
    ·exact .inr ⟨h1, h2, w, by simp [hw], he⟩
   ·rintro (h1 | ⟨h1, h2, w, hw, he⟩)
    ·exact .inl h1
    ·rcases List.mem_cons.1 hw with rfl | hw
     ·exact absurd (he ▸ hs) h1
     ·exact .inr ⟨h1, h2, w, hw, he⟩
  ·rename_i hs
   rw [chF_mem r (seen ++ [v.key]) _ (fun y hy => by
    split at hy
    ·rcases List.mem_append.1 hy with hy | hy
     ·exact List.mem_append_left _ (h y hy)
     ·exact List.mem_append_right _ hy
    ·exact List.mem_append_left _ (h y hy))]
   constructor
   ·rintro (h1 | ⟨h1, h2, w, hw, he⟩)
    ·split at h1
     ·rename_i hc
      rcases List.mem_append.1 h1 with h1 | h1
      ·exact .inl h1
      ·obtain rfl := List.mem_singleton.1 h1
       exact .inr ⟨hs, hc, v, by simp, rfl⟩
     ·exact .inl h1
    ·exact .inr ⟨fun hm => h1 (List.mem_append_left _ hm), h2, w, by simp [hw], he⟩
   ·rintro (h1 | ⟨h1, h2, w, hw, he⟩)
    ·left
     split
     ·exact List.mem_append_left _ h1
     ·exact h1
    ·by_cases hx : x = v.key
     ·subst hx
      rw [if_pos h2]
      exact .inl (List.mem_append_right _ (List.mem_singleton.2 rfl))
     ·rcases List.mem_cons.1 hw with rfl | hw
      ·exact absurd he.symm hx
      ·refine .inr ⟨fun hm => ?_, h2, w, hw, he⟩
       rcases List.mem_append.1 hm with hm | hm
       ·exact h1 hm
       ·exact hx (List.mem_singleton.1 hm)
theorem chF_nodup {n : Int} {ws : List Vo} : ∀ (r : List Vo) (seen out : List (Int × Tk)), (∀ y ∈ out, y ∈ seen) → out.Nodup → (chF n ws r seen out).Nodup
 | [], seen, out, _, h => h
 | v :: r, seen, out, h, hn => by
  unfold chF
  split
  ·exact chF_nodup r seen out h hn
  ·rename_i hs
   apply chF_nodup r
   ·intro y hy
    split at hy
    ·rcases List.mem_append.1 hy with hy | hy
     ·exact List.mem_append_left _ (h y hy)
     ·exact List.mem_append_right _ hy
    ·exact List.mem_append_left _ (h y hy)
   ·split
    ·rw [List.nodup_append]
     refine ⟨hn, by simp, fun a ha b hb => ?_⟩
     obtain rfl := List.mem_singleton.1 hb
     rintro rfl
     exact hs (h _ ha)
    ·exact hn
theorem chL_mem {n : Int} (hn : 1 ≤ n) {ws : List Vo} {x : Int × Tk} : x ∈ chL n ws ↔ Chn n ws x := by
 unfold chL
 rw [chF_mem ws [] [] (by simp)]
 simp only [List.not_mem_nil, false_or, not_false_eq_true, true_and]
 constructor
 ·exact fun h => h.1
 ·intro h
  obtain ⟨v, hv, h1, h2⟩ := h.mem hn
  exact ⟨h, v, hv, Prod.ext h1 h2⟩
theorem chL_nodup {n : Int} {ws : List Vo} : (chL n ws).Nodup := chF_nodup ws [] [] (by simp) List.nodup_nil
structure VoOk (n : Int) (vs : List Vo) (V : Tk) : Prop where
 n1 : 1 ≤ n
 n8 : n ≤ 8
 ok : ∀ v ∈ vs, DkOk v.d n ∧ BlOk v.b ∧ TkOk v.v
 same : ∀ x ∈ chL n vs, x.2 = V
 few : (chL n vs).length ≤ 20
 len : vs.length ≤ 200
 V : TkOk V
theorem VoOk.sub {n : Int} {vs ws : List Vo} {V : Tk} (h : VoOk n ws V) (hs : ∀ v ∈ vs, v ∈ ws) (hl : vs.length ≤ ws.length) : VoOk n vs V := by
 have hm : ∀ x ∈ chL n vs, x ∈ chL n ws := fun x hx => by
  rw [chL_mem h.n1] at hx ⊢
  exact hx.mono hs
 exact ⟨h.n1, h.n8, fun v hv => h.ok v (hs v hv), fun x hx => h.same x (hm x hx), Nat.le_trans (nodup_sub chL_nodup hm) h.few, by have := h.len; omega, h.V⟩
theorem VoOk.run {n : Int} {ms : List Mv} (h : RunOk n ms) (hl : ms.length ≤ 60) : ∃ V, VoOk n (runM n ms).vos V := by
 obtain ⟨h1, h2, h3, h4⟩ := h
 have hp : PInv n (runM n ms) := PInv.run h4
 have hc := run_cost (n := n) (ms := ms)
 have hf := hp.few h1 chL_nodup fun x hx => (chL_mem h1).1 hx
 cases hL : chL n (runM n ms).vos with
 | nil => exact ⟨⟨1, 0, 0, 0⟩, h1, h2, fun v hv => ⟨(hp.vo v hv).1, (hp.vo v hv).2.1, (hp.vo v hv).2.2.1⟩, by rw [hL]; simp, by rw [hL]; simp, by omega, by decide⟩
 | cons y r =>
  have hy : Chn n (runM n ms).vos y := (chL_mem h1).1 (by rw [hL]; simp)
  obtain ⟨v, hv, hb, hvv⟩ := hy.mem h1
  exact ⟨y.2, h1, h2, fun v hv => ⟨(hp.vo v hv).1, (hp.vo v hv).2.1, (hp.vo v hv).2.2.1⟩, fun x hx => hp.same h1 ((chL_mem h1).1 hx) hy, by omega, by omega, hvv ▸ (hp.vo v hv).2.2.1⟩
def logL (n : Int) (vs : List Vo) (V : Tk) : List Tk := if (chL n vs).length = 0 then [] else [V]
theorem logL_sub {n : Int} (hn : 1 ≤ n) {vs ws : List Vo} {V : Tk} (hs : ∀ v ∈ vs, v ∈ ws) : logL n vs V = [] ∨ (logL n vs V = [V] ∧ logL n ws V = [V]) := by
 unfold logL
 cases hL : chL n vs with
 | nil => exact .inl rfl
 | cons y r =>
  right
  have hy : Chn n vs y := (chL_mem hn).1 (by rw [hL]; simp)
  have : y ∈ chL n ws := (chL_mem hn).2 (hy.mono hs)
  have := List.length_pos_of_mem this
  exact ⟨by simp, by rw [if_neg (by omega)]⟩
end Go.Proofs.YtgchabldcnmccacGreatDoor


namespace Go.Proofs.YtgchabldcnmccacGreatDoor
open Go.Zz
def mgO (v : Vo) : Mg := ⟨4, v.d, (v.d + 1).tmod 8, v.v.s, v.b, 0, v.v⟩
def mgV (q : Mg) : Vo := ⟨q.f, q.b, q.v⟩
theorem mgO_ok {n : Int} {v : Vo} (hn : n ≤ 8) (h1 : DkOk v.d n) (h2 : BlOk v.b) (h3 : TkOk v.v) : MgOk (mgO v) := by
 obtain ⟨a1, a2⟩ := h1
 have e : (v.d + 1).tmod 8 = (v.d + 1) % 8 := Int.tmod_eq_emod_of_nonneg (by omega)
 refine ⟨rfl, ⟨a1, by show v.d < 8; omega⟩, ⟨?_, ?_⟩, ?_, ⟨h3.1, h3.2.1⟩, h2, rfl, h3, rfl⟩
 ·show 0 ≤ (v.d + 1).tmod 8
  rw [e]
  omega
 ·show (v.d + 1).tmod 8 < 8
  rw [e]
  omega
 ·show v.d ≠ (v.d + 1).tmod 8
  rw [e]
  omega
theorem mgV_map (vs : List Vo) : (vs.map mgO).map mgV = vs := by
 rw [List.map_map]
 have : (mgV ∘ mgO) = id := rfl
 rw [this, List.map_id]
theorem enc_head {q : Mg} (h : MgOk q) : ∃ n : Nat, (6 ≤ n ∧ n ≤ 8) ∧ ∃ r, enc q = (n : Int) :: r ∧ r.length = n + 4 := by
 obtain ⟨h1, h2⟩ := mbody_len h
 refine ⟨(mbody q).length, ⟨h1, h2⟩, mbody q ++ sumB (crc (mhead q)), rfl, ?_⟩
 rw [List.length_append]
 rfl
theorem enc_len {q : Mg} (h : MgOk q) : 11 ≤ (enc q).length ∧ (enc q).length ≤ 13 := by
 obtain ⟨n, hn, r, h1, h2⟩ := enc_head h
 rw [h1, List.length_cons]
 omega
theorem u8_ok (x : Int) : 0 ≤ u8 x ∧ u8 x < 256 := by
 unfold u8 IntKind.wrap
 simp [IntKind.signed, IntKind.bits]
 omega
theorem enc_byte {q : Mg} (h : MgOk q) : ByOk (enc q) := by
 obtain ⟨h1, h2⟩ := mbody_len h
 obtain ⟨a1, ⟨a2, a3⟩, ⟨a4, a5⟩, a6, ⟨a7, a8⟩, ⟨a9, a10⟩, a11, ⟨b1, b2, b3, b4, b5, b6, b7⟩, a13⟩ := h
 intro x hx
 simp only [enc, mhead, List.cons_append, List.mem_cons, List.mem_append] at hx
 rcases hx with rfl | hx | hx
 ·omega
 ·simp only [mbody, List.mem_append, List.mem_cons, List.not_mem_nil, or_false] at hx
  rcases hx with ((rfl | rfl | rfl) | hx) | rfl | rfl
  ·omega
  ·omega
  ·omega
  ·exact dig_byte (by omega) x hx
  ·omega
  ·omega
 ·simp only [sumB, List.mem_cons, List.not_mem_nil, or_false] at hx
  rcases hx with rfl | rfl | rfl | rfl <;> exact u8_ok _
theorem encs_app (a b : List Mg) : encs (a ++ b) = encs a ++ encs b := by simp [encs]
theorem encs_cons (a : Mg) (b : List Mg) : encs (a :: b) = enc a ++ encs b := by simp [encs]
theorem encs_byte {qs : List Mg} (h : ∀ q ∈ qs, MgOk q) : ByOk (encs qs) := by
 intro x hx
 obtain ⟨q, hq, hx⟩ := List.mem_flatMap.1 hx
 exact enc_byte (h q hq) x hx
theorem encs_le {qs : List Mg} (h : ∀ q ∈ qs, MgOk q) : (encs qs).length ≤ 13 * qs.length := by
 induction qs with
 | nil => exact Nat.le_refl _
 | cons q r ih =>
  have h1 := ih fun x hx => h x (by simp [hx])
  have h2 := (enc_len (h q (by simp))).2
  rw [encs_cons, List.length_append, List.length_cons]
  omega
theorem encs_take : ∀ {qs : List Mg} (_ : ∀ q ∈ qs, MgOk q) (k : Nat), ∃ i tail, i ≤ qs.length ∧ (encs qs).take k = encs (qs.take i) ++ tail ∧ Sh tail
 | [], _, k => ⟨0, [], Nat.le_refl _, by simp [encs], .inl rfl⟩
 | q :: r, h, k => by
  rw [encs_cons]
  by_cases hk : (enc q).length ≤ k
  ·obtain ⟨i, tail, h1, h2, h3⟩ := encs_take (fun x hx => h x (List.mem_cons_of_mem _ hx)) (k - (enc q).length)
   refine ⟨i + 1, tail, by simp; omega, ?_, h3⟩
   rw [List.take_append, List.take_of_length_le hk, h2, List.take_succ_cons, encs_cons, List.append_assoc]
  ·refine ⟨0, (enc q).take k, Nat.zero_le _, ?_, ?_⟩
   ·rw [List.take_append_of_le_length (by omega)]
    rfl
   ·cases k with
    | zero => exact .inl rfl
    | succ k =>
     obtain ⟨n, hn, r, h1, h2⟩ := enc_head (h q (by simp))
     rw [h1] at hk ⊢
     rw [List.length_cons, h2] at hk
     refine .inr ⟨n, r.take k, rfl, by omega, by omega, ?_⟩
     rw [List.length_take]
     omega
set_option maxRecDepth 100000
set_option maxHeartbeats 8000000
def VoL (x : AV) (vs : List Vo) : Prop := SL 6 x (vs.map Vo.cells)
theorem VoL.len {x : AV} {vs : List Vo} (h : VoL x vs) : slen x = some vs.length := by
 have := SL.len h
 rwa [List.length_map] at this
def vtail (vs : List Vo) (i : Nat) : List AV := ((vs.map Vo.cells).drop (i + 1)).flatten
def vnth (vs : List Vo) (i : Nat) : Vo := vs.getD i vo0
theorem vnth_eq {vs : List Vo} {i : Nat} (h : i < vs.length) : vnth vs i = vs[i] := by simp [vnth, h]
theorem vnth_mem {vs : List Vo} {i : Nat} (h : i < vs.length) : vnth vs i ∈ vs := by
 rw [vnth_eq h]
 exact List.getElem_mem h
theorem VoL.at {x : AV} {vs : List Vo} (h : VoL x vs) {i : Nat} (hi : i < vs.length) : indexAddrAV 6 x (.int .i64 (i : Int)) = some (.pval (.int .i64 (vnth vs i).d :: .int .i64 (vnth vs i).b :: .int .i64 (vnth vs i).v.s :: .int .i64 (vnth vs i).v.c :: .int .i64 (vnth vs i).v.n :: .int .i64 (vnth vs i).v.d :: vtail vs i)) := by
 have := SL.at h (i := i) (by simpa using hi)
 rw [vnth_eq hi]
 simpa [Vo.cells, Tk.cells, vtail] using this
theorem vo_flat (vs : List Vo) : ∀ c ∈ vs.map Vo.cells, c.all flatAV = true := by
 intro c hc
 obtain ⟨p, _, rfl⟩ := List.mem_map.1 hc
 rfl
theorem VoL.byVal {x : AV} {vs : List Vo} (h : VoL x vs) (H : Hp) : Zz.byVal H x = some x := SL.byVal h (vo_flat vs) H
theorem VoL.mk {f : Bool} {vs : List Vo} : VoL (.sval f vs.length (voF vs)) vs := by
 refine ⟨fun c hc => ?_, .inr ⟨f, by rw [List.length_map]; rfl⟩⟩
 obtain ⟨p, _, rfl⟩ := List.mem_map.1 hc
 rfl
theorem VoL.slV {vs : List Vo} : VoL (slV (voF vs) vs.length) vs := by
 unfold Go.Proofs.YtgchabldcnmccacGreatDoor.slV
 split
 ·rename_i h
  have : vs = [] := by simpa using h
  subst this
  exact ⟨by simp, .inl ⟨rfl, rfl⟩⟩
 ·exact VoL.mk
theorem f6 {n : Int} {x : AV} {vs : List Vo} (hx : VoL x vs) (hn : n ≤ 8) (hok : ∀ v ∈ vs, DkOk v.d n ∧ BlOk v.b ∧ TkOk v.v) (hlen : vs.length ≤ 1000) :
  WF X5 (.func 6 [] []) [x] ⟨[], []⟩ fun y m' => newV m'.heap y = some (.tuple [slV (msF (vs.map mgO)) vs.length, .bool true]) := by
 refine WF.fnE rfl (fn_of Tryz.func6 cir6) (by show 1 ≤ 44; decide) ?_
 unfold ir6; dsimp only [k0, kI, mV, oO, oG]
 simp only [padTo, List.replicate, List.nil_append, List.append_nil]
 repeat' (first | (refine WO.opE (by intro; simp (disch := omega) only [go_sem]; rfl) (by simp only [pt2, pt3, pt4, pt5, pt6]; rfl) ?_) | (refine WC.seq ?_) | (refine WC.region ?_) | (refine WO.nil ?_) | (simp only [fl1]) | (refine WC.block ?_))
 refine WC.loopI (fun m st => ∃ T H z i, st = ⟨T, H, []⟩ ∧ T.length = 44 ∧ gt T 0 = x ∧ gt T 4 = z ∧ gt T 5 = .bool true ∧ gt T 6 = .int .i64 (i : Nat) ∧ m + i = vs.length ∧ SlH H z 10 (msF ((vs.take i).map mgO)) i) ?_ vs.length _ ⟨_, _, .snil, 0, rfl, rfl, rfl, rfl, rfl, rfl, rfl, SlH.nil⟩
 rintro m _ ⟨T, H, z, i, rfl, hT, g0, g4, g5, g6, hm, hz⟩
 obtain ⟨f, rfl⟩ := ex44 hT
 clear hT
 replace g0 : f 0 = x := g0
 replace g4 : f 4 = z := g4
 replace g5 : f 5 = .bool true := g5
 replace g6 : f 6 = .int .i64 (i : Nat) := g6
 simp only [g0, g4, g5, g6]
 by_cases hi : i < vs.length
 ·have hat := hx.at hi
  have hmem := vnth_mem hi
  have htk : (vs.take (i + 1)).map mgO = (vs.take i).map mgO ++ [mgO (vnth vs i)] := by
   rw [List.take_succ_eq_append_getElem hi, List.map_append, vnth_eq hi]
   rfl
  generalize hv : vnth vs i = v at *
  obtain ⟨⟨a1, a2⟩, ⟨a3, a4⟩, a5⟩ := hok v hmem
  have hq := mgO_ok hn ⟨a1, a2⟩ ⟨a3, a4⟩ a5
  have hs16 := fun m => s16 (m := m) hq
  have hmF : msF ((vs.take (i + 1)).map mgO) = msF ((vs.take i).map mgO) ++ (mgO v).cells := by rw [htk]; simp [msF]
  simp only [Mg.cells, Tk.cells, mgO] at hs16 hmF
  have hw1 : IntKind.i64.wrap (v.d + 1) = v.d + 1 := wrap_id (by omega) (by omega)
  repeat' (first | (refine WO.yes rfl ?_) | (refine WO.opE (by intro; simp (disch := omega) only [go_sem, Zz.over, Zz.cut, List.length_append, fillP, Option.bind_eq_bind, Nat.reduceAdd, Nat.reduceLeDiff, hat, lk0, lk1, hw1, List.append_assoc]; rfl) (by simp only [pt8, pt0, pt1, pt2, pt3, pt4, pt5, pt6, pt7]; rfl) ?_) | (refine WO.opN (by intro; simp (disch := omega) only [go_sem, Zz.over, Option.bind_eq_bind, Nat.reduceAdd, Nat.reduceLeDiff, lk0, lk1, st0, st1, setBlk]; rfl) ?_) | (refine WO.specE rfl rfl (hs16 _) (by simp only [pt8, pt4]; rfl) ?_) | (refine WO.opE (by intro; exact ev_lenS (by simp only [go_sem]; exact hx.len)) (by simp only [pt8, pt3]; rfl) ?_) | (refine WC.seq ?_) | (refine WC.region ?_) | (refine WO.nil ?_) | (simp only [fl1, fl4]) | (refine WC.skip ?_) | (refine WC.block ?_) | (refine WC.em2 rfl (fun hp => ?_) (fun hp => ?_) <;> try (exfalso; first | omega | contradiction)))
  refine WO_appendSl (k := 10) (c := [.int .i64 4, .int .i64 v.d, .int .i64 ((v.d + 1).tmod 8), .int .i64 v.v.s, .int .i64 v.b, .int .i64 0, .int .i64 v.v.s, .int .i64 v.v.c, .int .i64 v.v.n, .int .i64 v.v.d]) rfl rfl hz.more (by decide) (lk2 rfl) rfl (by omega) fun z' H' hz' _ _ => ?_
  simp only [pt8, pt1]
  rw [← hmF] at hz'
  repeat' (first | (refine WO.opE (by intro; simp (disch := omega) only [go_sem]; rfl) (by simp only [pt8, pt4, pt5, pt6]; rfl) ?_) | (refine WC.region ?_) | (refine WO.nil ?_) | (simp only [fl10]))
  exact ⟨m - 1, by omega, _, _, z', i + 1, rfl, rfl, rfl, rfl, rfl, rfl, by omega, hz'⟩
 ·obtain rfl : i = vs.length := by omega
  rw [List.take_length] at hz
  repeat' (first | (refine WO.opE (by intro; simp (disch := omega) only [go_sem]; rfl) (by simp only [pt8, pt1, pt2, pt3, pt4]; rfl) ?_) | (refine WO.opE (by intro; exact ev_lenS (by simp only [go_sem]; exact hx.len)) (by simp only [pt8, pt3]; rfl) ?_) | (refine WC.seq ?_) | (refine WC.region ?_) | (refine WO.nil ?_) | (simp only [fl1]) | (refine WC.exit ?_) | (refine WC.ret ?_) | (refine WC.em2 rfl (fun hp => ?_) (fun hp => ?_) <;> try (exfalso; first | omega | contradiction)))
  refine ⟨_, rfl, ?_⟩
  show newV H (.tuple [z, .bool true]) = _
  simp only [newV, newT, hz.newA (msF_flat _)]
  rfl
theorem x6 {n : Int} {x z : AV} {vs : List Vo} {m : Mem} (hz : Zz.byVal m.heap z = some x) (hx : VoL x vs) (hn : n ≤ 8) (hok : ∀ v ∈ vs, DkOk v.d n ∧ BlOk v.b ∧ TkOk v.v) (hlen : vs.length ≤ 1000) : borrowX X5 6 [z] m = some (.tuple [slV (msF (vs.map mgO)) vs.length, .bool true], m) :=
 borrowX_of (byVals_cons hz (byVals_nil _)) (f6 hx hn hok hlen)
noncomputable def Y1 : Env := X5.put 6 (borrowX X5 6)
theorem Y1_ok : EnvOk Tryz.prog Y1 := Env.put_ok X5_ok (borrowX_ok X5_ok (callable Tryz.func6 (by kernel_rfl)))
end Go.Proofs.YtgchabldcnmccacGreatDoor

