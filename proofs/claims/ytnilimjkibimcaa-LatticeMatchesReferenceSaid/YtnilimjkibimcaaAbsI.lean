import Derived.Test.YtnilimjkibimcaaAbsH
import Derived.Handed
import Derived.JoinedOf

set_option linter.unusedSimpArgs false
set_option linter.unusedVariables false

namespace Go.Zz
theorem PartL.backSet {S H : Hp} (h : PartL S H) : ∀ {id : Nat} {b b0 : Blk}, S[id]? = some (some b0) → Zz.back H S (S.set id (some b)) = H.set id (some b) := by
 induction h with
 | nil => intro id b b0 hs; simp at hs
 | none h k ih =>
  intro id b b0 hs
  cases id with
  | zero => simp at hs
  | succ id => simp only [List.set_cons_succ, Zz.back]; rw [ih (by simpa using hs)]
 | same h k ih =>
  intro id b b0 hs
  cases id with
  | zero =>
   simp at hs
   subst hs
   simp only [List.set_cons_zero, Zz.back]
   rw [k.back]
  | succ id =>
   cases h <;> (simp only [List.set_cons_succ, Zz.back]; rw [ih (by simpa using hs)])
theorem dead_set' : ∀ {S : Hp} {id : Nat} {b b0 : Blk}, S[id]? = some (some b0) → stillDead S (S.set id (some b)) = true
 | [], _, _, _, h => by simp at h
 | s :: S, 0, b, b0, h => by
  simp at h
  subst h
  simpa [stillDead] using dead_self S
 | none :: S, id + 1, b, b0, h => by simpa [stillDead] using dead_set' (S := S) (by simpa using h)
 | some _ :: S, id + 1, b, b0, h => by simpa [stillDead] using dead_set' (S := S) (by simpa using h)
def Seen (S H : Hp) (x : AV) : Prop := ∀ id g off z n c, x = .sref id g off z n c → S[id]? = H[id]?
theorem scells_seen {S H : Hp} {sz : Nat} {x : AV} (h : Seen S H x) : scells S sz x = scells H sz x := by
 cases x <;> first | rfl | skip
 rename_i id g off z n c
 simp only [scells, look_of_get (h id g off z n c rfl)]
theorem storeAt_seen {S H H' : Hp} {id g off : Nat} {xs : List AV} (hp : PartL S H) (hs : S[id]? = H[id]?) (h : storeAt H id g off xs = some H') : ∃ S', storeAt S id g off xs = some S' ∧ stillDead S S' = true ∧ Zz.back H S S' = H' := by
 unfold storeAt at h ⊢
 simp only [Option.bind_eq_bind, Option.bind_eq_some_iff, Option.some.injEq] at h
 obtain ⟨l, h3, l', h4, rfl⟩ := h
 rw [look_of_get hs]
 have hb := look_eq_iff.1 h3
 rw [← hs] at hb
 exact ⟨_, by simp only [h3, h4, Option.bind_eq_bind, Option.bind_some]; rfl, dead_set' hb, hp.backSet hb⟩
theorem append_seen {S H H' : Hp} {L L' : List (Option ALoop)} {sz bytes : Nat} {s x v : AV} (hp : PartL S H) (hs : Seen S H s) (hx : Seen S H x) (h : appendAV sz bytes ⟨H, L⟩ s x = some (v, ⟨H', L'⟩)) :
  L' = L ∧ ∃ S', appendAV sz bytes ⟨S, L⟩ s x = some (v, ⟨S', L⟩) ∧ stillDead S S' = true ∧ Zz.back H S S' = H' := by
 unfold appendAV at h ⊢
 simp only [scells_seen hx, hp.len, Option.bind_eq_bind] at h ⊢
 cases hc : scells H sz x with
 | none => rw [hc] at h; cases h
 | some xs =>
  rw [hc] at h
  simp only [Option.bind_some] at h ⊢
  cases hn : slen x with
  | none => rw [hn] at h; cases h
  | some n =>
   rw [hn] at h
   simp only [Option.bind_some] at h ⊢
   cases s with
   | snil =>
    simp only at h ⊢
    by_cases h0 : n = 0
    ·rw [if_pos h0] at h ⊢
     cases h
     exact ⟨rfl, _, rfl, dead_self _, hp.back⟩
    ·rw [if_neg h0] at h ⊢
     by_cases h1 : n * bytes ≤ 140737488355328 ∧ n ≤ 140737488355328
     ·rw [if_pos h1] at h ⊢
      simp only [newBlk, Option.some.injEq, Prod.mk.injEq, Mem.mk.injEq] at h
      obtain ⟨rfl, rfl, rfl⟩ := h
      exact ⟨rfl, _, rfl, dead_app _ _, hp.backApp _⟩
     ·rw [if_neg h1] at h; cases h
   | sval full len l =>
    simp only at h ⊢
    by_cases h0 : n = 0
    ·rw [if_pos h0] at h ⊢
     cases h
     exact ⟨rfl, _, rfl, dead_self _, hp.back⟩
    ·rw [if_neg h0] at h ⊢
     split at h
     ·rename_i h1
      rw [if_pos h1]
      simp only [newBlk, Option.some.injEq, Prod.mk.injEq, Mem.mk.injEq] at h
      obtain ⟨rfl, rfl, rfl⟩ := h
      exact ⟨rfl, _, rfl, dead_app _ _, hp.backApp _⟩
     ·cases h
   | sref id g off z len cap =>
    have hid := hs id g off z len cap rfl
    simp only [look_of_get hid] at h ⊢
    by_cases hz : z = sz
    ·simp only [if_pos hz] at h ⊢
     cases hl : look H id g with
     | none => rw [hl] at h; cases h
     | some l =>
      have hb := look_eq_iff.1 hl
      rw [← hid] at hb
      rw [hl] at h
      simp only [Option.bind_some] at h ⊢
      cases hcut : cut l off (len * sz) with
      | none => rw [hcut] at h; cases h
      | some old =>
       rw [hcut] at h
       simp only [Option.bind_some] at h ⊢
       cases cap with
       | some c =>
        simp only at h ⊢
        split at h
        ·rename_i h1
         rw [if_pos h1]
         simp only [Option.bind_eq_some_iff, Option.some.injEq, Prod.mk.injEq, Mem.mk.injEq] at h
         obtain ⟨H1, h2, rfl, rfl, rfl⟩ := h
         obtain ⟨S', g1, g2, g3⟩ := storeAt_seen hp hid h2
         exact ⟨rfl, S', by simp only [g1, Option.bind_some], g2, g3⟩
        ·rename_i h1
         rw [if_neg h1]
         split at h
         ·rename_i h2
          rw [if_pos h2]
          simp only [newBlk, Option.some.injEq, Prod.mk.injEq, Mem.mk.injEq] at h
          obtain ⟨rfl, rfl, rfl⟩ := h
          exact ⟨rfl, _, rfl, dead_app _ _, hp.backApp _⟩
         ·cases h
       | none =>
        simp only at h ⊢
        split at h
        ·rename_i h1
         rw [if_pos h1]
         simp only [Option.bind_eq_some_iff, Option.some.injEq, Prod.mk.injEq, Mem.mk.injEq] at h
         obtain ⟨H1, h2, rfl, rfl, rfl⟩ := h
         obtain ⟨S', g1, g2, g3⟩ := storeAt_seen hp hid h2
         exact ⟨rfl, S', by simp only [g1, Option.bind_some], g2, g3⟩
        ·rename_i h1
         rw [if_neg h1]
         split at h
         ·rename_i h2
          rw [if_pos h2]
          simp only [setBlk, Option.some.injEq, Prod.mk.injEq, Mem.mk.injEq] at h
          obtain ⟨rfl, rfl, rfl⟩ := h
          exact ⟨rfl, _, rfl, dead_set' hb, hp.backSet hb⟩
         ·cases h
    ·simp only [if_neg hz] at h; cases h
   | _ => cases h
theorem append_len {H H' : Hp} {L L' : List (Option ALoop)} {sz bytes : Nat} {s x v : AV} (h : appendAV sz bytes ⟨H, L⟩ s x = some (v, ⟨H', L'⟩)) : H.length ≤ H'.length := by
 obtain ⟨_, S', h1, h2, h3⟩ := append_seen (PartL.refl H) (fun _ _ _ _ _ _ _ => rfl) (fun _ _ _ _ _ _ _ => rfl) h
 have := dead_len h2
 rw [← h3, back_len rfl this]
 exact this
def slBlk : AV → Tch
 | .sref id _ _ _ _ _ => .blk id
 | _ => .none
section
variable {Γ : Env} {rd : List DOper} {ms : List Nat} {tch : List Tch} {T T' : List AV} {H : Hp} {L : List (Option ALoop)}
theorem seen_of {seen : List (Hp × Nat × Nat)} {x : AV} (hs : Fits seen tch H.length) (ha : apartT tch ms (slBlk x)) : Seen (strikes H seen ms) H x := by
 intro id g off z n c e
 subst e
 refine strikes_get (n := H.length) hs.le ms rfl fun i hi e he => ?_
 have hl := hs.len
 have hil := (List.getElem?_eq_some_iff.1 he).1
 obtain ⟨t', ht'⟩ : ∃ t', tch[i]? = some t' := ⟨tch[i], List.getElem?_eq_getElem (by omega)⟩
 exact hs.away i e t' he ht' id (ha i hi t' ht')
theorem WT.append {Q : St → Prop} {d sz bytes : Nat} {s x : Opd} {sv xv v : AV} {H' : Hp} {L' : List (Option ALoop)} (es : s.ev T = sv) (ex : x.ev T = xv) (h : appendAV sz bytes ⟨H, L⟩ sv xv = some (v, ⟨H', L'⟩)) (ha : apartT tch ms (slBlk sv)) (hb : apartT tch ms (slBlk xv))
  (ht : pt T d v = T') (k : WT Γ rd ⟨T', H', L⟩ (tch ++ [.all]) Q) : WT Γ (⟨⟨none, some d, .append sz bytes s x⟩, ms⟩ :: rd) ⟨T, H, L⟩ tch Q := by
 refine ⟨fun seen hs => ?_⟩
 have hp := PartL.strikes hs.le ms (PartL.refl H)
 obtain ⟨rfl, S', g1, g2, g3⟩ := append_seen hp (seen_of hs ha) (seen_of hs hb) h
 have hle := append_len h
 have hl2 : S'.length = H'.length := by
  have := dead_len g2
  rw [hp.len] at this
  have e := back_len hp.len this
  rw [g3] at e
  exact e.symm
 refine WD.bigG (V := strikes H seen ms) rfl rfl (fun call => by rw [ev_append, es, ex]; exact g1) g2 g3 rfl ?_
 simp only [St.put, ht]
 exact k.run _ (hs.app (m := H'.length) hle (by simp only; omega) fun j hj => hj.elim)
end
end Go.Zz


namespace Go.Zz
def GS (sz : Nat) (H : Hp) (v : AV) (q : Nat) (c : List AV) : Prop :=
 (v = .snil ∧ c = []) ∨ (∃ g, v = .sref q g 0 sz 0 (some 0) ∧ c = [] ∧ look H q g = some []) ∨ ∃ g n, v = .sref q g 0 sz n none ∧ c.length = n * sz ∧ 0 < n ∧ look H q g = some c
theorem GS.nil {sz : Nat} {H : Hp} {q : Nat} : GS sz H .snil q [] := .inl ⟨rfl, rfl⟩
theorem GS.len {sz : Nat} {H : Hp} {v : AV} {q : Nat} {c : List AV} (h : GS sz H v q c) (hs : 0 < sz) : slen v = some (c.length / sz) := by
 rcases h with ⟨rfl, rfl⟩ | ⟨g, rfl, rfl, _⟩ | ⟨g, n, rfl, h1, _, _⟩
 ·simp [slen]
 ·simp [slen]
 ·rw [h1, Nat.mul_div_cancel _ hs]; rfl
theorem GS.more {sz : Nat} {H : Hp} {v : AV} {q : Nat} {c : List AV} (h : GS sz H v q c) (R : Hp) : GS sz (H ++ R) v q c := by
 rcases h with ⟨rfl, rfl⟩ | ⟨g, rfl, rfl, h1⟩ | ⟨g, n, rfl, h1, h2, h3⟩
 ·exact .inl ⟨rfl, rfl⟩
 ·exact .inr (.inl ⟨g, rfl, rfl, by rw [look_left (look_lt h1)]; exact h1⟩)
 ·exact .inr (.inr ⟨g, n, rfl, h1, h2, by rw [look_left (look_lt h3)]; exact h3⟩)
theorem GS.lt {sz : Nat} {H : Hp} {v : AV} {q : Nat} {c : List AV} (h : GS sz H v q c) : v = .snil ∨ q < H.length := by
 rcases h with ⟨rfl, rfl⟩ | ⟨g, rfl, rfl, h1⟩ | ⟨g, n, rfl, h1, h2, h3⟩
 ·exact .inl rfl
 ·exact .inr (look_lt h1)
 ·exact .inr (look_lt h3)
theorem GS.ref {sz : Nat} {H : Hp} {v : AV} {q : Nat} {c : List AV} (h : GS sz H v q c) (hc : c ≠ []) : ∃ g n, v = .sref q g 0 sz n none ∧ c.length = n * sz ∧ look H q g = some c ∧ q < H.length := by
 rcases h with ⟨rfl, rfl⟩ | ⟨g, rfl, rfl, h1⟩ | ⟨g, n, rfl, h1, h2, h3⟩
 ·exact absurd rfl hc
 ·exact absurd rfl hc
 ·exact ⟨g, n, rfl, h1, h3, look_lt h3⟩
theorem GS.append {sz bytes n id : Nat} {H : Hp} {L : List (Option ALoop)} {v : AV} {q : Nat} {c vs : List AV} {cap : Option Nat} (h : GS sz H v q c) (hv : look H id 0 = some vs) (hl : vs.length = n * sz) (hn : 0 < n) (hsz : 0 < sz)
  (hb : (c.length / sz + n) * bytes ≤ 140737488355328 ∧ c.length / sz + n ≤ 140737488355328) :
  ∃ v' q' H', appendAV sz bytes ⟨H, L⟩ v (.sref id 0 0 sz n cap) = Option.some (v', ⟨H', L⟩) ∧ GS sz H' v' q' (c ++ vs) ∧ (q' = q ∨ q' = H.length) ∧ H.length ≤ H'.length ∧ ∀ j, j < H.length → j ≠ q → H'[j]? = H[j]? := by
 have e : cut vs 0 (n * sz) = Option.some vs := by
  unfold cut
  rw [if_pos (by omega), ← hl]
  simp
 rcases h with ⟨rfl, rfl⟩ | ⟨g, rfl, rfl, h1⟩ | ⟨g, k, rfl, h1, h2, h3⟩
 ·simp only [List.length_nil, Nat.zero_div, Nat.zero_add] at hb
  refine ⟨_, H.length, _, append_nil hv hn hl hb, .inr (.inr ⟨0, n, rfl, by simpa using hl, hn, ?_⟩), .inr rfl, by simp, fun j hj _ => List.getElem?_append_left hj⟩
  rw [List.nil_append]
  exact look_eq_iff.2 app_g0
 ·simp only [List.length_nil, Nat.zero_div, Nat.zero_add] at hb
  have e2 : cut ([] : List AV) 0 (0 * sz) = Option.some [] := by simp [cut]
  refine ⟨.sref H.length 0 0 sz n none, H.length, H ++ [Option.some ⟨0, vs⟩], ?_, .inr (.inr ⟨0, n, rfl, by simpa using hl, hn, ?_⟩), .inr rfl, by simp, fun j hj _ => List.getElem?_append_left hj⟩
  ·have h0 : ¬ n ≤ 0 := by omega
   simp only [appendAV, scells, if_true, hv, Option.bind_some, e, slen, Option.bind_eq_bind, h1, e2, Nat.zero_add, if_neg h0, if_pos hb, newBlk, List.nil_append]
  ·rw [List.nil_append]
   exact look_eq_iff.2 app_g0
 ·rw [h1, Nat.mul_div_cancel _ hsz] at hb
  have hq := look_lt h3
  refine ⟨_, q, _, append_more h3 hv hn hsz hl h1 hb, .inr (.inr ⟨g + 1, k + n, rfl, by rw [List.length_append, h1, hl, Nat.add_mul], by omega, look_set hq⟩), .inl rfl, by simp, fun j hj hne => List.getElem?_set_ne (Ne.symm hne)⟩
structure Fam {α : Type} (f : α → List AV) (A : α → Hp) (q g N : Nat) : Prop where
 len : ∀ x, (A x).length = N
 look : ∀ x l, Zz.look (A x ++ l) q g = Option.some (f x)
 set : ∀ x y l, (A x ++ l).set q (Option.some ⟨g, f y⟩) = A y ++ l
theorem set_same {H : Hp} {q g : Nat} {c : List AV} (h : look H q g = some c) : H.set q (Option.some ⟨g, c⟩) = H := by
 have := look_eq_iff.1 h
 apply List.ext_getElem?
 intro i
 by_cases hi : q = i
 ·subst hi
  rw [this, List.getElem?_set_self (look_lt h)]
 ·rw [List.getElem?_set_ne hi]
end Go.Zz


namespace Go.Zz
theorem over_nil {l : List AV} {o : Nat} (h : o ≤ l.length) : over l o [] = some l := by
 unfold over
 rw [if_pos (by simpa using h)]
 simp
theorem GS.appendX {sz bytes n : Nat} {H : Hp} {L : List (Option ALoop)} {v x : AV} {q : Nat} {c vs : List AV} (h : GS sz H v q c) (hx : scells H sz x = some vs) (hxl : slen x = some n) (hl : vs.length = n * sz) (hsz : 0 < sz)
  (hb : (c.length / sz + n) * bytes ≤ 140737488355328 ∧ c.length / sz + n ≤ 140737488355328) :
  ∃ v' q' H', appendAV sz bytes ⟨H, L⟩ v x = some (v', ⟨H', L⟩) ∧ GS sz H' v' q' (c ++ vs) ∧ (q' = q ∨ q' = H.length) ∧ H.length ≤ H'.length ∧ ∀ j, j < H.length → j ≠ q → H'[j]? = H[j]? := by
 by_cases hn : n = 0
 ·subst hn
  have hvs : vs = [] := List.length_eq_zero_iff.1 (by simpa using hl)
  subst hvs
  rw [List.append_nil]
  refine ⟨v, q, H, ?_, h, .inl rfl, Nat.le_refl _, fun j _ _ => rfl⟩
  rcases h with ⟨rfl, rfl⟩ | ⟨g, rfl, rfl, h1⟩ | ⟨g, k, rfl, h1, h2, h3⟩
  ·simp only [appendAV, hx, hxl, Option.bind_eq_bind, Option.bind_some, if_true]
  ·have e2 : cut ([] : List AV) 0 (0 * sz) = some [] := by simp [cut]
   have e3 : storeAt H q g (0 + 0 * sz) [] = some H := by
    have e4 : over ([] : List AV) 0 [] = some [] := rfl
    simp only [storeAt, h1, Option.bind_eq_bind, Option.bind_some, Nat.zero_mul, Nat.zero_add, e4, setBlk, set_same h1]
   simp only [appendAV, hx, hxl, Option.bind_eq_bind, Option.bind_some, if_true, h1, e2, Nat.add_zero, Nat.le_refl, e3]
  ·have e2 : cut c 0 (k * sz) = some c := by
    unfold cut
    rw [if_pos (by omega), ← h1]
    simp
   have e3 : storeAt H q g (0 + k * sz) [] = some H := by
    simp only [storeAt, h3, Option.bind_eq_bind, Option.bind_some, Nat.zero_add, over_nil (Nat.le_of_eq h1.symm), setBlk, set_same h3]
   have e4 : 0 + k * sz ≤ c.length := by rw [h1]; omega
   simp only [appendAV, hx, hxl, Option.bind_eq_bind, Option.bind_some, if_true, h3, e2, Nat.add_zero, if_pos e4, e3]
 ·have hn' : 0 < n := Nat.pos_of_ne_zero hn
  rcases h with ⟨rfl, rfl⟩ | ⟨g, rfl, rfl, h1⟩ | ⟨g, k, rfl, h1, h2, h3⟩
  ·simp only [List.length_nil, Nat.zero_div, Nat.zero_add] at hb
   refine ⟨.sref H.length 0 0 sz n none, H.length, H ++ [some ⟨0, vs⟩], ?_, .inr (.inr ⟨0, n, rfl, by simpa using hl, hn', ?_⟩), .inr rfl, by simp, fun j hj _ => List.getElem?_append_left hj⟩
   ·simp only [appendAV, hx, hxl, Option.bind_eq_bind, Option.bind_some, if_neg hn, if_pos hb, newBlk]
   ·rw [List.nil_append]; exact look_eq_iff.2 app_g0
  ·simp only [List.length_nil, Nat.zero_div, Nat.zero_add] at hb
   have e2 : cut ([] : List AV) 0 (0 * sz) = some [] := by simp [cut]
   have h0 : ¬ n ≤ 0 := by omega
   refine ⟨.sref H.length 0 0 sz n none, H.length, H ++ [some ⟨0, vs⟩], ?_, .inr (.inr ⟨0, n, rfl, by simpa using hl, hn', ?_⟩), .inr rfl, by simp, fun j hj _ => List.getElem?_append_left hj⟩
   ·simp only [appendAV, hx, hxl, Option.bind_eq_bind, Option.bind_some, if_true, h1, e2, Nat.zero_add, if_neg h0, if_pos hb, newBlk, List.nil_append]
   ·rw [List.nil_append]; exact look_eq_iff.2 app_g0
  ·rw [h1, Nat.mul_div_cancel _ hsz] at hb
   have hq := look_lt h3
   have e2 : cut c 0 (k * sz) = some c := by
    unfold cut
    rw [if_pos (by omega), ← h1]
    simp
   have e3 : ¬ 0 + (k + n) * sz ≤ c.length := by
    rw [h1, Nat.add_mul]
    have := Nat.mul_pos hn' hsz
    omega
   refine ⟨.sref q (g + 1) 0 sz (k + n) none, q, H.set q (some ⟨g + 1, c ++ vs⟩), ?_, .inr (.inr ⟨g + 1, k + n, rfl, by rw [List.length_append, h1, hl, Nat.add_mul], by omega, look_set hq⟩), .inl rfl, by simp, fun j hj hne => List.getElem?_set_ne (Ne.symm hne)⟩
   simp only [appendAV, hx, hxl, Option.bind_eq_bind, Option.bind_some, if_true, h3, e2, if_neg e3, if_pos hb, setBlk]
theorem resC_flat {H : Hp} {q g n sz : Nat} {cap : Option Nat} {c : List AV} (h : look H q g = some c) (hl : c.length = n * sz) (hf : c.all flatAV = true) : resC H (.sref q g 0 sz n cap) = some (.sval (cap == some n) n c) := by
 have e : cut c 0 (n * sz) = some c := by
  unfold cut
  rw [if_pos (by omega), ← hl]
  simp
 simp only [resC, h, e, hf, if_true]
end Go.Zz


namespace Go.Zz
theorem borrow_mono {Γ : Env} {n k g : Nat} (hk : n ≤ k) {args : List AV} {m : Mem} {r : AV × Mem} (h : borrow Γ n g args m = some r) : borrow Γ k g args m = some r := by
 unfold borrow at h ⊢
 split at h
 ·rename_i ys hp
  cases he : evF Γ n (.func g [] []) ys ⟨[], []⟩ with
  | none => rw [he] at h; simp [alone] at h
  | some q =>
   rw [he] at h
   have := (mono_le Γ hk).2 _ _ _ _ he
   simp only at this
   simp only [this]
   exact h
 ·cases h
open Classical in
noncomputable def borrowR (Γ : Env) (g : Nat) (args : List AV) (m : Mem) : Option (AV × Mem) :=
 if h : ∃ r, ∃ n, borrow Γ n g args m = some r then some h.choose else none
theorem borrowR_ok [Globs] {P : Program} {Γ : Env} (hΓ : EnvOk P Γ) {g : Nat} (hg : Callable P g) : SpecOk P g (borrowR Γ g) := by
 refine ⟨hg, fun args m v mm hS => ?_⟩
 unfold borrowR at hS
 split at hS
 ·rename_i h
  obtain ⟨n, hn⟩ := h.choose_spec
  have e := Option.some.inj hS
  rw [e] at hn
  exact (borrow_ok hΓ (n := n) hg).2 args m v mm hn
 ·cases hS
theorem borrowR_of {Γ : Env} {g : Nat} {args ys : List AV} {m : Mem} {r : AV × Mem} (hy : byVals m.heap args = some ys)
  (h : WF Γ (.func g [] []) ys ⟨[], []⟩ fun y m' => ∃ new y', takeBlks m'.heap (uniq (refs y) []) = some new ∧ renV m'.heap (uniq (refs y) []) m.heap.length y = some y' ∧ r = (y', ⟨m.heap ++ new, m.loops⟩)) : borrowR Γ g args m = some r := by
 obtain ⟨n, y, m', h1, new, y', h2, h3, rfl⟩ := h.ex
 have hn : borrow Γ n g args m = some (y', ⟨m.heap ++ new, m.loops⟩) := by
  unfold borrow
  rw [hy]
  simp only [h1, alone, h2, h3]
 have hex : ∃ r, ∃ n, borrow Γ n g args m = some r := ⟨_, n, hn⟩
 unfold borrowR
 rw [dif_pos hex]
 obtain ⟨k, hk⟩ := hex.choose_spec
 have a1 := borrow_mono (Nat.le_max_left n k) hn
 have a2 := borrow_mono (Nat.le_max_right n k) hk
 rw [a1] at a2
 exact a2.symm
end Go.Zz


namespace Go.Zz
theorem all2_cons {α β : Type} {R : α → β → Prop} {k : α} {ks : List α} {l : List β} (h : All2 R (k :: ks) l) : ∃ a r, l = a :: r ∧ R k a ∧ All2 R ks r := by
 cases l with
 | nil => exact h.elim
 | cons a r => exact ⟨a, r, rfl, h.1, h.2⟩
theorem all2_nil {α β : Type} {R : α → β → Prop} {l : List β} (h : All2 R [] l) : l = [] := by
 cases l with
 | nil => rfl
 | cons a r => exact h.elim
theorem flat_chunks {α : Type} {k : Nat} : ∀ (n : Nat) (l : List α), l.length = n * k → ((List.range n).map fun i => (l.drop (i * k)).take k).flatten = l
 | 0, l, h => by
  have : l = [] := List.length_eq_zero_iff.1 (by simpa using h)
  simp [this]
 | n + 1, l, h => by
  rw [List.range_succ_eq_map, List.map_cons, List.map_map, List.flatten_cons]
  have ih := flat_chunks (k := k) n (l.drop k) (by rw [List.length_drop, h, Nat.add_mul, Nat.one_mul]; omega)
  have e : (List.range n).map ((fun i => (l.drop (i * k)).take k) ∘ Nat.succ) = (List.range n).map fun i => ((l.drop k).drop (i * k)).take k := by
   apply List.map_congr_left
   intro i _
   simp only [Function.comp, List.drop_drop, Nat.succ_mul, Nat.add_comm]
  rw [e, ih]
  simp
theorem ca_recs {fk : List FK} {x : AV} (h : CA (.slice fk) x) (hk : 0 < fk.length) : ∃ cs, SL fk.length x cs ∧ cs.length ≤ maxLen ∧ ∀ c ∈ cs, All2 FA fk c := by
 rcases h with rfl | ⟨full, len, l, rfl, hl, hlen, he⟩
 ·exact ⟨[], ⟨fun c hc => by simp at hc, .inl ⟨rfl, rfl⟩⟩, by simp, fun c hc => by simp at hc⟩
 ·have hck : ∀ i, i < len → ((l.drop (i * fk.length)).take fk.length).length = fk.length := fun i hi => by
   rw [List.length_take, List.length_drop, hlen]
   have : (i + 1) * fk.length ≤ len * fk.length := Nat.mul_le_mul_right _ hi
   rw [Nat.succ_mul] at this
   omega
  refine ⟨(List.range len).map fun i => (l.drop (i * fk.length)).take fk.length, ⟨fun c hc => ?_, .inr ⟨full, ?_⟩⟩, by simpa using hl, fun c hc => ?_⟩
  ·obtain ⟨i, hi, rfl⟩ := List.mem_map.1 hc
   exact hck i (List.mem_range.1 hi)
  ·rw [flat_chunks len l hlen]
   simp
  ·obtain ⟨i, hi, rfl⟩ := List.mem_map.1 hc
   have hi' := List.mem_range.1 hi
   have key : ∀ (a : List FK) (b : List AV), a.length = b.length → (∀ j, j < a.length → ∃ f, a[j]? = some f ∧ FA f (gt b j)) → All2 FA a b := by
    intro a
    induction a with
    | nil => intro b h _; cases b with
     | nil => trivial
     | cons _ _ => simp at h
    | cons f a ih =>
     intro b h hj
     cases b with
     | nil => simp at h
     | cons y b =>
      obtain ⟨f', h1, h2⟩ := hj 0 (by simp)
      simp at h1
      subst h1
      exact ⟨h2, ih b (by simpa using h) fun j hlt => by
       obtain ⟨f', h1, h2⟩ := hj (j + 1) (by simpa using hlt)
       exact ⟨f', by simpa using h1, h2⟩⟩
   refine key fk _ (hck i hi').symm fun j hj => ?_
   have hb : i * fk.length + j < l.length := by
    rw [hlen]
    have : (i + 1) * fk.length ≤ len * fk.length := Nat.mul_le_mul_right _ hi'
    rw [Nat.succ_mul] at this
    omega
   obtain ⟨f, h1, h2⟩ := he (i * fk.length + j) hb
   rw [Nat.mul_comm, Nat.mul_add_mod, Nat.mod_eq_of_lt hj] at h1
   refine ⟨f, h1, ?_⟩
   have e : gt ((l.drop (i * fk.length)).take fk.length) j = gt l (i * fk.length + j) := by
    simp only [gt_eq, List.getD, List.getElem?_take, if_pos hj, List.getElem?_drop]
   rw [e]
   exact h2
theorem pa_one {k : CK} {x : AV} (h : PA (false, [k]) x) : CA k x := by
 unfold PA at h
 rw [if_neg (by simp)] at h
 obtain ⟨k', hk, h⟩ := h
 simp at hk
 subst hk
 exact h
theorem pa_agg {ks : List CK} {x : AV} (h : PA (true, ks) x) : ∃ l, x = .agg l ∧ All2 CA ks l := by
 unfold PA at h
 rwa [if_pos rfl] at h
end Go.Zz


namespace Go.Zz
open Go.ChangeShapes Go.WideShapes Go.RowKit
def CB (b : Nat) (v : Value) : Prop := ∀ a len cap, v = .slice (some a) len cap → cap * b ≤ reachBytes
def ckB (P : Program) : Nat → TypeId → Option (List Nat)
 | 0, _ => none
 | d + 1, t => match P.underlying t with
  | some (.slice e) => some [P.bytesOf e]
  | some (.struct fs) => (flatFs P (ckB P d) fs.toList 0).bind fun l => if l.length = P.cellsOf t then some l else none
  | _ => (flatOf P (d + 1) t).map fun l => l.map fun _ => 0
def BA (b : Nat) (x : AV) : Prop := ∀ n, slen x = some n → n * b ≤ reachBytes
def PB (bs : List Nat) (x : AV) : Prop :=
 match x with
 | .agg l => All2 BA bs l
 | x => ∃ b, bs = [b] ∧ BA b x
section
variable {H : Type} {enc : TypeId × Value → H} {P : Program} {w : World} {base : Nat} {sp : Nat → Bool} {held : Bool}
theorem weightsEach_mem : ∀ (ts : List TypeId) (ds : List (DataW H)) (i : Nat) (t : TypeId) (d : DataW H), ts[i]? = some t → ds[i]? = some d → ∀ n ∈ d.weights P t, n ∈ DataW.weightsEach P ts ds
 | [], _, i, t, d, h, _, _, _ => by simp at h
 | _ :: _, [], i, t, d, _, h, _, _ => by simp at h
 | t' :: ts, d' :: ds, i, t, d, h1, h2, n, hn => by
  unfold DataW.weightsEach
  cases i with
  | zero =>
   simp at h1 h2
   subst h1; subst h2
   exact List.mem_append_left _ hn
  | succ i => exact List.mem_append_right _ (weightsEach_mem ts ds i t d (by simpa using h1) (by simpa using h2) n hn)
theorem trod_cb (hsp : ∀ b, sp b = true) : ∀ (d : Nat) (t : TypeId) (bs : List Nat) (fuel : Nat) (cs : List Value) (x : DataW H × List MemPlace), ckB P d t = some bs → DataW.trod enc P w base sp held fuel t cs = some x →
  (∀ n ∈ x.1.weights P t, n ≤ reachBytes) → All2 CB bs cs
 | 0, _, _, _, _, _, h, _, _ => by cases h
 | d + 1, t, bs, fuel, cs, x, h, hx, hw => by
  unfold ckB at h
  split at h
  ·rename_i e hu
   cases h
   rcases DataW.trod_slice hu hx with ⟨rfl, rfl⟩ | ⟨a, len, cap, elems, rest, n, _, rfl, rfl, _, hlc, hcm, hel, hf, hr, _⟩
   ·exact ⟨fun a len cap h => by simp at h, trivial⟩
   ·refine ⟨fun a' len' cap' h => ?_, trivial⟩
    simp only [Value.slice.injEq, Option.some.injEq] at h
    obtain ⟨rfl, rfl, rfl⟩ := h
    have h1 := (hr (hsp _)).1
    simp only [DataW.weights, hu] at hw
    have h2 := hw _ (List.mem_cons_self ..)
    simp only [List.length_map] at h2
    have e : elems.length + rest.length = cap := by omega
    rw [e] at h2
    exact h2
  ·rename_i fs hu
   simp only [Option.bind_eq_some_iff] at h
   obtain ⟨l, hl, h⟩ := h
   split at h
   ·rename_i hlen
    cases h
    obtain ⟨xs, n, _, rfl, hcs, hxs, hf⟩ := DataW.trod_struct hu hx
    simp only [DataW.weights, hu] at hw
    have := fields_all (R := CB) (cs := cs) fs.toList 0 bs hl (by omega) fun f hfm a ha => by
     obtain ⟨i, hi, hfi⟩ := List.getElem_of_mem hfm
     have h1 := hf i f (by simp at hi; simp [← hfi, hi])
     have hxi : i < xs.length := by rw [hxs]; simpa using hi
     rw [List.getElem?_eq_getElem hxi] at h1
     refine trod_cb hsp d f.type a n _ _ ha h1 fun m hm => hw m (weightsEach_mem _ _ i f.type xs[i].1 ?_ (by simp [hxi]) m hm)
     rw [List.getElem?_map, List.getElem?_eq_getElem hi, hfi]
     rfl
    rw [hlen, ← hcs] at this
    simpa using this
   ·cases h
  ·simp only [Option.map_eq_some_iff] at h
   obtain ⟨l, hl, rfl⟩ := h
   exact (trod_flat (d + 1) t l fuel cs x hl hx).map_left (R' := CB) (f := fun _ => 0) fun a b h => fun _ _ _ _ => by simp
theorem rv_ba [Globs] {M : Mp} {x : AV} {v : Value} {b : Nat} (h : RV M x v) (hc : CB b v) : BA b x := by
 intro n hn
 cases h <;> simp only [slen, Option.some.injEq, reduceCtorEq] at hn
 ·subst hn; simp
 ·subst hn
  rename_i hle _ _ _ _
  exact Nat.le_trans (Nat.mul_le_mul_right _ hle) (hc _ _ _ rfl)
 ·subst hn
  rename_i hle _ _ _
  exact Nat.le_trans (Nat.mul_le_mul_right _ hle) (hc _ _ _ rfl)
theorem rvs_ba [Globs] {M : Mp} : ∀ {bs : List Nat} {l : List AV} {c : List Value}, l.length = c.length → (∀ i, RV M (gt l i) (ag c.toArray i)) → All2 CB bs c → All2 BA bs l
 | [], [], [], _, _, _ => trivial
 | b :: bs, x :: l, v :: c, hl, h, hc => by
  refine ⟨rv_ba (by simpa [gt, ag] using h 0) hc.1, rvs_ba (by simpa using hl) (fun i => by simpa [gt, ag] using h (i + 1)) hc.2⟩
 | [], _, _ :: _, _, _, hc => hc.elim
 | [], _ :: _, [], hl, _, _ => by simp at hl
 | _ :: _, _, [], _, _, hc => hc.elim
 | _ :: _, [], _ :: _, hl, _, _ => by simp at hl
theorem rv_pb [Globs] {M : Mp} {x : AV} {v : Value} {bs : List Nat} (h : RV M x v) (hc : All2 CB bs v.cells.toList) : PB bs x := by
 have h' := h
 cases h
 case agg l c hl h h1 => exact rvs_ba (c := c.toList) (by rw [Array.length_toList]; exact hl) (by simpa using h) (by simpa [Value.cells] using hc)
 all_goals
  match bs, hc with
  | [b], hc => exact ⟨b, rfl, rv_ba h' hc.1⟩
theorem args_pb [Globs] {W : World} {M : Mp} : ∀ {ts : List TypeId} {vs : List Value} {ds : List (DataW H)} {p : List MemPlace} {pbs : List (List Nat)} {avs : List AV}, DataW.TrodAll enc P W 0 (fun _ => true) true ts vs ds p →
  (∀ n ∈ DataW.weightsEach P ts ds, n ≤ reachBytes) → ts.mapM (ckB P 20) = some pbs → avs.length = vs.length → (∀ i, RV M (gt avs i) (ag vs.toArray i)) → All2 PB pbs avs
 | [], vs, ds, p, pbs, avs, h, _, hp, hl, _ => by
  obtain ⟨rfl, rfl, rfl⟩ := trodAll_nil h
  simp at hp
  subst hp
  have : avs = [] := List.length_eq_zero_iff.1 (by simpa using hl)
  subst this
  trivial
 | t :: ts, vs, ds, p, pbs, avs, h, hw, hp, hl, hr => by
  obtain ⟨v, vs1, d, ds1, p1, p2, rfl, rfl, rfl, h1, h2⟩ := trodAll_cons h
  simp only [List.mapM_cons, Option.bind_eq_bind, Option.bind_eq_some_iff, Option.pure_def, Option.some.injEq] at hp
  obtain ⟨bs, g1, pbs', g2, rfl⟩ := hp
  cases avs with
  | nil => simp at hl
  | cons x avs =>
   obtain ⟨fuel, h1⟩ := h1
   have hc := trod_cb (fun _ => rfl) 20 t bs fuel _ _ g1 h1 fun n hn => hw n (by unfold DataW.weightsEach; exact List.mem_append_left _ hn)
   exact ⟨rv_pb (by simpa [gt, ag] using hr 0) hc, args_pb h2 (fun n hn => hw n (by unfold DataW.weightsEach; exact List.mem_append_right _ hn)) g2 (by simpa using hl) (fun i => by simpa [gt, ag] using hr (i + 1))⟩
theorem law_contract2 [Globs] {Γ : Env} (hΓ : EnvOk P Γ) {fid : Nat} {f : Func} {s : ChangeSpec} {pks : List (Bool × List CK)} {pbs : List (List Nat)} (hp : f.params.toList.mapM (paramK P) = some pks) (hpb : f.params.toList.mapM (ckB P 20) = some pbs)
  (hl : laidOutB P = true) (hr : (f.params.toList.all fun t => P.readableRec t && decide (t < P.types.size)) = true) (hvars : s.vars = []) (hfn : ∀ (H : Type) (ds : List (DataW H)), ds.length = f.params.toList.length → s.fn H ds = { results := [.lit (.bool true)], args := ds })
  {tb : TypeId} (hres : f.resultTypes = #[tb]) (hb : P.underlying tb = some .bool)
  {W : World} {base : Nat} {args : Array Value} {ds gs : List (DataW H)} {before : List MemPlace} (hval : ∀ (j : Nat) t v, f.params[j]? = some t → args[j]? = some v → Value.okWide P W .any base t v)
  (hW : DataW.Whole enc P f.params.toList s.vars false W args.toList ds gs before) (hG : GlobW W)
  (hwt : (DataW.weightsEach P (f.params.toList ++ s.plain.varTypes P) (ds ++ gs)).all (· ≤ reachBytes) = true)
  (hlaw : ∀ avs, All2 PA pks avs → All2 PB pbs avs → ∃ n m', evF Γ n (.func fid [] []) avs ⟨[], []⟩ = some (.bool true, m')) :
  Calls P fid args W fun e W' => ∃ v, e = .returned v ∧ s.post enc P f false true false false W args v W' := by
 have hW' := hW
 obtain ⟨p, q, hA, hV, hpq, hfz, hnd⟩ := hW
 rw [hvars] at hV
 obtain ⟨rfl, rfl⟩ := trodVars_none hV
 obtain ⟨avs, x1, x2, x3⟩ := args_rv (hG := hG) hA (fun j t v a b => hval j t v (by simpa using a) (by simpa using b)) hp
 have x1' : RVs (mp0 W hG) avs args := by simpa using x1
 have hpbs : All2 PB pbs avs := by
  refine args_pb hA (fun n hn => ?_) hpb (by simpa using x1'.len) (fun i => by simpa using x1'.rel i)
  have hv0 : s.plain.varTypes P = [] := by
   have : s.plain.vars = [] := hvars
   simp [DataSpec.varTypes, this]
  rw [hv0, List.append_nil, List.append_nil] at hwt
  simpa using List.all_eq_true.1 hwt n hn
 obtain ⟨n, m', hev⟩ := hlaw avs x2 hpbs
 have ans := sound hΓ n _ _ _ _ _ hev 0 (mp0 W hG) W (.func (.func fid) #[] #[]) args (.func fid [] [] #[] #[] rfl rfl (fun i => by simp [gt, ag]; exact .tup0) (fun i => by simp [gt, ag]; exact .tup0)) x1' (holds0 W hG) (fresh0 W hG)
 cases ans with
 | func _ _ _ hcl hcall =>
  have earr : (#[] ++ args ++ #[] : Array Value) = args := by simp
  rw [earr] at hcall
  refine (callsIn_wide.1 (show CallsIn Fence.wide 0 P fid args W _ from hcall)).mono fun e W' he => ?_
  obtain ⟨v, rfl, M', g1, g2, g3⟩ := he
  cases g1
  have hkeep : ∀ b, b < W.heap.size → W'.heap[b]? = W.heap[b]? := fun b hb => g3.keep b hb (fun id bl lc h => by simp at h) (fun k r h => by simp at h)
  have hkb : W.keptBut W' (fun x => x ∈ before) := by
   refine ⟨g3.os, g3.output, fun i hi => ?_⟩
   rw [hkeep i hi]
   split
   ·rename_i h1 h2
    rw [h1] at h2
    cases h2
    exact ⟨rfl, rfl, rfl, fun _ _ => rfl⟩
   ·rename_i h1 h2
    rw [h1] at h2
    cases h2
    exact .inr ⟨rfl, rfl⟩
   ·rfl
  have hlt : ∀ x ∈ before, x.block < W.heap.size := fun x hx => hW'.lt x hx
  have hsame : ∀ x ∈ p, W.sameAt W' x := by
   intro x hx
   have := hkeep x.block (hlt x (by rw [hpq]; simp [hx]))
   cases x with
   | cell b off => exact World.cell?_of_block this
   | map b => exact this
  have hfn' := hfn H (ds ++ []) (by simpa using x3)
  refine ⟨_, rfl, post_of_same (pa := p) (pv := []) hW' (fun b sp hd => ?_) (fun sp hsp => ?_) (fun sp _ => ?_) hpq hkb g3.froz (ok_one hres rfl (okWide_bool_mk hb _))⟩
  ·rw [hfn', hres]
   exact trodAll_cons_mk (shut_bool hb _) trodAll_mk0
  ·rw [hfn']
   simp only [List.append_nil]
   refine trodAll_stays hl (fun t ht => ?_) hA hsame (fun x hx => hsp x (by rw [hpq]; simp [hx]))
   have := List.all_eq_true.1 hr t ht
   simpa using this
  ·rw [hfn', hvars]
   rfl
theorem handed_reach {a : Assume} {C : Checked} {os : Os} {f : FuncId} {fn : Func} {s : ChangeSpec} {conds : List PathCond} {apart fresh handsOn again : Bool}
  (own : ownKnob C.prog.godebug = none) (started : os.Started) (noInit : C.prog.inits.idxOf? f = none) (hfn : C.prog.funcs[f]? = some fn)
  (witness : ∃ (w : World) (tape : Tape) (i : Input), w.os = os ∧ (w.forCall tape i).Shaped C.prog ∧ i.vars = [] ∧ Input.okWide C.prog (w.forCall tape i) .any w.heap.size f i ∧
   s.pre6 enc C.prog fn conds apart (w.forCall tape i).memory i.args ∧ a.holds C.prog (lone (Frame.enter C.prog f i.args .normal) [] (w.forCall tape i)))
  (contract : ∀ (W : World) (base : Nat) (args : Array Value) (ds gs : List (DataW H)) (before : List MemPlace),
   (∀ (j : Nat) t v, fn.params[j]? = some t → args[j]? = some v → Value.okWide C.prog W .any base t v) →
   DataW.Whole enc C.prog fn.params.toList s.vars apart W args.toList ds gs before →
   (DataW.weightsEach C.prog (fn.params.toList ++ s.plain.varTypes C.prog) (ds ++ gs)).all (· ≤ reachBytes) = true →
   Calls C.prog f args W fun e W' => ∃ v, e = .returned v ∧ s.post enc C.prog fn apart fresh handsOn again W args v W') :
  ReturnsInHanded a C os f .any (s.pre6 enc C.prog fn conds apart) (s.post enc C.prog fn apart fresh handsOn again) := by
 have h := returnsInHanded_of_change_and (a := a) (C := C) (os := os) (f := f) (fn := fn) (s := s) (conds := conds) (apart := apart) (fresh := fresh) (handsOn := handsOn) (again := again) (enc := enc) (X := fun _ _ => True)
  (fun _ _ _ _ h => h) own started noInit hfn (by
   obtain ⟨w, tape, i, h1, h2, h3, h4, h5, h6⟩ := witness
   exact ⟨w, tape, i, h1, h2, h3, h4, ⟨⟨h5.1, trivial⟩, h5.2⟩, h6⟩)
  (fun W base args ds gs before hval hW _ hwt _ _ => contract W base args ds gs before hval hW hwt)
 have e : (fun (w : World) (args : Array Value) => (s.pre enc C.prog fn conds apart w args ∧ True) ∧ sizedMet enc C.prog fn (OpenSpec.ofChange s) apart w args) = s.pre6 enc C.prog fn conds apart := by
  funext w args
  simp [ChangeSpec.pre6]
 rwa [e] at h
end
theorem pb_sl {k : Nat} {x : AV} {cs : List (List AV)} {b : Nat} (h : SL k x cs) (hp : PB [b] x) : cs.length * b ≤ reachBytes := by
 obtain ⟨_, ⟨rfl, rfl⟩ | ⟨f, rfl⟩⟩ := h
 ·simp
 ·obtain ⟨b', h1, h2⟩ := hp
  simp only [List.cons.injEq, and_true] at h1
  subst h1
  exact h2 _ rfl
end Go.Zz


namespace Go.Zz
end Go.Zz


namespace Go.Zz
open Go
def scalar : AV → Bool
 | .int _ _ => true
 | .bool _ => true
 | _ => false
def blankL (L : List (Option ALoop)) : List (Option ALoop) := L.map fun _ => none
theorem blanks_none {H : Hp} {id : Nat} {b : Blk} : (blanks H)[id]? ≠ some (some b) := by
 intro h
 unfold blanks at h
 rw [List.getElem?_map] at h
 cases e : H[id]? <;> rw [e] at h <;> simp at h
theorem blankL_none {L : List (Option ALoop)} {k : Nat} {r : ALoop} : (blankL L)[k]? ≠ some (some r) := by
 intro h
 unfold blankL at h
 rw [List.getElem?_map] at h
 cases e : L[k]? <;> rw [e] at h <;> simp at h
theorem holdsBlank [Globs] {P : Program} {M : Mp} {H : Hp} {L : List (Option ALoop)} {w : World} (h : Holds P M H L w) : Holds P M (blanks H) (blankL L) w :=
 ⟨h.imm, fun id b h => (blanks_none h).elim, fun id b lc h => (blanks_none h).elim, fun id id' b b' lc lc' h => (blanks_none h).elim, fun id b g h => (blanks_none h).elim, fun k r h => (blankL_none h).elim, fun k k' r r' l h => (blankL_none h).elim⟩
theorem freshBlank [Globs] {M : Mp} {H : Hp} {L : List (Option ALoop)} (h : Fresh M H L) : Fresh M (blanks H) (blankL L) :=
 ⟨fun id g hi => h.loc id g (by simpa [blanks] using hi), fun k hk => h.lp k (by simpa [blankL] using hk)⟩
def borrowP (Γ : Env) (n g : Nat) (args : List AV) (m : Mem) : Option (AV × Mem) :=
 match evF Γ n (.func g [] []) args ⟨blanks m.heap, blankL m.loops⟩ with
 | some (y, _) => if scalar y then some (y, m) else none
 | none => none
theorem borrowP_ok [Globs] {P : Program} {Γ : Env} (hΓ : EnvOk P Γ) {n g : Nat} (hg : Callable P g) : SpecOk P g (borrowP Γ n g) := by
 refine ⟨hg, fun args m v mm hS N M w cargs ha h hf => ?_⟩
 unfold borrowP at hS
 split at hS
 ·rename_i y m' hev
  split at hS
  ·rename_i hsc
   simp only [Option.some.injEq, Prod.mk.injEq] at hS
   obtain ⟨rfl, rfl⟩ := hS
   have ans := sound hΓ n _ _ _ _ _ hev N M w (.func (.func g) #[] #[]) cargs (.func g [] [] #[] #[] rfl rfl (fun i => by simp [gt, ag]; exact .tup0) (fun i => by simp [gt, ag]; exact .tup0)) ha (holdsBlank h) (freshBlank hf)
   cases ans with
   | func _ _ _ hcl hcall =>
    have earr : (#[] ++ cargs ++ #[] : Array Value) = cargs := by simp
    rw [earr] at hcall
    refine hcall.mono fun e w' he => ?_
    obtain ⟨cv, rfl, M1, g1, g2, g3⟩ := he
    have hkeep : ∀ b, b < w.heap.size → w'.heap[b]? = w.heap[b]? := fun b hb => g3.keep b hb (fun id bl lc h => (blanks_none h).elim) (fun k r h => (blankL_none h).elim)
    have hsz := g3.size
    have hle : M.le M := Mp.le.refl M
    have hrv : RV M y cv := by
     cases g1 <;> first | exact .int _ _ | exact .bool _ | (exact absurd hsc (by simp [scalar]))
    refine ⟨cv, rfl, M, hrv, ⟨?_, ?_, h.sep, h.inj, h.gen, ?_, h.lpi⟩, ?_⟩
    ·intro b o u hu
     have := h.imm b o u hu
     rw [World.cell?_of_block (w := w) (hkeep b (cell_lt this))]
     exact this
    ·intro id b hb
     obtain ⟨lc, hB⟩ := h.blk id b hb
     exact ⟨lc, hB.kept hle (hkeep _ hB.lt) hsz⟩
    ·intro k q hq
     obtain ⟨l, h1, h2⟩ := h.lp k q hq
     exact ⟨l, h1, h2.kept hle (hkeep l h2.lt)⟩
    ·exact ⟨g3.os, g3.output, hsz, g3.froz, fun b hb _ _ => hkeep b hb, fun id bl lc h1 h2 _ => ⟨bl, lc, h1, h2, rfl⟩, fun k r l h1 h2 _ => ⟨r, h1, h2⟩, Nat.le_refl _, Nat.le_refl _, hle,
      (fun id gg lc h1 h0 => by rw [h0] at h1; cases h1), fun id b hb => ⟨b, hb⟩, (fun b o hb => rfl),
      (fun k l h1 h0 => by rw [h0] at h1; cases h1), fun l q hq => ⟨q, (hkeep l (Array.getElem?_eq_some_iff.1 hq).1).trans hq⟩⟩
  ·cases hS
 ·cases hS
open Classical in
noncomputable def borrowQ (Γ : Env) (g : Nat) (args : List AV) (m : Mem) : Option (AV × Mem) :=
 if h : ∃ r, ∃ n, borrowP Γ n g args m = some r then some h.choose else none
theorem borrowQ_ok [Globs] {P : Program} {Γ : Env} (hΓ : EnvOk P Γ) {g : Nat} (hg : Callable P g) : SpecOk P g (borrowQ Γ g) := by
 refine ⟨hg, fun args m v mm hS => ?_⟩
 unfold borrowQ at hS
 split at hS
 ·rename_i h
  obtain ⟨n, hn⟩ := h.choose_spec
  have e := Option.some.inj hS
  rw [e] at hn
  exact (borrowP_ok hΓ (n := n) hg).2 args m v mm hn
 ·cases hS
theorem borrowP_mono {Γ : Env} {n k g : Nat} (hk : n ≤ k) {args : List AV} {m : Mem} {r : AV × Mem} (h : borrowP Γ n g args m = some r) : borrowP Γ k g args m = some r := by
 unfold borrowP at h ⊢
 cases he : evF Γ n (.func g [] []) args ⟨blanks m.heap, blankL m.loops⟩ with
 | none => rw [he] at h; simp at h
 | some q =>
  rw [he] at h
  have := (mono_le Γ hk).2 _ _ _ _ he
  simp only at this
  rw [this]
  exact h
theorem borrowQ_of {Γ : Env} {g : Nat} {args : List AV} {m : Mem} {v : AV} (hv : scalar v = true) (h : ∀ H L, WF Γ (.func g [] []) args ⟨H, L⟩ fun y m' => y = v) : borrowQ Γ g args m = some (v, m) := by
 obtain ⟨n, y, m', h1, rfl⟩ := (h (blanks m.heap) (blankL m.loops)).ex
 have hn : borrowP Γ n g args m = some (y, m) := by
  unfold borrowP
  simp only [h1, hv, if_true]
 have hex : ∃ r, ∃ n, borrowP Γ n g args m = some r := ⟨_, n, hn⟩
 unfold borrowQ
 rw [dif_pos hex]
 obtain ⟨k, hk⟩ := hex.choose_spec
 have a1 := borrowP_mono (Nat.le_max_left n k) hn
 have a2 := borrowP_mono (Nat.le_max_right n k) hk
 rw [a1] at a2
 exact a2.symm
end Go.Zz


namespace Go.Zz
theorem WT.callR {Γ : Env} {rd : List DOper} {ms : List Nat} {tch : List Tch} {T : List AV} {H : Hp} {L : List (Option ALoop)} {Q : St → Prop} {d : Nat} {f : Opd} {args : List Opd} {fv : AV} {as : List AV} (P : AV → Hp → Prop) (js : List Nat)
  (hf : f.ev T = fv) (ha : args.map (·.ev T) = as) (hj : ∀ j ∈ js, apartT tch ms (.blk j))
  (h : ∀ V : Hp, V.length = H.length → (∀ j ∈ js, V[j]? = H[j]?) → WF Γ fv as ⟨V, L⟩ fun y m' => m'.loops = L ∧ ∃ R, m'.heap = V ++ R ∧ P y R)
  (k : ∀ v R, P v R → WT Γ rd ⟨pt T d v, H ++ R, L⟩ (tch ++ [.all]) Q) : WT Γ (⟨⟨none, some d, .call f args⟩, ms⟩ :: rd) ⟨T, H, L⟩ tch Q := by
 refine ⟨fun seen hs => ?_⟩
 have hp := PartL.strikes hs.le ms (PartL.refl H)
 refine WD.call rfl ?_
 rw [hf, ha]
 refine (h _ hp.len fun j hjm => strikes_get hs.le ms rfl fun i hi e he => ?_).mono ?_
 ·have hl : i < tch.length := by rw [← hs.len]; exact (List.getElem?_eq_some_iff.1 he).1
  exact hs.away i e _ he (List.getElem?_eq_getElem hl) j (hj j hjm i hi _ (List.getElem?_eq_getElem hl))
 ·rintro y ⟨H', L2⟩ ⟨rfl, R, rfl, hP⟩
  refine ⟨dead_app _ _, ?_⟩
  simp only [St.put, hp.backApp]
  refine (k y R hP).run _ (hs.app (by simp) (by simp [hp.len]) fun j hj => hj.elim)
def Grew (H H' : Hp) : Prop := H.length ≤ H'.length ∧ ∀ b, b < H.length → (H'[b]? = H[b]? ∨ ∃ x : Blk, H[b]? = some (some x))
end Go.Zz


namespace Go.Zz
end Go.Zz


namespace Go.Zz
section
variable {Γ : Env} {rd : List DOper} {ms : List Nat} {tch : List Tch} {T T' : List AV} {H : Hp} {L : List (Option ALoop)}
theorem WT.sliceArr {Q : St → Prop} {d n sz id g off : Nat} {x : Opd} {lo hi mx : Option Opd} {v : AV} (hx : x.ev T = .pref id g off)
  (hv : sliceArrAV H n sz (.pref id g off) (lo.map (·.ev T)) (hi.map (·.ev T)) (mx.map (·.ev T)) = some v) (hm : apartT tch ms (.blk id))
  (ht : pt T d v = T') (k : WT Γ rd ⟨T', H, L⟩ (tch ++ [.blk id]) Q) : WT Γ (⟨⟨none, some d, .sliceArr n sz x lo hi mx⟩, ms⟩ :: rd) ⟨T, H, L⟩ tch Q := by
 refine ⟨fun seen hs => ?_⟩
 have hp := PartL.strikes hs.le ms (PartL.refl H)
 have hlim : limit T (.sliceArr n sz x lo hi mx) (strikes H seen ms) = onlyAt H id := by
  simp only [limit, hx]
  refine onlyAt_congr hp.len (strikes_get (n := H.length) hs.le ms rfl fun i hi e he => ?_)
  have hl := hs.len
  have hil := (List.getElem?_eq_some_iff.1 he).1
  obtain ⟨t', ht'⟩ : ∃ t', tch[i]? = some t' := ⟨tch[i], List.getElem?_eq_getElem (by omega)⟩
  exact hs.away i e t' he ht' id (hm i hi t' ht')
 refine WD.bigG (L' := L) rfl hlim (v := v) (fun call => ?_) (dead_self _) (back_only H id) rfl ?_
 ·rw [ev_sliceArr, hx]
  have e : sliceArrAV (onlyAt H id) n sz (.pref id g off) (lo.map (·.ev T)) (hi.map (·.ev T)) (mx.map (·.ev T)) = some v := by
   rw [← hv]
   simp only [sliceArrAV, look_onlyAt]
  rw [e]
  rfl
 ·simp only [St.put, ht]
  refine k.run _ (hs.app (Nat.le_refl _) (by simp [onlyAt_len]) fun j hj => ⟨?_, ?_⟩)
  ·rw [onlyAt_get H id j hj]
   split
   ·exact .inl rfl
   ·exact .inr rfl
  ·simp only [onlyAt_len]
   omega
end
end Go.Zz

