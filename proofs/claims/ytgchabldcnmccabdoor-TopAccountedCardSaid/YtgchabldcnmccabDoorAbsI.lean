import Derived.Test.YtgchabldcnmccabDoorAbsH
import Derived.Handed
import Derived.JoinedOf

set_option linter.unusedSimpArgs false
set_option linter.unusedVariables false

namespace Go.Zz
theorem PartL.backSet {S H : Hp} (h : PartL S H) : ∀ {id : Nat} {b b0 : Blk}, S[id]? = some (some b0) -> Zz.back H S (S.set id (some b)) = H.set id (some b) := by
 induction h with
 | nil => intro id b b0 hs; simp at hs
 | none h k ih =>
  intro id b b0 hs
  cases id with
  | zero => simp at hs
  | succ id => simp only [List.set_cons_succ, Zz.back]; rw [ih (by simpa using hs)]
 | same h k ih =>
  intro id b b0 hs
  cases id with
  | zero =>
   simp at hs;subst hs;simp only [List.set_cons_zero, Zz.back]
   rw [k.back]
  | succ id =>
   cases h <;> (simp only [List.set_cons_succ, Zz.back]; rw [ih (by simpa using hs)])
theorem zeU : ∀ {S : Hp} {id : Nat} {b b0 : Blk}, S[id]? = some (some b0) -> zak S (S.set id (some b)) = true
 | [], _, _, _, h => by simp at h
 | s :: S, 0, b, b0, h => by
  simp at h;subst h
  simpa [zak] using zby S
 | none :: S, id + 1, b, b0, h => by simpa [zak] using zeU (S := S) (by simpa using h)
 | some _ :: S, id + 1, b, b0, h => by simpa [zak] using zeU (S := S) (by simpa using h)
def Seen (S H : Hp) (x : AV) : Prop := ∀ id g off z n c, x = .sref id g off z n c -> S[id]? = H[id]?
theorem zjQ {S H : Hp} {sz : Nat} {x : AV} (h : Seen S H x) : scells S sz x = scells H sz x := by
 cases x <;> first | rfl | skip
 rename_i id g off z n c;simp only [scells, zad (h id g off z n c rfl)]
theorem zfP {S H H' : Hp} {id g off : Nat} {xs : List AV} (hp : PartL S H) (hs : S[id]? = H[id]?) (h : storeAt H id g off xs = some H') : ∃ S', storeAt S id g off xs = some S' /\ zak S S' = true /\ Zz.back H S S' = H' := by
 unfold storeAt at h ⊢;simp only [Option.bind_eq_bind, Option.bind_eq_some_iff, Option.some.injEq] at h;obtain ⟨l, h3, l', h4, rfl⟩ := h;rw [zad hs];have hb := zaC.1 h3;rw [<- hs] at hb;exact ⟨_, by simp only [h3, h4, Option.bind_eq_bind, Option.bind_some]; rfl, zeU hb, hp.backSet hb⟩
theorem zg7 {S H H' : Hp} {L L' : List (Option ALoop)} {sz bytes : Nat} {s x v : AV} (hp : PartL S H) (hs : Seen S H s) (hx : Seen S H x) (h : zaH sz bytes ⟨H, L⟩ s x = some (v, ⟨H', L'⟩)) :
  L' = L /\ ∃ S', zaH sz bytes ⟨S, L⟩ s x = some (v, ⟨S', L⟩) /\ zak S S' = true /\ Zz.back H S S' = H' := by
 unfold zaH at h ⊢;simp only [zjQ hx, hp.len, Option.bind_eq_bind] at h ⊢
 cases hc : scells H sz x with
 | none => rw [hc] at h; cases h
 | some xs =>
  rw [hc] at h;simp only [Option.bind_some] at h ⊢
  cases hn : zcH x with
  | none => rw [hn] at h; cases h
  | some n =>
   rw [hn] at h;simp only [Option.bind_some] at h ⊢
   cases s with
   | snil =>
    simp only at h ⊢
    by_cases h0 : n = 0
    ·rw [if_pos h0] at h ⊢
     cases h
     exact ⟨rfl, _, rfl, zby _, hp.back⟩
    ·rw [if_neg h0] at h ⊢
     by_cases h1 : n * bytes <= 140737488355328 /\ n <= 140737488355328
     ·rw [if_pos h1] at h ⊢;simp only [zaM, Option.some.injEq, Prod.mk.injEq, Mem.mk.injEq] at h;obtain ⟨rfl, rfl, rfl⟩ := h;exact ⟨rfl, _, rfl, zcK _ _, hp.backApp _⟩
     ·rw [if_neg h1] at h; cases h
   | sval full len l =>
    simp only at h ⊢
    by_cases h0 : n = 0
    ·rw [if_pos h0] at h ⊢
     cases h
     exact ⟨rfl, _, rfl, zby _, hp.back⟩
    ·rw [if_neg h0] at h ⊢
     split at h
     ·rename_i h1;rw [if_pos h1];simp only [zaM, Option.some.injEq, Prod.mk.injEq, Mem.mk.injEq] at h;obtain ⟨rfl, rfl, rfl⟩ := h;exact ⟨rfl, _, rfl, zcK _ _, hp.backApp _⟩
     ·cases h
   | sref id g off z len cap =>
    have hid := hs id g off z len cap rfl;simp only [zad hid] at h ⊢
    by_cases hz : z = sz
    ·simp only [if_pos hz] at h ⊢
     cases hl : look H id g with
     | none => rw [hl] at h; cases h
     | some l =>
      have hb := zaC.1 hl;rw [<- hid] at hb;rw [hl] at h;simp only [Option.bind_some] at h ⊢
      cases hcut : cut l off (len * sz) with
      | none => rw [hcut] at h; cases h
      | some old =>
       rw [hcut] at h;simp only [Option.bind_some] at h ⊢
       cases cap with
       | some c =>
        simp only at h ⊢
        split at h
        ·rename_i h1;rw [if_pos h1];simp only [Option.bind_eq_some_iff, Option.some.injEq, Prod.mk.injEq, Mem.mk.injEq] at h;obtain ⟨H1, h2, rfl, rfl, rfl⟩ := h;obtain ⟨S', g1, g2, g3⟩ := zfP hp hid h2;exact ⟨rfl, S', by simp only [g1, Option.bind_some], g2, g3⟩
        ·rename_i h1;rw [if_neg h1]
         split at h
         ·rename_i h2;rw [if_pos h2];simp only [zaM, Option.some.injEq, Prod.mk.injEq, Mem.mk.injEq] at h;obtain ⟨rfl, rfl, rfl⟩ := h;exact ⟨rfl, _, rfl, zcK _ _, hp.backApp _⟩
         ·cases h
       | none =>
        simp only at h ⊢
        split at h
        ·rename_i h1;rw [if_pos h1];simp only [Option.bind_eq_some_iff, Option.some.injEq, Prod.mk.injEq, Mem.mk.injEq] at h;obtain ⟨H1, h2, rfl, rfl, rfl⟩ := h;obtain ⟨S', g1, g2, g3⟩ := zfP hp hid h2;exact ⟨rfl, S', by simp only [g1, Option.bind_some], g2, g3⟩
        ·rename_i h1;rw [if_neg h1]
         split at h
         ·rename_i h2;rw [if_pos h2];simp only [zat, Option.some.injEq, Prod.mk.injEq, Mem.mk.injEq] at h;obtain ⟨rfl, rfl, rfl⟩ := h;exact ⟨rfl, _, rfl, zeU hb, hp.backSet hb⟩
         ·cases h
    ·simp only [if_neg hz] at h; cases h
   | _ => cases h
theorem zlB {H H' : Hp} {L L' : List (Option ALoop)} {sz bytes : Nat} {s x v : AV} (h : zaH sz bytes ⟨H, L⟩ s x = some (v, ⟨H', L'⟩)) : H.length <= H'.length := by
 obtain ⟨_, S', h1, h2, h3⟩ := zg7 (PartL.refl H) (fun _ _ _ _ _ _ _ => rfl) (fun _ _ _ _ _ _ _ => rfl) h;have := zfd h2;rw [<- h3, zf2 rfl this];exact this
def zl3 : AV -> Tch
 | .sref id _ _ _ _ _ => .blk id
 | _ => .none
section
variable {Γ : Env} {rd : List DOper} {ms : List Nat} {tch : List Tch} {T T' : List AV} {H : Hp} {L : List (Option ALoop)}
theorem znb {seen : List (Hp × Nat × Nat)} {x : AV} (hs : Fits seen tch H.length) (ha : zbW tch ms (zl3 x)) : Seen (strikes H seen ms) H x := by
 intro id g off z n c e;subst e
 refine zbD (n := H.length) hs.le ms rfl fun i hi e he => ?_
 have hl := hs.len;have hil := (List.getElem?_eq_some_iff.1 he).1
 obtain ⟨t', ht'⟩ : ∃ t', tch[i]? = some t' := ⟨tch[i], List.getElem?_eq_getElem (by omega)⟩
 exact hs.away i e t' he ht' id (ha i hi t' ht')
theorem WT.append {Q : St -> Prop} {d sz bytes : Nat} {s x : Opd} {sv xv v : AV} {H' : Hp} {L' : List (Option ALoop)} (es : s.ev T = sv) (ex : x.ev T = xv) (h : zaH sz bytes ⟨H, L⟩ sv xv = some (v, ⟨H', L'⟩)) (ha : zbW tch ms (zl3 sv)) (hb : zbW tch ms (zl3 xv))
  (ht : pt T d v = T') (k : WT Γ rd ⟨T', H', L⟩ (tch ++ [.all]) Q) : WT Γ (⟨⟨none, some d, .append sz bytes s x⟩, ms⟩ :: rd) ⟨T, H, L⟩ tch Q := by
 refine ⟨fun seen hs => ?_⟩;have hp := PartL.strikes hs.le ms (PartL.refl H);obtain ⟨rfl, S', g1, g2, g3⟩ := zg7 hp (znb hs ha) (znb hs hb) h;have hle := zlB h
 have hl2 : S'.length = H'.length := by
  have := zfd g2;rw [hp.len] at this;have e := zf2 hp.len this;rw [g3] at e;exact e.symm
 refine WD.bigG (V := strikes H seen ms) rfl rfl (fun call => by rw [zbj, es, ex]; exact g1) g2 g3 rfl ?_;simp only [St.put, ht];exact k.run _ (hs.app (m := H'.length) hle (by simp only; omega) fun j hj => hj.elim)
end
end Go.Zz


namespace Go.Zz
def GS (sz : Nat) (H : Hp) (v : AV) (q : Nat) (c : List AV) : Prop :=
 (v = .snil /\ c = []) \/ (∃ g, v = .sref q g 0 sz 0 (some 0) /\ c = [] /\ look H q g = some []) \/ ∃ g n, v = .sref q g 0 sz n none /\ c.length = n * sz /\ 0 < n /\ look H q g = some c
theorem GS.len {sz : Nat} {H : Hp} {v : AV} {q : Nat} {c : List AV} (h : GS sz H v q c) (hs : 0 < sz) : zcH v = some (c.length / sz) := by
 rcases h with ⟨rfl, rfl⟩ | ⟨g, rfl, rfl, _⟩ | ⟨g, n, rfl, h1, _, _⟩
 ·simp [zcH]
 ·simp [zcH]
 ·rw [h1, Nat.mul_div_cancel _ hs]; rfl
theorem GS.more {sz : Nat} {H : Hp} {v : AV} {q : Nat} {c : List AV} (h : GS sz H v q c) (R : Hp) : GS sz (H ++ R) v q c := by
 rcases h with ⟨rfl, rfl⟩ | ⟨g, rfl, rfl, h1⟩ | ⟨g, n, rfl, h1, h2, h3⟩
 ·exact .inl ⟨rfl, rfl⟩
 ·exact .inr (.inl ⟨g, rfl, rfl, by rw [zap (zah h1)]; exact h1⟩)
 ·exact .inr (.inr ⟨g, n, rfl, h1, h2, by rw [zap (zah h3)]; exact h3⟩)
theorem GS.ref {sz : Nat} {H : Hp} {v : AV} {q : Nat} {c : List AV} (h : GS sz H v q c) (hc : c ≠ []) : ∃ g n, v = .sref q g 0 sz n none /\ c.length = n * sz /\ look H q g = some c /\ q < H.length := by
 rcases h with ⟨rfl, rfl⟩ | ⟨g, rfl, rfl, h1⟩ | ⟨g, n, rfl, h1, h2, h3⟩
 ·exact absurd rfl hc
 ·exact absurd rfl hc
 ·exact ⟨g, n, rfl, h1, h3, zah h3⟩
theorem GS.append {sz bytes n id : Nat} {H : Hp} {L : List (Option ALoop)} {v : AV} {q : Nat} {c vs : List AV} {cap : Option Nat} (h : GS sz H v q c) (hv : look H id 0 = some vs) (hl : vs.length = n * sz) (hn : 0 < n) (hsz : 0 < sz)
  (hb : (c.length / sz + n) * bytes <= 140737488355328 /\ c.length / sz + n <= 140737488355328) :
  ∃ v' q' H', zaH sz bytes ⟨H, L⟩ v (.sref id 0 0 sz n cap) = Option.some (v', ⟨H', L⟩) /\ GS sz H' v' q' (c ++ vs) /\ (q' = q \/ q' = H.length) /\ H.length <= H'.length /\ ∀ j, j < H.length -> j ≠ q -> H'[j]? = H[j]? := by
 have e : cut vs 0 (n * sz) = Option.some vs := by
  unfold cut;rw [if_pos (by omega), <- hl];simp
 rcases h with ⟨rfl, rfl⟩ | ⟨g, rfl, rfl, h1⟩ | ⟨g, k, rfl, h1, h2, h3⟩
 ·simp only [List.length_nil, Nat.zero_div, Nat.zero_add] at hb;refine ⟨_, H.length, _, append_nil hv hn hl hb, .inr (.inr ⟨0, n, rfl, by simpa using hl, hn, ?_⟩), .inr rfl, by simp, fun j hj _ => List.getElem?_append_left hj⟩;rw [List.nil_append];exact zaC.2 zjz
 ·simp only [List.length_nil, Nat.zero_div, Nat.zero_add] at hb
  have e2 : cut ([] : List AV) 0 (0 * sz) = Option.some [] := by simp [cut]
  refine ⟨.sref H.length 0 0 sz n none, H.length, H ++ [Option.some ⟨0, vs⟩], ?_, .inr (.inr ⟨0, n, rfl, by simpa using hl, hn, ?_⟩), .inr rfl, by simp, fun j hj _ => List.getElem?_append_left hj⟩
  ·have h0 : ¬ n <= 0 := by omega
   simp only [zaH, scells, if_true, hv, Option.bind_some, e, zcH, Option.bind_eq_bind, h1, e2, Nat.zero_add, if_neg h0, if_pos hb, zaM, List.nil_append]
  ·rw [List.nil_append];exact zaC.2 zjz
 ·rw [h1, Nat.mul_div_cancel _ hsz] at hb;have hq := zah h3;refine ⟨_, q, _, zku h3 hv hn hsz hl h1 hb, .inr (.inr ⟨g + 1, k + n, rfl, by rw [List.length_append, h1, hl, Nat.add_mul], by omega, zaJ hq⟩), .inl rfl, by simp, fun j hj hne => List.getElem?_set_ne (Ne.symm hne)⟩
structure Fam {α : Type} (f : α -> List AV) (A : α -> Hp) (q g N : Nat) : Prop where
 len : ∀ x, (A x).length = N
 look : ∀ x l, Zz.look (A x ++ l) q g = Option.some (f x)
 set : ∀ x y l, (A x ++ l).set q (Option.some ⟨g, f y⟩) = A y ++ l
theorem zf6 {H : Hp} {q g : Nat} {c : List AV} (h : look H q g = some c) : H.set q (Option.some ⟨g, c⟩) = H := by
 have := zaC.1 h;apply List.ext_getElem?;intro i
 by_cases hi : q = i
 ·subst hi;rw [this, List.getElem?_set_self (zah h)]
 ·rw [List.getElem?_set_ne hi]
end Go.Zz


namespace Go.Zz
theorem zo0 {l : List AV} {o : Nat} (h : o <= l.length) : over l o [] = some l := by
 unfold over;rw [if_pos (by simpa using h)];simp
theorem GS.appendX {sz bytes n : Nat} {H : Hp} {L : List (Option ALoop)} {v x : AV} {q : Nat} {c vs : List AV} (h : GS sz H v q c) (hx : scells H sz x = some vs) (hxl : zcH x = some n) (hl : vs.length = n * sz) (hsz : 0 < sz)
  (hb : (c.length / sz + n) * bytes <= 140737488355328 /\ c.length / sz + n <= 140737488355328) :
  ∃ v' q' H', zaH sz bytes ⟨H, L⟩ v x = some (v', ⟨H', L⟩) /\ GS sz H' v' q' (c ++ vs) /\ (q' = q \/ q' = H.length) /\ H.length <= H'.length /\ ∀ j, j < H.length -> j ≠ q -> H'[j]? = H[j]? := by
 by_cases hn : n = 0
 ·subst hn;have hvs : vs = [] := List.length_eq_zero_iff.1 (by simpa using hl);subst hvs;rw [List.append_nil];refine ⟨v, q, H, ?_, h, .inl rfl, Nat.le_refl _, fun j _ _ => rfl⟩
  rcases h with ⟨rfl, rfl⟩ | ⟨g, rfl, rfl, h1⟩ | ⟨g, k, rfl, h1, h2, h3⟩
  ·simp only [zaH, hx, hxl, Option.bind_eq_bind, Option.bind_some, if_true]
  ·have e2 : cut ([] : List AV) 0 (0 * sz) = some [] := by simp [cut]
   have e3 : storeAt H q g (0 + 0 * sz) [] = some H := by
    have e4 : over ([] : List AV) 0 [] = some [] := rfl;simp only [storeAt, h1, Option.bind_eq_bind, Option.bind_some, Nat.zero_mul, Nat.zero_add, e4, zat, zf6 h1]
   simp only [zaH, hx, hxl, Option.bind_eq_bind, Option.bind_some, if_true, h1, e2, Nat.add_zero, Nat.le_refl, e3]
  ·have e2 : cut c 0 (k * sz) = some c := by
    unfold cut;rw [if_pos (by omega), <- h1];simp
   have e3 : storeAt H q g (0 + k * sz) [] = some H := by
    simp only [storeAt, h3, Option.bind_eq_bind, Option.bind_some, Nat.zero_add, zo0 (Nat.le_of_eq h1.symm), zat, zf6 h3]
   have e4 : 0 + k * sz <= c.length := by rw [h1]; omega
   simp only [zaH, hx, hxl, Option.bind_eq_bind, Option.bind_some, if_true, h3, e2, Nat.add_zero, if_pos e4, e3]
 ·have hn' : 0 < n := Nat.pos_of_ne_zero hn
  rcases h with ⟨rfl, rfl⟩ | ⟨g, rfl, rfl, h1⟩ | ⟨g, k, rfl, h1, h2, h3⟩
  ·simp only [List.length_nil, Nat.zero_div, Nat.zero_add] at hb;refine ⟨.sref H.length 0 0 sz n none, H.length, H ++ [some ⟨0, vs⟩], ?_, .inr (.inr ⟨0, n, rfl, by simpa using hl, hn', ?_⟩), .inr rfl, by simp, fun j hj _ => List.getElem?_append_left hj⟩
   ·simp only [zaH, hx, hxl, Option.bind_eq_bind, Option.bind_some, if_neg hn, if_pos hb, zaM]
   ·rw [List.nil_append]; exact zaC.2 zjz
  ·simp only [List.length_nil, Nat.zero_div, Nat.zero_add] at hb
   have e2 : cut ([] : List AV) 0 (0 * sz) = some [] := by simp [cut]
   have h0 : ¬ n <= 0 := by omega
   refine ⟨.sref H.length 0 0 sz n none, H.length, H ++ [some ⟨0, vs⟩], ?_, .inr (.inr ⟨0, n, rfl, by simpa using hl, hn', ?_⟩), .inr rfl, by simp, fun j hj _ => List.getElem?_append_left hj⟩
   ·simp only [zaH, hx, hxl, Option.bind_eq_bind, Option.bind_some, if_true, h1, e2, Nat.zero_add, if_neg h0, if_pos hb, zaM, List.nil_append]
   ·rw [List.nil_append]; exact zaC.2 zjz
  ·rw [h1, Nat.mul_div_cancel _ hsz] at hb;have hq := zah h3
   have e2 : cut c 0 (k * sz) = some c := by
    unfold cut;rw [if_pos (by omega), <- h1];simp
   have e3 : ¬ 0 + (k + n) * sz <= c.length := by
    rw [h1, Nat.add_mul];have := Nat.mul_pos hn' hsz;omega
   refine ⟨.sref q (g + 1) 0 sz (k + n) none, q, H.set q (some ⟨g + 1, c ++ vs⟩), ?_, .inr (.inr ⟨g + 1, k + n, rfl, by rw [List.length_append, h1, hl, Nat.add_mul], by omega, zaJ hq⟩), .inl rfl, by simp, fun j hj hne => List.getElem?_set_ne (Ne.symm hne)⟩;simp only [zaH, hx, hxl, Option.bind_eq_bind, Option.bind_some, if_true, h3, e2, if_neg e3, if_pos hb, zat]
theorem ziQ {H : Hp} {q g n sz : Nat} {cap : Option Nat} {c : List AV} (h : look H q g = some c) (hl : c.length = n * sz) (hf : c.all za9 = true) : resC H (.sref q g 0 sz n cap) = some (.sval (cap == some n) n c) := by
 have e : cut c 0 (n * sz) = some c := by
  unfold cut;rw [if_pos (by omega), <- hl];simp
 simp only [resC, h, e, hf, if_true]
end Go.Zz


namespace Go.Zz
theorem zgZ {Γ : Env} {n k g : Nat} (hk : n <= k) {args : List AV} {m : Mem} {r : AV × Mem} (h : zeX Γ n g args m = some r) : zeX Γ k g args m = some r := by
 unfold zeX at h ⊢
 split at h
 ·rename_i ys hp
  cases he : evF Γ n (.func g [] []) ys ⟨[], []⟩ with
  | none => rw [he] at h; simp [alone] at h
  | some q =>
   rw [he] at h;have := (zck Γ hk).2 _ _ _ _ he;simp only at this;simp only [this];exact h
 ·cases h
open Classical in
noncomputable def zb5 (Γ : Env) (g : Nat) (args : List AV) (m : Mem) : Option (AV × Mem) :=
 if h : ∃ r, ∃ n, zeX Γ n g args m = some r then some h.choose else none
theorem zfC [Globs] {P : Program} {Γ : Env} (hΓ : EnvOk P Γ) {g : Nat} (hg : zbN P g) : zek P g (zb5 Γ g) := by
 refine ⟨hg, fun args m v mm hS => ?_⟩;unfold zb5 at hS
 split at hS
 ·rename_i h;obtain ⟨n, hn⟩ := h.choose_spec;have e := Option.some.inj hS;rw [e] at hn;exact (zmy hΓ (n := n) hg).2 args m v mm hn
 ·cases hS
theorem zfs {Γ : Env} {g : Nat} {args ys : List AV} {m : Mem} {r : AV × Mem} (hy : zei m.heap args = some ys)
  (h : WF Γ (.func g [] []) ys ⟨[], []⟩ fun y m' => ∃ new y', zb8 m'.heap (uniq (zkd y) []) = some new /\ zpd m'.heap (uniq (zkd y) []) m.heap.length y = some y' /\ r = (y', ⟨m.heap ++ new, m.loops⟩)) : zb5 Γ g args m = some r := by
 obtain ⟨n, y, m', h1, new, y', h2, h3, rfl⟩ := h.ex
 have hn : zeX Γ n g args m = some (y', ⟨m.heap ++ new, m.loops⟩) := by
  unfold zeX;rw [hy];simp only [h1, alone, h2, h3]
 have hex : ∃ r, ∃ n, zeX Γ n g args m = some r := ⟨_, n, hn⟩
 unfold zb5;rw [dif_pos hex];obtain ⟨k, hk⟩ := hex.choose_spec;have a1 := zgZ (Nat.le_max_left n k) hn;have a2 := zgZ (Nat.le_max_right n k) hk;rw [a1] at a2;exact a2.symm
theorem zlk {H : Hp} {id g off sz n : Nat} {cap : Option Nat} {c : List AV} (h : look H id g = some c) (hf : c.all za9 = true) : zb8 H (uniq (zkd (.sref id g off sz n cap)) []) = some [some ⟨0, c⟩] := by
 have hb := zaC.1 h;simp [zkd, ziP, zi2, uniq, zb8, hb, hf]
theorem zog {H : Hp} {id g off sz n base : Nat} {cap : Option Nat} {c : List AV} (h : look H id g = some c) : zpd H (uniq (zkd (.sref id g off sz n cap)) []) base (.sref id g off sz n cap) = some (.sref base 0 off sz n cap) := by
 simp [zkd, ziP, zi2, uniq, zpd, zqC, zrc, zdK, h]
end Go.Zz


namespace Go.Zz
theorem ztn {n : Int} (h : (Lit.int .i64 n).wf = true) : I64 n := by
 have e1 : IntKind.i64.min = -9223372036854775808 := by decide
 have e2 : IntKind.i64.max = 9223372036854775807 := by decide
 have : IntKind.i64.min <= n /\ n <= IntKind.i64.max := by simpa [Lit.wf] using h
 rw [e1, e2] at this;exact this
theorem zaO {α β : Type} {R : α -> β -> Prop} {k : α} {ks : List α} {l : List β} (h : All2 R (k :: ks) l) : ∃ a r, l = a :: r /\ R k a /\ All2 R ks r := by
 cases l with
 | nil => exact h.elim
 | cons a r => exact ⟨a, r, rfl, h.1, h.2⟩
theorem ze4 {α β : Type} {R : α -> β -> Prop} {l : List β} (h : All2 R [] l) : l = [] := by
 cases l with
 | nil => rfl
 | cons a r => exact h.elim
theorem zgW {α : Type} {k : Nat} : ∀ (n : Nat) (l : List α), l.length = n * k -> ((List.range n).map fun i => (l.drop (i * k)).take k).flatten = l
 | 0, l, h => by
  have : l = [] := List.length_eq_zero_iff.1 (by simpa using h)
  simp [this]
 | n + 1, l, h => by
  rw [List.range_succ_eq_map, List.map_cons, List.map_map, List.flatten_cons];have ih := zgW (k := k) n (l.drop k) (by rw [List.length_drop, h, Nat.add_mul, Nat.one_mul]; omega)
  have e : (List.range n).map ((fun i => (l.drop (i * k)).take k) ∘ Nat.succ) = (List.range n).map fun i => ((l.drop k).drop (i * k)).take k := by
   apply List.map_congr_left;intro i _;simp only [Function.comp, List.drop_drop, Nat.succ_mul, Nat.add_comm]
  rw [e, ih];simp
theorem zko {fk : List FK} {x : AV} (h : CA (.slice fk) x) (hk : 0 < fk.length) : ∃ cs, SL fk.length x cs /\ cs.length <= maxLen /\ ∀ c ∈ cs, All2 FA fk c := by
 rcases h with rfl | ⟨full, len, l, rfl, hl, hlen, he⟩
 ·exact ⟨[], ⟨fun c hc => by simp at hc, .inl ⟨rfl, rfl⟩⟩, by simp, fun c hc => by simp at hc⟩
 ·have hck : ∀ i, i < len -> ((l.drop (i * fk.length)).take fk.length).length = fk.length := fun i hi => by
   rw [List.length_take, List.length_drop, hlen];have : (i + 1) * fk.length <= len * fk.length := Nat.mul_le_mul_right _ hi;rw [Nat.succ_mul] at this;omega
  refine ⟨(List.range len).map fun i => (l.drop (i * fk.length)).take fk.length, ⟨fun c hc => ?_, .inr ⟨full, ?_⟩⟩, by simpa using hl, fun c hc => ?_⟩
  ·obtain ⟨i, hi, rfl⟩ := List.mem_map.1 hc;exact hck i (List.mem_range.1 hi)
  ·rw [zgW len l hlen];simp
  ·obtain ⟨i, hi, rfl⟩ := List.mem_map.1 hc;have hi' := List.mem_range.1 hi
   have key : ∀ (a : List FK) (b : List AV), a.length = b.length -> (∀ j, j < a.length -> ∃ f, a[j]? = some f /\ FA f (gt b j)) -> All2 FA a b := by
    intro a
    induction a with
    | nil => intro b h _; cases b with
     | nil => trivial
     | cons _ _ => simp at h
    | cons f a ih =>
     intro b h hj
     cases b with
     | nil => simp at h
     | cons y b =>
      obtain ⟨f', h1, h2⟩ := hj 0 (by simp);simp at h1;subst h1
      exact ⟨h2, ih b (by simpa using h) fun j hlt => by
       obtain ⟨f', h1, h2⟩ := hj (j + 1) (by simpa using hlt)
       exact ⟨f', by simpa using h1, h2⟩⟩
   refine key fk _ (hck i hi').symm fun j hj => ?_
   have hb : i * fk.length + j < l.length := by
    rw [hlen];have : (i + 1) * fk.length <= len * fk.length := Nat.mul_le_mul_right _ hi';rw [Nat.succ_mul] at this;omega
   obtain ⟨f, h1, h2⟩ := he (i * fk.length + j) hb;rw [Nat.mul_comm, Nat.mul_add_mod, Nat.mod_eq_of_lt hj] at h1;refine ⟨f, h1, ?_⟩
   have e : gt ((l.drop (i * fk.length)).take fk.length) j = gt l (i * fk.length + j) := by
    simp only [zeg, List.getD, List.getElem?_take, if_pos hj, List.getElem?_drop]
   rw [e];exact h2
theorem zqX {x : AV} (h : CA (.slice [.int .i64]) x) : ∃ xs, IntS x xs /\ xs.length < 9223372036854775808 /\ ∀ y ∈ xs, I64 y := by
 obtain ⟨cs, hs, hm, hc⟩ := zko h (by decide)
 have hx : ∀ c ∈ cs, ∃ n, c = [.int .i64 n] /\ I64 n := fun c hcm => by
  obtain ⟨a, r, rfl, ⟨n, rfl, hw⟩, h2⟩ := zaO (hc c hcm);obtain rfl := ze4 h2;exact ⟨n, rfl, ztn hw⟩
 have hex : ∃ xs : List Int, cs = xs.map (fun n => [AV.int .i64 n]) /\ ∀ y ∈ xs, I64 y := by
  clear hs hm hc
  induction cs with
  | nil => exact ⟨[], rfl, by simp⟩
  | cons c cs ih =>
   obtain ⟨n, rfl, hn⟩ := hx c (by simp)
   obtain ⟨xs, rfl, h2⟩ := ih fun c hc => hx c (List.mem_cons_of_mem _ hc)
   exact ⟨n :: xs, rfl, fun y hy => by
    rcases List.mem_cons.1 hy with rfl | hy
    ·exact hn
    ·exact h2 y hy⟩
 obtain ⟨xs, rfl, h2⟩ := hex
 have e : (xs.map fun n => [AV.int .i64 n]).flatten = xs.map (.int .i64) := by
  clear hs hm hc hx h2
  induction xs with
  | nil => rfl
  | cons n xs ih => simp only [List.map_cons, List.flatten_cons, ih]; rfl
 refine ⟨xs, ?_, by unfold maxLen at hm; simp at hm; omega, h2⟩;obtain ⟨_, ⟨rfl, he⟩ | ⟨f, rfl⟩⟩ := hs
 ·have : xs = [] := by simpa using he
  exact .inl ⟨rfl, this⟩
 ·refine .inr ⟨f, ?_⟩;rw [e, List.length_map]
theorem znQ {k : CK} {x : AV} (h : PA (false, [k]) x) : CA k x := by
 unfold PA at h;rw [if_neg (by simp)] at h;obtain ⟨k', hk, h⟩ := h;simp at hk;subst hk;exact h
theorem zqZ {x : AV} (h : PA (false, [.slice [.int .i64]]) x) : ∃ xs, IntS x xs /\ xs.length < 9223372036854775808 /\ ∀ y ∈ xs, I64 y := zqX (znQ h)
theorem ztc {ks : List CK} {x : AV} (h : PA (true, ks) x) : ∃ l, x = .agg l /\ All2 CA ks l := by
 unfold PA at h
 rwa [if_pos rfl] at h
end Go.Zz


namespace Go.Zz
open Go.ChangeShapes Go.WideShapes Go.RowKit
def CB (b : Nat) (v : Value) : Prop := ∀ a len cap, v = .slice (some a) len cap -> cap * b <= reachBytes
def ckB (P : Program) : Nat -> TypeId -> Option (List Nat)
 | 0, _ => none
 | d + 1, t => match P.underlying t with
  | some (.slice e) => some [P.bytesOf e]
  | some (.struct fs) => (zhA P (ckB P d) fs.toList 0).bind fun l => if l.length = P.cellsOf t then some l else none
  | _ => (zgG P (d + 1) t).map fun l => l.map fun _ => 0
def BA (b : Nat) (x : AV) : Prop := ∀ n, zcH x = some n -> n * b <= reachBytes
def PB (bs : List Nat) (x : AV) : Prop :=
 match x with
 | .agg l => All2 BA bs l
 | x => ∃ b, bs = [b] /\ BA b x
section
variable {H : Type} {enc : TypeId × Value -> H} {P : Program} {w : World} {base : Nat} {sp : Nat -> Bool} {held : Bool}
theorem zdJ : ∀ (ts : List TypeId) (ds : List (DataW H)) (i : Nat) (t : TypeId) (d : DataW H), ts[i]? = some t -> ds[i]? = some d -> ∀ n ∈ d.weights P t, n ∈ DataW.weightsEach P ts ds
 | [], _, i, t, d, h, _, _, _ => by simp at h
 | _ :: _, [], i, t, d, _, h, _, _ => by simp at h
 | t' :: ts, d' :: ds, i, t, d, h1, h2, n, hn => by
  unfold DataW.weightsEach
  cases i with
  | zero =>
   simp at h1 h2
   subst h1; subst h2
   exact List.mem_append_left _ hn
  | succ i => exact List.mem_append_right _ (zdJ ts ds i t d (by simpa using h1) (by simpa using h2) n hn)
theorem znk (hsp : ∀ b, sp b = true) : ∀ (d : Nat) (t : TypeId) (bs : List Nat) (fuel : Nat) (cs : List Value) (x : DataW H × List MemPlace), ckB P d t = some bs -> DataW.trod enc P w base sp held fuel t cs = some x ->
  (∀ n ∈ x.1.weights P t, n <= reachBytes) -> All2 CB bs cs
 | 0, _, _, _, _, _, h, _, _ => by cases h
 | d + 1, t, bs, fuel, cs, x, h, hx, hw => by
  unfold ckB at h
  split at h
  ·rename_i e hu
   cases h
   rcases DataW.trod_slice hu hx with ⟨rfl, rfl⟩ | ⟨a, len, cap, elems, rest, n, _, rfl, rfl, _, hlc, hcm, hel, hf, hr, _⟩
   ·exact ⟨fun a len cap h => by simp at h, trivial⟩
   ·refine ⟨fun a' len' cap' h => ?_, trivial⟩;simp only [Value.slice.injEq, Option.some.injEq] at h;obtain ⟨rfl, rfl, rfl⟩ := h;have h1 := (hr (hsp _)).1;simp only [DataW.weights, hu] at hw;have h2 := hw _ (List.mem_cons_self ..);simp only [List.length_map] at h2
    have e : elems.length + rest.length = cap := by omega
    rw [e] at h2;exact h2
  ·rename_i fs hu;simp only [Option.bind_eq_some_iff] at h;obtain ⟨l, hl, h⟩ := h
   split at h
   ·rename_i hlen
    cases h
    obtain ⟨xs, n, _, rfl, hcs, hxs, hf⟩ := DataW.trod_struct hu hx;simp only [DataW.weights, hu] at hw
    have := zdX (R := CB) (cs := cs) fs.toList 0 bs hl (by omega) fun f hfm a ha => by
     obtain ⟨i, hi, hfi⟩ := List.getElem_of_mem hfm;have h1 := hf i f (by simp at hi; simp [<- hfi, hi])
     have hxi : i < xs.length := by rw [hxs]; simpa using hi
     rw [List.getElem?_eq_getElem hxi] at h1
     refine znk hsp d f.type a n _ _ ha h1 fun m hm => hw m (zdJ _ _ i f.type xs[i].1 ?_ (by simp [hxi]) m hm)
     rw [List.getElem?_map, List.getElem?_eq_getElem hi, hfi];rfl
    rw [hlen, <- hcs] at this;simpa using this
   ·cases h
  ·simp only [Option.map_eq_some_iff] at h;obtain ⟨l, hl, rfl⟩ := h
   exact (zdU (d + 1) t l fuel cs x hl hx).map_left (R' := CB) (f := fun _ => 0) fun a b h => fun _ _ _ _ => by simp
theorem zsi [Globs] {M : Mp} {x : AV} {v : Value} {b : Nat} (h : RV M x v) (hc : CB b v) : BA b x := by
 intro n hn
 cases h <;> simp only [zcH, Option.some.injEq, reduceCtorEq] at hn
 ·subst hn; simp
 ·subst hn;rename_i hle _ _ _ _;exact Nat.le_trans (Nat.mul_le_mul_right _ hle) (hc _ _ _ rfl)
 ·subst hn;rename_i hle _ _ _;exact Nat.le_trans (Nat.mul_le_mul_right _ hle) (hc _ _ _ rfl)
theorem zpQ [Globs] {M : Mp} : ∀ {bs : List Nat} {l : List AV} {c : List Value}, l.length = c.length -> (∀ i, RV M (gt l i) (ag c.toArray i)) -> All2 CB bs c -> All2 BA bs l
 | [], [], [], _, _, _ => trivial
 | b :: bs, x :: l, v :: c, hl, h, hc => by
  refine ⟨zsi (by simpa [gt, ag] using h 0) hc.1, zpQ (by simpa using hl) (fun i => by simpa [gt, ag] using h (i + 1)) hc.2⟩
 | [], _, _ :: _, _, _, hc => hc.elim
 | [], _ :: _, [], hl, _, _ => by simp at hl
 | _ :: _, _, [], _, _, hc => hc.elim
 | _ :: _, [], _ :: _, hl, _, _ => by simp at hl
theorem rv_pb [Globs] {M : Mp} {x : AV} {v : Value} {bs : List Nat} (h : RV M x v) (hc : All2 CB bs v.cells.toList) : PB bs x := by
 have h' := h
 cases h
 case agg l c hl h h1 => exact zpQ (c := c.toList) (by rw [Array.length_toList]; exact hl) (by simpa using h) (by simpa [Value.cells] using hc)
 all_goals
  match bs, hc with
  | [b], hc => exact ⟨b, rfl, zsi h' hc.1⟩
theorem zol [Globs] {W : World} {M : Mp} : ∀ {ts : List TypeId} {vs : List Value} {ds : List (DataW H)} {p : List MemPlace} {pbs : List (List Nat)} {avs : List AV}, DataW.TrodAll enc P W 0 (fun _ => true) true ts vs ds p ->
  (∀ n ∈ DataW.weightsEach P ts ds, n <= reachBytes) -> ts.mapM (ckB P 20) = some pbs -> avs.length = vs.length -> (∀ i, RV M (gt avs i) (ag vs.toArray i)) -> All2 PB pbs avs
 | [], vs, ds, p, pbs, avs, h, _, hp, hl, _ => by
  obtain ⟨rfl, rfl, rfl⟩ := trodAll_nil h;simp at hp;subst hp;have : avs = [] := List.length_eq_zero_iff.1 (by simpa using hl);subst this
  trivial
 | t :: ts, vs, ds, p, pbs, avs, h, hw, hp, hl, hr => by
  obtain ⟨v, vs1, d, ds1, p1, p2, rfl, rfl, rfl, h1, h2⟩ := trodAll_cons h;simp only [List.mapM_cons, Option.bind_eq_bind, Option.bind_eq_some_iff, Option.pure_def, Option.some.injEq] at hp;obtain ⟨bs, g1, pbs', g2, rfl⟩ := hp
  cases avs with
  | nil => simp at hl
  | cons x avs =>
   obtain ⟨fuel, h1⟩ := h1
   have hc := znk (fun _ => rfl) 20 t bs fuel _ _ g1 h1 fun n hn => hw n (by unfold DataW.weightsEach; exact List.mem_append_left _ hn)
   exact ⟨rv_pb (by simpa [gt, ag] using hr 0) hc, zol h2 (fun n hn => hw n (by unfold DataW.weightsEach; exact List.mem_append_right _ hn)) g2 (by simpa using hl) (fun i => by simpa [gt, ag] using hr (i + 1))⟩
theorem zic [Globs] {Γ : Env} (hΓ : EnvOk P Γ) {fid : Nat} {f : Func} {s : ChangeSpec} {pks : List (Bool × List CK)} {pbs : List (List Nat)} (hp : f.params.toList.mapM (zjv P) = some pks) (hpb : f.params.toList.mapM (ckB P 20) = some pbs)
  (hl : laidOutB P = true) (hr : (f.params.toList.all fun t => P.readableRec t && decide (t < P.types.size)) = true) (hvars : s.vars = []) (hfn : ∀ (H : Type) (ds : List (DataW H)), ds.length = f.params.toList.length -> s.fn H ds = { results := [.lit (.bool true)], args := ds })
  {tb : TypeId} (hres : f.resultTypes = #[tb]) (hb : P.underlying tb = some .bool)
  {W : World} {base : Nat} {args : Array Value} {ds gs : List (DataW H)} {before : List MemPlace} (hval : ∀ (j : Nat) t v, f.params[j]? = some t -> args[j]? = some v -> Value.okWide P W .any base t v)
  (hW : DataW.Whole enc P f.params.toList s.vars false W args.toList ds gs before) (hG : zgj W)
  (hwt : (DataW.weightsEach P (f.params.toList ++ s.plain.varTypes P) (ds ++ gs)).all (· <= reachBytes) = true)
  (hlaw : ∀ avs, All2 PA pks avs -> All2 PB pbs avs -> ∃ n m', evF Γ n (.func fid [] []) avs ⟨[], []⟩ = some (.bool true, m')) :
  Calls P fid args W fun e W' => ∃ v, e = .returned v /\ s.post enc P f false true false false W args v W' := by
 have hW' := hW;obtain ⟨p, q, hA, hV, hpq, hfz, hnd⟩ := hW;rw [hvars] at hV;obtain ⟨rfl, rfl⟩ := trodVars_none hV;obtain ⟨avs, x1, x2, x3⟩ := zoi (hG := hG) hA (fun j t v a b => hval j t v (by simpa using a) (by simpa using b)) hp
 have x1' : RVs (mp0 W hG) avs args := by simpa using x1
 have hpbs : All2 PB pbs avs := by
  refine zol hA (fun n hn => ?_) hpb (by simpa using x1'.len) (fun i => by simpa using x1'.rel i)
  have hv0 : s.plain.varTypes P = [] := by
   have : s.plain.vars = [] := hvars;simp [DataSpec.varTypes, this]
  rw [hv0, List.append_nil, List.append_nil] at hwt;simpa using List.all_eq_true.1 hwt n hn
 obtain ⟨n, m', hev⟩ := hlaw avs x2 hpbs;have ans := zm5 hΓ n _ _ _ _ _ hev 0 (mp0 W hG) W (.func (.func fid) #[] #[]) args (.func fid [] [] #[] #[] rfl rfl (fun i => by simp [gt, ag]; exact .tup0) (fun i => by simp [gt, ag]; exact .tup0)) x1' (zor W hG) (zox W hG)
 cases ans with
 | func _ _ _ hcl hcall =>
  have earr : (#[] ++ args ++ #[] : Array Value) = args := by simp
  rw [earr] at hcall
  refine (callsIn_wide.1 (show CallsIn Fence.wide 0 P fid args W _ from hcall)).mono fun e W' he => ?_
  obtain ⟨v, rfl, M', g1, g2, g3⟩ := he
  cases g1
  have hkeep : ∀ b, b < W.heap.size -> W'.heap[b]? = W.heap[b]? := fun b hb => g3.keep b hb (fun id bl lc h => by simp at h) (fun k r h => by simp at h)
  have hkb : W.keptBut W' (fun x => x ∈ before) := by
   refine ⟨g3.os, g3.output, fun i hi => ?_⟩;rw [hkeep i hi]
   split
   ·rename_i h1 h2;rw [h1] at h2
    cases h2
    exact ⟨rfl, rfl, rfl, fun _ _ => rfl⟩
   ·rename_i h1 h2;rw [h1] at h2
    cases h2
    exact .inr ⟨rfl, rfl⟩
   ·rfl
  have hlt : ∀ x ∈ before, x.block < W.heap.size := fun x hx => hW'.lt x hx
  have hsame : ∀ x ∈ p, W.sameAt W' x := by
   intro x hx;have := hkeep x.block (hlt x (by rw [hpq]; simp [hx]))
   cases x with
   | cell b off => exact World.cell?_of_block this
   | map b => exact this
  have hfn' := hfn H (ds ++ []) (by simpa using x3);refine ⟨_, rfl, post_of_same (pa := p) (pv := []) hW' (fun b sp hd => ?_) (fun sp hsp => ?_) (fun sp _ => ?_) hpq hkb g3.froz (ok_one hres rfl (okWide_bool_mk hb _))⟩
  ·rw [hfn', hres];exact trodAll_cons_mk (shut_bool hb _) trodAll_mk0
  ·rw [hfn'];simp only [List.append_nil];refine zeO hl (fun t ht => ?_) hA hsame (fun x hx => hsp x (by rw [hpq]; simp [hx]));have := List.all_eq_true.1 hr t ht;simpa using this
  ·rw [hfn', hvars];rfl
end
theorem pb_sl {k : Nat} {x : AV} {cs : List (List AV)} {b : Nat} (h : SL k x cs) (hp : PB [b] x) : cs.length * b <= reachBytes := by
 obtain ⟨_, ⟨rfl, rfl⟩ | ⟨f, rfl⟩⟩ := h
 ·simp
 ·obtain ⟨b', h1, h2⟩ := hp;simp only [List.cons.injEq, and_true] at h1;subst h1;exact h2 _ rfl
end Go.Zz


namespace Go.Zz
theorem WT.specG {Γ : Env} {rd : List DOper} {ms : List Nat} {tch : List Tch} {T T' : List AV} {H : Hp} {L : List (Option ALoop)} {Q : St -> Prop} {d g : Nat} {args : List Opd} {v : AV} {as : List AV} {S : List AV -> Mem -> Option (AV × Mem)} (js : List Nat)
  (ha : args.map (·.ev T) = as) (hS : Γ.spec g = some S) (hj : ∀ j ∈ js, zbW tch ms (.blk j))
  (h : ∀ V : Hp, V.length = H.length -> (∀ j ∈ js, V[j]? = H[j]?) -> S as ⟨V, L⟩ = some (v, ⟨V, L⟩))
  (ht : pt T d v = T') (k : WT Γ rd ⟨T', H, L⟩ (tch ++ [.all]) Q) : WT Γ (⟨⟨none, some d, .call (.con (.func g [] [])) args⟩, ms⟩ :: rd) ⟨T, H, L⟩ tch Q := by
 refine ⟨fun seen hs => ?_⟩;have hp := PartL.strikes hs.le ms (PartL.refl H);refine WD.call rfl ?_;rw [ha]
 have hV := h _ hp.len fun j hjm => zbD hs.le ms rfl fun i hi e he => by
  have hl : i < tch.length := by rw [<- hs.len]; exact (List.getElem?_eq_some_iff.1 he).1
  exact hs.away i e _ he (List.getElem?_eq_getElem hl) j (hj j hjm i hi _ (List.getElem?_eq_getElem hl))
 refine WF.spec hS (by simpa using hV) ?_;refine ⟨zby _, ?_⟩;simp only [St.put, hp.back, hp.len, ht];exact k.run _ (hs.app (Nat.le_refl _) (Nat.le_refl _) fun j hj => hj.elim)
theorem zmT {tch : List Tch} {ms : List Nat} {js : List Nat} (h : ∀ j ∈ js, zaR tch j ms) : ∀ j ∈ js, zbW tch ms (.blk j) := fun j hj => zau (h j hj)
end Go.Zz


namespace Go.Zz
open Go
def znF : AV -> Bool
 | .int _ _ => true
 | .bool _ => true
 | _ => false
def zfT (L : List (Option ALoop)) : List (Option ALoop) := L.map fun _ => none
theorem zcA {H : Hp} {id : Nat} {b : Blk} : (za8 H)[id]? ≠ some (some b) := by
 intro h;unfold za8 at h;rw [List.getElem?_map] at h
 cases e : H[id]? <;> rw [e] at h <;> simp at h
theorem zeo {L : List (Option ALoop)} {k : Nat} {r : ALoop} : (zfT L)[k]? ≠ some (some r) := by
 intro h;unfold zfT at h;rw [List.getElem?_map] at h
 cases e : L[k]? <;> rw [e] at h <;> simp at h
theorem zlZ [Globs] {P : Program} {M : Mp} {H : Hp} {L : List (Option ALoop)} {w : World} (h : Holds P M H L w) : Holds P M (za8 H) (zfT L) w :=
 ⟨h.imm, fun id b h => (zcA h).elim, fun id b lc h => (zcA h).elim, fun id id' b b' lc lc' h => (zcA h).elim, fun id b g h => (zcA h).elim, fun k r h => (zeo h).elim, fun k k' r r' l h => (zeo h).elim⟩
theorem zlM [Globs] {M : Mp} {H : Hp} {L : List (Option ALoop)} (h : Fresh M H L) : Fresh M (za8 H) (zfT L) :=
 ⟨fun id g hi => h.loc id g (by simpa [za8] using hi), fun k hk => h.lp k (by simpa [zfT] using hk)⟩
def zdm (Γ : Env) (n g : Nat) (args : List AV) (m : Mem) : Option (AV × Mem) :=
 match evF Γ n (.func g [] []) args ⟨za8 m.heap, zfT m.loops⟩ with
 | some (y, _) => if znF y then some (y, m) else none
 | none => none
theorem zlA [Globs] {P : Program} {Γ : Env} (hΓ : EnvOk P Γ) {n g : Nat} (hg : zbN P g) : zek P g (zdm Γ n g) := by
 refine ⟨hg, fun args m v mm hS N M w cargs ha h hf => ?_⟩;unfold zdm at hS
 split at hS
 ·rename_i y m' hev
  split at hS
  ·rename_i hsc;simp only [Option.some.injEq, Prod.mk.injEq] at hS;obtain ⟨rfl, rfl⟩ := hS;have ans := zm5 hΓ n _ _ _ _ _ hev N M w (.func (.func g) #[] #[]) cargs (.func g [] [] #[] #[] rfl rfl (fun i => by simp [gt, ag]; exact .tup0) (fun i => by simp [gt, ag]; exact .tup0)) ha (zlZ h) (zlM hf)
   cases ans with
   | func _ _ _ hcl hcall =>
    have earr : (#[] ++ cargs ++ #[] : Array Value) = cargs := by simp
    rw [earr] at hcall
    refine hcall.mono fun e w' he => ?_
    obtain ⟨cv, rfl, M1, g1, g2, g3⟩ := he
    have hkeep : ∀ b, b < w.heap.size -> w'.heap[b]? = w.heap[b]? := fun b hb => g3.keep b hb (fun id bl lc h => (zcA h).elim) (fun k r h => (zeo h).elim)
    have hsz := g3.size;have hle : M.le M := Mp.le.refl M
    have hrv : RV M y cv := by
     cases g1 <;> first | exact .int _ _ | exact .bool _ | (exact absurd hsc (by simp [znF]))
    refine ⟨cv, rfl, M, hrv, ⟨?_, ?_, h.sep, h.inj, h.gen, ?_, h.lpi⟩, ?_⟩
    ·intro b o u hu;have := h.imm b o u hu;rw [World.cell?_of_block (w := w) (hkeep b (zcR this))];exact this
    ·intro id b hb;obtain ⟨lc, hB⟩ := h.blk id b hb;exact ⟨lc, hB.kept hle (hkeep _ hB.lt) hsz⟩
    ·intro k q hq;obtain ⟨l, h1, h2⟩ := h.lp k q hq;exact ⟨l, h1, h2.kept hle (hkeep l h2.lt)⟩
    ·exact ⟨g3.os, g3.output, hsz, g3.froz, fun b hb _ _ => hkeep b hb, fun id bl lc h1 h2 _ => ⟨bl, lc, h1, h2, rfl⟩, fun k r l h1 h2 _ => ⟨r, h1, h2⟩, Nat.le_refl _, Nat.le_refl _, hle,
      (fun id gg lc h1 h0 => by rw [h0] at h1; cases h1), fun id b hb => ⟨b, hb⟩, (fun b o hb => rfl),
      (fun k l h1 h0 => by rw [h0] at h1; cases h1), fun l q hq => ⟨q, (hkeep l (Array.getElem?_eq_some_iff.1 hq).1).trans hq⟩⟩
  ·cases hS
 ·cases hS
open Classical in
noncomputable def zdG (Γ : Env) (g : Nat) (args : List AV) (m : Mem) : Option (AV × Mem) :=
 if h : ∃ r, ∃ n, zdm Γ n g args m = some r then some h.choose else none
theorem zlX [Globs] {P : Program} {Γ : Env} (hΓ : EnvOk P Γ) {g : Nat} (hg : zbN P g) : zek P g (zdG Γ g) := by
 refine ⟨hg, fun args m v mm hS => ?_⟩;unfold zdG at hS
 split at hS
 ·rename_i h;obtain ⟨n, hn⟩ := h.choose_spec;have e := Option.some.inj hS;rw [e] at hn;exact (zlA hΓ (n := n) hg).2 args m v mm hn
 ·cases hS
theorem zfM {Γ : Env} {n k g : Nat} (hk : n <= k) {args : List AV} {m : Mem} {r : AV × Mem} (h : zdm Γ n g args m = some r) : zdm Γ k g args m = some r := by
 unfold zdm at h ⊢
 cases he : evF Γ n (.func g [] []) args ⟨za8 m.heap, zfT m.loops⟩ with
 | none => rw [he] at h; simp at h
 | some q =>
  rw [he] at h;have := (zck Γ hk).2 _ _ _ _ he;simp only at this;rw [this];exact h
theorem zl6 {Γ : Env} {g : Nat} {args : List AV} {m : Mem} {v : AV} (hv : znF v = true) (h : ∀ H L, WF Γ (.func g [] []) args ⟨H, L⟩ fun y m' => y = v) : zdG Γ g args m = some (v, m) := by
 obtain ⟨n, y, m', h1, rfl⟩ := (h (za8 m.heap) (zfT m.loops)).ex
 have hn : zdm Γ n g args m = some (y, m) := by
  unfold zdm;simp only [h1, hv, if_true]
 have hex : ∃ r, ∃ n, zdm Γ n g args m = some r := ⟨_, n, hn⟩
 unfold zdG;rw [dif_pos hex];obtain ⟨k, hk⟩ := hex.choose_spec;have a1 := zfM (Nat.le_max_left n k) hn;have a2 := zfM (Nat.le_max_right n k) hk;rw [a1] at a2;exact a2.symm
end Go.Zz


namespace Go.Zz
theorem WT.callR {Γ : Env} {rd : List DOper} {ms : List Nat} {tch : List Tch} {T : List AV} {H : Hp} {L : List (Option ALoop)} {Q : St -> Prop} {d : Nat} {f : Opd} {args : List Opd} {fv : AV} {as : List AV} (P : AV -> Hp -> Prop) (js : List Nat)
  (hf : f.ev T = fv) (ha : args.map (·.ev T) = as) (hj : ∀ j ∈ js, zbW tch ms (.blk j))
  (h : ∀ V : Hp, V.length = H.length -> (∀ j ∈ js, V[j]? = H[j]?) -> WF Γ fv as ⟨V, L⟩ fun y m' => m'.loops = L /\ ∃ R, m'.heap = V ++ R /\ P y R)
  (k : ∀ v R, P v R -> WT Γ rd ⟨pt T d v, H ++ R, L⟩ (tch ++ [.all]) Q) : WT Γ (⟨⟨none, some d, .call f args⟩, ms⟩ :: rd) ⟨T, H, L⟩ tch Q := by
 refine ⟨fun seen hs => ?_⟩;have hp := PartL.strikes hs.le ms (PartL.refl H);refine WD.call rfl ?_;rw [hf, ha];refine (h _ hp.len fun j hjm => zbD hs.le ms rfl fun i hi e he => ?_).mono ?_
 ·have hl : i < tch.length := by rw [<- hs.len]; exact (List.getElem?_eq_some_iff.1 he).1
  exact hs.away i e _ he (List.getElem?_eq_getElem hl) j (hj j hjm i hi _ (List.getElem?_eq_getElem hl))
 ·rintro y ⟨H', L2⟩ ⟨rfl, R, rfl, hP⟩;refine ⟨zcK _ _, ?_⟩;simp only [St.put, hp.backApp];refine (k y R hP).run _ (hs.app (by simp) (by simp [hp.len]) fun j hj => hj.elim)
def Grew (H H' : Hp) : Prop := H.length <= H'.length /\ ∀ b, b < H.length -> (H'[b]? = H[b]? \/ ∃ x : Blk, H[b]? = some (some x))
theorem zji : ∀ {H H' : Hp}, Grew H H' -> zak H H' = true
 | [], H', _ => by simp [zak]
 | h :: H, [], hg => by have := hg.1; simp at this
 | h :: H, h' :: H', hg => by
  have ih := zji (H := H) (H' := H') ⟨by have := hg.1; simpa using this, fun b hb => by have := hg.2 (b + 1) (by simpa using hb); simpa using this⟩;have h0 := hg.2 0 (by simp)
  cases h with
  | some x => simpa [zak] using ih
  | none =>
   rcases h0 with h0 | ⟨x, h0⟩
   ·have e : h' = none := by simpa using h0
    subst e;simpa [zak] using ih
   ·simp at h0
theorem zou {H H' : Hp} (h : Grew H H') : back H H H' = H' := by
 obtain ⟨h1, h2⟩ := ziu H H H' rfl h.1;apply List.ext_getElem?;intro id;rw [h2 id]
 by_cases hid : id < H.length
 ·rw [if_pos hid]
  rcases h.2 id hid with e | ⟨x, e⟩
  ·rw [e]; split <;> rfl
  ·rw [e]; rfl
 ·rw [if_neg hid]
theorem WT.callM {Γ : Env} {rd : List DOper} {tch : List Tch} {T : List AV} {H : Hp} {L : List (Option ALoop)} {Q : St -> Prop} {d : Nat} {f : Opd} {args : List Opd} {fv : AV} {as : List AV} (P : AV -> Hp -> Prop)
  (hf : f.ev T = fv) (ha : args.map (·.ev T) = as)
  (h : WF Γ fv as ⟨H, L⟩ fun y m' => m'.loops = L /\ Grew H m'.heap /\ P y m'.heap)
  (k : ∀ v H', H.length <= H'.length -> P v H' -> WT Γ rd ⟨pt T d v, H', L⟩ (tch ++ [.all]) Q) : WT Γ (⟨⟨none, some d, .call f args⟩, []⟩ :: rd) ⟨T, H, L⟩ tch Q := by
 refine ⟨fun seen hs => ?_⟩;refine WD.call (V := H) rfl ?_;rw [hf, ha];refine h.mono ?_;rintro y ⟨H', L2⟩ ⟨rfl, hg, hP⟩;refine ⟨zji hg, ?_⟩;simp only [St.put, zou hg];exact (k y H' hg.1 hP).run _ (hs.app hg.1 (Nat.le_refl _) fun j hj => hj.elim)
end Go.Zz


namespace Go.Zz
end Go.Zz


namespace Go.Zz
section
variable {Γ : Env} {rd : List DOper} {ms : List Nat} {tch : List Tch} {T T' : List AV} {H : Hp} {L : List (Option ALoop)}
theorem WT.sliceArr {Q : St -> Prop} {d n sz id g off : Nat} {x : Opd} {lo hi mx : Option Opd} {v : AV} (hx : x.ev T = .pref id g off)
  (hv : zbz H n sz (.pref id g off) (lo.map (·.ev T)) (hi.map (·.ev T)) (mx.map (·.ev T)) = some v) (hm : zbW tch ms (.blk id))
  (ht : pt T d v = T') (k : WT Γ rd ⟨T', H, L⟩ (tch ++ [.blk id]) Q) : WT Γ (⟨⟨none, some d, .sliceArr n sz x lo hi mx⟩, ms⟩ :: rd) ⟨T, H, L⟩ tch Q := by
 refine ⟨fun seen hs => ?_⟩;have hp := PartL.strikes hs.le ms (PartL.refl H)
 have hlim : zbd T (.sliceArr n sz x lo hi mx) (strikes H seen ms) = zaV H id := by
  simp only [zbd, hx];refine zci hp.len (zbD (n := H.length) hs.le ms rfl fun i hi e he => ?_);have hl := hs.len;have hil := (List.getElem?_eq_some_iff.1 he).1
  obtain ⟨t', ht'⟩ : ∃ t', tch[i]? = some t' := ⟨tch[i], List.getElem?_eq_getElem (by omega)⟩
  exact hs.away i e t' he ht' id (hm i hi t' ht')
 refine WD.bigG (L' := L) rfl hlim (v := v) (fun call => ?_) (zby _) (zeT H id) rfl ?_
 ·rw [zgP, hx]
  have e : zbz (zaV H id) n sz (.pref id g off) (lo.map (·.ev T)) (hi.map (·.ev T)) (mx.map (·.ev T)) = some v := by
   rw [<- hv];simp only [zbz, zcw]
  rw [e];rfl
 ·simp only [St.put, ht];refine k.run _ (hs.app (Nat.le_refl _) (by simp [zcq]) fun j hj => ⟨?_, ?_⟩)
  ·rw [zfF H id j hj]
   split
   ·exact .inl rfl
   ·exact .inr rfl
  ·simp only [zcq];omega
end
end Go.Zz


namespace Go.Zz
end Go.Zz

