import Derived.Test.YtgchabldcnmccacGreatDoorAbsK
import Derived.Handed
import Derived.JoinedOf

set_option linter.unusedSimpArgs false
set_option linter.unusedVariables false

namespace Go.Zz
theorem PartL.backSet {S H : Hp} (h : PartL S H) : ∀ {id : Nat} {b b0 : Blk}, S[id]? = some (some b0) → Zz.back H S (S.set id (some b)) = H.set id (some b) := by
 induction h with
 | nil => intro id b b0 hs; simp at hs
 | none h k ih =>
  intro id b b0 hs
  cases id with
  | zero => simp at hs
  | succ id => simp only [List.set_cons_succ, Zz.back]; rw [ih (by simpa using hs)]
 | same h k ih =>
  intro id b b0 hs
  cases id with
  | zero =>
   simp at hs
   subst hs
   simp only [List.set_cons_zero, Zz.back]
   rw [k.back]
  | succ id =>
   cases h <;> (simp only [List.set_cons_succ, Zz.back]; rw [ih (by simpa using hs)])
theorem dead_set' : ∀ {S : Hp} {id : Nat} {b b0 : Blk}, S[id]? = some (some b0) → stillDead S (S.set id (some b)) = true
 | [], _, _, _, h => by simp at h
 | s :: S, 0, b, b0, h => by
  simp at h
  subst h
  simpa [stillDead] using dead_self S
 | none :: S, id + 1, b, b0, h => by simpa [stillDead] using dead_set' (S := S) (by simpa using h)
 | some _ :: S, id + 1, b, b0, h => by simpa [stillDead] using dead_set' (S := S) (by simpa using h)
def Seen (S H : Hp) (x : AV) : Prop := ∀ id g off z n c, x = .sref id g off z n c → S[id]? = H[id]?
theorem scells_seen {S H : Hp} {sz : Nat} {x : AV} (h : Seen S H x) : scells S sz x = scells H sz x := by
 cases x <;> first | rfl | skip
 rename_i id g off z n c
 simp only [scells, look_of_get (h id g off z n c rfl)]
theorem storeAt_seen {S H H' : Hp} {id g off : Nat} {xs : List AV} (hp : PartL S H) (hs : S[id]? = H[id]?) (h : storeAt H id g off xs = some H') : ∃ S', storeAt S id g off xs = some S' ∧ stillDead S S' = true ∧ Zz.back H S S' = H' := by
 unfold storeAt at h ⊢
 simp only [Option.bind_eq_bind, Option.bind_eq_some_iff, Option.some.injEq] at h
 obtain ⟨l, h3, l', h4, rfl⟩ := h
 rw [look_of_get hs]
 have hb := look_eq_iff.1 h3
 rw [← hs] at hb
 exact ⟨_, by simp only [h3, h4, Option.bind_eq_bind, Option.bind_some]; rfl, dead_set' hb, hp.backSet hb⟩
theorem append_seen {S H H' : Hp} {L L' : List (Option ALoop)} {sz bytes : Nat} {s x v : AV} (hp : PartL S H) (hs : Seen S H s) (hx : Seen S H x) (h : appendAV sz bytes ⟨H, L⟩ s x = some (v, ⟨H', L'⟩)) :
  L' = L ∧ ∃ S', appendAV sz bytes ⟨S, L⟩ s x = some (v, ⟨S', L⟩) ∧ stillDead S S' = true ∧ Zz.back H S S' = H' := by
 unfold appendAV at h ⊢
 simp only [scells_seen hx, hp.len, Option.bind_eq_bind] at h ⊢
 cases hc : scells H sz x with
 | none => rw [hc] at h; cases h
 | some xs =>
  rw [hc] at h
  simp only [Option.bind_some] at h ⊢
  cases hn : slen x with
  | none => rw [hn] at h; cases h
  | some n =>
   rw [hn] at h
   simp only [Option.bind_some] at h ⊢
   cases s with
   | snil =>
    simp only at h ⊢
    by_cases h0 : n = 0
    ·rw [if_pos h0] at h ⊢
     cases h
     exact ⟨rfl, _, rfl, dead_self _, hp.back⟩
    ·rw [if_neg h0] at h ⊢
     by_cases h1 : n * bytes ≤ 140737488355328 ∧ n ≤ 140737488355328
     ·rw [if_pos h1] at h ⊢
      simp only [newBlk, Option.some.injEq, Prod.mk.injEq, Mem.mk.injEq] at h
      obtain ⟨rfl, rfl, rfl⟩ := h
      exact ⟨rfl, _, rfl, dead_app _ _, hp.backApp _⟩
     ·rw [if_neg h1] at h; cases h
   | sval full len l =>
    simp only at h ⊢
    by_cases h0 : n = 0
    ·rw [if_pos h0] at h ⊢
     cases h
     exact ⟨rfl, _, rfl, dead_self _, hp.back⟩
    ·rw [if_neg h0] at h ⊢
     split at h
     ·rename_i h1
      rw [if_pos h1]
      simp only [newBlk, Option.some.injEq, Prod.mk.injEq, Mem.mk.injEq] at h
      obtain ⟨rfl, rfl, rfl⟩ := h
      exact ⟨rfl, _, rfl, dead_app _ _, hp.backApp _⟩
     ·cases h
   | sref id g off z len cap =>
    have hid := hs id g off z len cap rfl
    simp only [look_of_get hid] at h ⊢
    by_cases hz : z = sz
    ·simp only [if_pos hz] at h ⊢
     cases hl : look H id g with
     | none => rw [hl] at h; cases h
     | some l =>
      have hb := look_eq_iff.1 hl
      rw [← hid] at hb
      rw [hl] at h
      simp only [Option.bind_some] at h ⊢
      cases hcut : cut l off (len * sz) with
      | none => rw [hcut] at h; cases h
      | some old =>
       rw [hcut] at h
       simp only [Option.bind_some] at h ⊢
       cases cap with
       | some c =>
        simp only at h ⊢
        split at h
        ·rename_i h1
         rw [if_pos h1]
         simp only [Option.bind_eq_some_iff, Option.some.injEq, Prod.mk.injEq, Mem.mk.injEq] at h
         obtain ⟨H1, h2, rfl, rfl, rfl⟩ := h
         obtain ⟨S', g1, g2, g3⟩ := storeAt_seen hp hid h2
         exact ⟨rfl, S', by simp only [g1, Option.bind_some], g2, g3⟩
        ·rename_i h1
         rw [if_neg h1]
         split at h
         ·rename_i h2
          rw [if_pos h2]
          simp only [newBlk, Option.some.injEq, Prod.mk.injEq, Mem.mk.injEq] at h
          obtain ⟨rfl, rfl, rfl⟩ := h
          exact ⟨rfl, _, rfl, dead_app _ _, hp.backApp _⟩
         ·cases h
       | none =>
        simp only at h ⊢
        split at h
        ·rename_i h1
         rw [if_pos h1]
         simp only [Option.bind_eq_some_iff, Option.some.injEq, Prod.mk.injEq, Mem.mk.injEq] at h
         obtain ⟨H1, h2, rfl, rfl, rfl⟩ := h
         obtain ⟨S', g1, g2, g3⟩ := storeAt_seen hp hid h2
         exact ⟨rfl, S', by simp only [g1, Option.bind_some], g2, g3⟩
        ·rename_i h1
         rw [if_neg h1]
         split at h
         ·rename_i h2
          rw [if_pos h2]
          simp only [setBlk, Option.some.injEq, Prod.mk.injEq, Mem.mk.injEq] at h
          obtain ⟨rfl, rfl, rfl⟩ := h
          exact ⟨rfl, _, rfl, dead_set' hb, hp.backSet hb⟩
         ·cases h
    ·simp only [if_neg hz] at h; cases h
   | _ => cases h
theorem append_len {H H' : Hp} {L L' : List (Option ALoop)} {sz bytes : Nat} {s x v : AV} (h : appendAV sz bytes ⟨H, L⟩ s x = some (v, ⟨H', L'⟩)) : H.length ≤ H'.length := by
 obtain ⟨_, S', h1, h2, h3⟩ := append_seen (PartL.refl H) (fun _ _ _ _ _ _ _ => rfl) (fun _ _ _ _ _ _ _ => rfl) h
 have := dead_len h2
 rw [← h3, back_len rfl this]
 exact this
def slBlk : AV → Tch
 | .sref id _ _ _ _ _ => .blk id
 | _ => .none
section
variable {Γ : Env} {rd : List DOper} {ms : List Nat} {tch : List Tch} {T T' : List AV} {H : Hp} {L : List (Option ALoop)}
theorem seen_of {seen : List (Hp × Nat × Nat)} {x : AV} (hs : Fits seen tch H.length) (ha : apartT tch ms (slBlk x)) : Seen (strikes H seen ms) H x := by
 intro id g off z n c e
 subst e
 refine strikes_get (n := H.length) hs.le ms rfl fun i hi e he => ?_
 have hl := hs.len
 have hil := (List.getElem?_eq_some_iff.1 he).1
 obtain ⟨t', ht'⟩ : ∃ t', tch[i]? = some t' := ⟨tch[i], List.getElem?_eq_getElem (by omega)⟩
 exact hs.away i e t' he ht' id (ha i hi t' ht')
theorem WT.append {Q : St → Prop} {d sz bytes : Nat} {s x : Opd} {sv xv v : AV} {H' : Hp} {L' : List (Option ALoop)} (es : s.ev T = sv) (ex : x.ev T = xv) (h : appendAV sz bytes ⟨H, L⟩ sv xv = some (v, ⟨H', L'⟩)) (ha : apartT tch ms (slBlk sv)) (hb : apartT tch ms (slBlk xv))
  (ht : pt T d v = T') (k : WT Γ rd ⟨T', H', L⟩ (tch ++ [.all]) Q) : WT Γ (⟨⟨none, some d, .append sz bytes s x⟩, ms⟩ :: rd) ⟨T, H, L⟩ tch Q := by
 refine ⟨fun seen hs => ?_⟩
 have hp := PartL.strikes hs.le ms (PartL.refl H)
 obtain ⟨rfl, S', g1, g2, g3⟩ := append_seen hp (seen_of hs ha) (seen_of hs hb) h
 have hle := append_len h
 have hl2 : S'.length = H'.length := by
  have := dead_len g2
  rw [hp.len] at this
  have e := back_len hp.len this
  rw [g3] at e
  exact e.symm
 refine WD.bigG (V := strikes H seen ms) rfl rfl (fun call => by rw [ev_append, es, ex]; exact g1) g2 g3 rfl ?_
 simp only [St.put, ht]
 exact k.run _ (hs.app (m := H'.length) hle (by simp only; omega) fun j hj => hj.elim)
end
end Go.Zz


namespace Go.Zz
def GS (sz : Nat) (H : Hp) (v : AV) (q : Nat) (c : List AV) : Prop :=
 (v = .snil ∧ c = []) ∨ (∃ g, v = .sref q g 0 sz 0 (some 0) ∧ c = [] ∧ look H q g = some []) ∨ ∃ g n, v = .sref q g 0 sz n none ∧ c.length = n * sz ∧ 0 < n ∧ look H q g = some c
theorem GS.len {sz : Nat} {H : Hp} {v : AV} {q : Nat} {c : List AV} (h : GS sz H v q c) (hs : 0 < sz) : slen v = some (c.length / sz) := by
 rcases h with ⟨rfl, rfl⟩ | ⟨g, rfl, rfl, _⟩ | ⟨g, n, rfl, h1, _, _⟩
 ·simp [slen]
 ·simp [slen]
 ·rw [h1, Nat.mul_div_cancel _ hs]; rfl
structure Fam {α : Type} (f : α → List AV) (A : α → Hp) (q g N : Nat) : Prop where
 len : ∀ x, (A x).length = N
 look : ∀ x l, Zz.look (A x ++ l) q g = Option.some (f x)
 set : ∀ x y l, (A x ++ l).set q (Option.some ⟨g, f y⟩) = A y ++ l
end Go.Zz


namespace Go.Zz
end Go.Zz


namespace Go.Zz
open Classical in
noncomputable def borrowR (Γ : Env) (g : Nat) (args : List AV) (m : Mem) : Option (AV × Mem) :=
 if h : ∃ r, ∃ n, borrow Γ n g args m = some r then some h.choose else none
end Go.Zz


namespace Go.Zz
theorem wf_I64 {n : Int} (h : (Lit.int .i64 n).wf = true) : I64 n := by
 have e1 : IntKind.i64.min = -9223372036854775808 := by decide
 have e2 : IntKind.i64.max = 9223372036854775807 := by decide
 have : IntKind.i64.min ≤ n ∧ n ≤ IntKind.i64.max := by simpa [Lit.wf] using h
 rw [e1, e2] at this
 exact this
theorem all2_cons {α β : Type} {R : α → β → Prop} {k : α} {ks : List α} {l : List β} (h : All2 R (k :: ks) l) : ∃ a r, l = a :: r ∧ R k a ∧ All2 R ks r := by
 cases l with
 | nil => exact h.elim
 | cons a r => exact ⟨a, r, rfl, h.1, h.2⟩
theorem all2_nil {α β : Type} {R : α → β → Prop} {l : List β} (h : All2 R [] l) : l = [] := by
 cases l with
 | nil => rfl
 | cons a r => exact h.elim
theorem flat_chunks {α : Type} {k : Nat} : ∀ (n : Nat) (l : List α), l.length = n * k → ((List.range n).map fun i => (l.drop (i * k)).take k).flatten = l
 | 0, l, h => by
  have : l = [] := List.length_eq_zero_iff.1 (by simpa using h)
  simp [this]
 | n + 1, l, h => by
  rw [List.range_succ_eq_map, List.map_cons, List.map_map, List.flatten_cons]
  have ih := flat_chunks (k := k) n (l.drop k) (by rw [List.length_drop, h, Nat.add_mul, Nat.one_mul]; omega)
  have e : (List.range n).map ((fun i => (l.drop (i * k)).take k) ∘ Nat.succ) = (List.range n).map fun i => ((l.drop k).drop (i * k)).take k := by
   apply List.map_congr_left
   intro i _
   simp only [Function.comp, List.drop_drop, Nat.succ_mul, Nat.add_comm]
  rw [e, ih]
  simp
theorem ca_recs {fk : List FK} {x : AV} (h : CA (.slice fk) x) (hk : 0 < fk.length) : ∃ cs, SL fk.length x cs ∧ cs.length ≤ maxLen ∧ ∀ c ∈ cs, All2 FA fk c := by
 rcases h with rfl | ⟨full, len, l, rfl, hl, hlen, he⟩
 ·exact ⟨[], ⟨fun c hc => by simp at hc, .inl ⟨rfl, rfl⟩⟩, by simp, fun c hc => by simp at hc⟩
 ·have hck : ∀ i, i < len → ((l.drop (i * fk.length)).take fk.length).length = fk.length := fun i hi => by
   rw [List.length_take, List.length_drop, hlen]
   have : (i + 1) * fk.length ≤ len * fk.length := Nat.mul_le_mul_right _ hi
   rw [Nat.succ_mul] at this
   omega
  refine ⟨(List.range len).map fun i => (l.drop (i * fk.length)).take fk.length, ⟨fun c hc => ?_, .inr ⟨full, ?_⟩⟩, by simpa using hl, fun c hc => ?_⟩
  ·obtain ⟨i, hi, rfl⟩ := List.mem_map.1 hc
   exact hck i (List.mem_range.1 hi)
  ·rw [flat_chunks len l hlen]
   simp
  ·obtain ⟨i, hi, rfl⟩ := List.mem_map.1 hc
   have hi' := List.mem_range.1 hi
   have key : ∀ (a : List FK) (b : List AV), a.length = b.length → (∀ j, j < a.length → ∃ f, a[j]? = some f ∧ FA f (gt b j)) → All2 FA a b := by
    intro a
    induction a with
    | nil => intro b h _; cases b with
     | nil => trivial
     | cons _ _ => simp at h
    | cons f a ih =>
     intro b h hj
     cases b with
     | nil => simp at h
     | cons y b =>
      obtain ⟨f', h1, h2⟩ := hj 0 (by simp)
      simp at h1
      subst h1
      exact ⟨h2, ih b (by simpa using h) fun j hlt => by
       obtain ⟨f', h1, h2⟩ := hj (j + 1) (by simpa using hlt)
       exact ⟨f', by simpa using h1, h2⟩⟩
   refine key fk _ (hck i hi').symm fun j hj => ?_
   have hb : i * fk.length + j < l.length := by
    rw [hlen]
    have : (i + 1) * fk.length ≤ len * fk.length := Nat.mul_le_mul_right _ hi'
    rw [Nat.succ_mul] at this
    omega
   obtain ⟨f, h1, h2⟩ := he (i * fk.length + j) hb
   rw [Nat.mul_comm, Nat.mul_add_mod, Nat.mod_eq_of_lt hj] at h1
   refine ⟨f, h1, ?_⟩
   have e : gt ((l.drop (i * fk.length)).take fk.length) j = gt l (i * fk.length + j) := by
    simp only [gt_eq, List.getD, List.getElem?_take, if_pos hj, List.getElem?_drop]
   rw [e]
   exact h2
theorem ca_ints {x : AV} (h : CA (.slice [.int .i64]) x) : ∃ xs, IntS x xs ∧ xs.length < 9223372036854775808 ∧ ∀ y ∈ xs, I64 y := by
 obtain ⟨cs, hs, hm, hc⟩ := ca_recs h (by decide)
 have hx : ∀ c ∈ cs, ∃ n, c = [.int .i64 n] ∧ I64 n := fun c hcm => by
  obtain ⟨a, r, rfl, ⟨n, rfl, hw⟩, h2⟩ := all2_cons (hc c hcm)
  obtain rfl := all2_nil h2
  exact ⟨n, rfl, wf_I64 hw⟩
 have hex : ∃ xs : List Int, cs = xs.map (fun n => [AV.int .i64 n]) ∧ ∀ y ∈ xs, I64 y := by
  clear hs hm hc
  induction cs with
  | nil => exact ⟨[], rfl, by simp⟩
  | cons c cs ih =>
   obtain ⟨n, rfl, hn⟩ := hx c (by simp)
   obtain ⟨xs, rfl, h2⟩ := ih fun c hc => hx c (List.mem_cons_of_mem _ hc)
   exact ⟨n :: xs, rfl, fun y hy => by
    rcases List.mem_cons.1 hy with rfl | hy
    ·exact hn
    ·exact h2 y hy⟩
 obtain ⟨xs, rfl, h2⟩ := hex
 have e : (xs.map fun n => [AV.int .i64 n]).flatten = xs.map (.int .i64) := by
  clear hs hm hc hx h2
  induction xs with
  | nil => rfl
  | cons n xs ih => simp only [List.map_cons, List.flatten_cons, ih]; rfl
 refine ⟨xs, ?_, by unfold maxLen at hm; simp at hm; omega, h2⟩
 obtain ⟨_, ⟨rfl, he⟩ | ⟨f, rfl⟩⟩ := hs
 ·have : xs = [] := by simpa using he
  exact .inl ⟨rfl, this⟩
 ·refine .inr ⟨f, ?_⟩
  rw [e, List.length_map]
theorem pa_one {k : CK} {x : AV} (h : PA (false, [k]) x) : CA k x := by
 unfold PA at h
 rw [if_neg (by simp)] at h
 obtain ⟨k', hk, h⟩ := h
 simp at hk
 subst hk
 exact h
theorem pa_int {x : AV} (h : PA (false, [.flat (.int .i64)]) x) : ∃ n : Int, x = .int .i64 n ∧ I64 n := by
 obtain ⟨n, rfl, hw⟩ := pa_one h
 exact ⟨n, rfl, wf_I64 hw⟩
theorem pa_ints {x : AV} (h : PA (false, [.slice [.int .i64]]) x) : ∃ xs, IntS x xs ∧ xs.length < 9223372036854775808 ∧ ∀ y ∈ xs, I64 y := ca_ints (pa_one h)
end Go.Zz


namespace Go.Zz
open Go.ChangeShapes Go.WideShapes Go.RowKit
def CB (b : Nat) (v : Value) : Prop := ∀ a len cap, v = .slice (some a) len cap → cap * b ≤ reachBytes
def ckB (P : Program) : Nat → TypeId → Option (List Nat)
 | 0, _ => none
 | d + 1, t => match P.underlying t with
  | some (.slice e) => some [P.bytesOf e]
  | some (.struct fs) => (flatFs P (ckB P d) fs.toList 0).bind fun l => if l.length = P.cellsOf t then some l else none
  | _ => (flatOf P (d + 1) t).map fun l => l.map fun _ => 0
def BA (b : Nat) (x : AV) : Prop := ∀ n, slen x = some n → n * b ≤ reachBytes
def PB (bs : List Nat) (x : AV) : Prop :=
 match x with
 | .agg l => All2 BA bs l
 | x => ∃ b, bs = [b] ∧ BA b x
section
variable {H : Type} {enc : TypeId × Value → H} {P : Program} {w : World} {base : Nat} {sp : Nat → Bool} {held : Bool}
theorem weightsEach_mem : ∀ (ts : List TypeId) (ds : List (DataW H)) (i : Nat) (t : TypeId) (d : DataW H), ts[i]? = some t → ds[i]? = some d → ∀ n ∈ d.weights P t, n ∈ DataW.weightsEach P ts ds
 | [], _, i, t, d, h, _, _, _ => by simp at h
 | _ :: _, [], i, t, d, _, h, _, _ => by simp at h
 | t' :: ts, d' :: ds, i, t, d, h1, h2, n, hn => by
  unfold DataW.weightsEach
  cases i with
  | zero =>
   simp at h1 h2
   subst h1; subst h2
   exact List.mem_append_left _ hn
  | succ i => exact List.mem_append_right _ (weightsEach_mem ts ds i t d (by simpa using h1) (by simpa using h2) n hn)
theorem trod_cb (hsp : ∀ b, sp b = true) : ∀ (d : Nat) (t : TypeId) (bs : List Nat) (fuel : Nat) (cs : List Value) (x : DataW H × List MemPlace), ckB P d t = some bs → DataW.trod enc P w base sp held fuel t cs = some x →
  (∀ n ∈ x.1.weights P t, n ≤ reachBytes) → All2 CB bs cs
 | 0, _, _, _, _, _, h, _, _ => by cases h
 | d + 1, t, bs, fuel, cs, x, h, hx, hw => by
  unfold ckB at h
  split at h
  ·rename_i e hu
   cases h
   rcases DataW.trod_slice hu hx with ⟨rfl, rfl⟩ | ⟨a, len, cap, elems, rest, n, _, rfl, rfl, _, hlc, hcm, hel, hf, hr, _⟩
   ·exact ⟨fun a len cap h => by simp at h, trivial⟩
   ·refine ⟨fun a' len' cap' h => ?_, trivial⟩
    simp only [Value.slice.injEq, Option.some.injEq] at h
    obtain ⟨rfl, rfl, rfl⟩ := h
    have h1 := (hr (hsp _)).1
    simp only [DataW.weights, hu] at hw
    have h2 := hw _ (List.mem_cons_self ..)
    simp only [List.length_map] at h2
    have e : elems.length + rest.length = cap := by omega
    rw [e] at h2
    exact h2
  ·rename_i fs hu
   simp only [Option.bind_eq_some_iff] at h
   obtain ⟨l, hl, h⟩ := h
   split at h
   ·rename_i hlen
    cases h
    obtain ⟨xs, n, _, rfl, hcs, hxs, hf⟩ := DataW.trod_struct hu hx
    simp only [DataW.weights, hu] at hw
    have := fields_all (R := CB) (cs := cs) fs.toList 0 bs hl (by omega) fun f hfm a ha => by
     obtain ⟨i, hi, hfi⟩ := List.getElem_of_mem hfm
     have h1 := hf i f (by simp at hi; simp [← hfi, hi])
     have hxi : i < xs.length := by rw [hxs]; simpa using hi
     rw [List.getElem?_eq_getElem hxi] at h1
     refine trod_cb hsp d f.type a n _ _ ha h1 fun m hm => hw m (weightsEach_mem _ _ i f.type xs[i].1 ?_ (by simp [hxi]) m hm)
     rw [List.getElem?_map, List.getElem?_eq_getElem hi, hfi]
     rfl
    rw [hlen, ← hcs] at this
    simpa using this
   ·cases h
  ·simp only [Option.map_eq_some_iff] at h
   obtain ⟨l, hl, rfl⟩ := h
   exact (trod_flat (d + 1) t l fuel cs x hl hx).map_left (R' := CB) (f := fun _ => 0) fun a b h => fun _ _ _ _ => by simp
theorem rv_ba [Globs] {M : Mp} {x : AV} {v : Value} {b : Nat} (h : RV M x v) (hc : CB b v) : BA b x := by
 intro n hn
 cases h <;> simp only [slen, Option.some.injEq, reduceCtorEq] at hn
 ·subst hn; simp
 ·subst hn
  rename_i hle _ _ _ _
  exact Nat.le_trans (Nat.mul_le_mul_right _ hle) (hc _ _ _ rfl)
 ·subst hn
  rename_i hle _ _ _
  exact Nat.le_trans (Nat.mul_le_mul_right _ hle) (hc _ _ _ rfl)
theorem rvs_ba [Globs] {M : Mp} : ∀ {bs : List Nat} {l : List AV} {c : List Value}, l.length = c.length → (∀ i, RV M (gt l i) (ag c.toArray i)) → All2 CB bs c → All2 BA bs l
 | [], [], [], _, _, _ => trivial
 | b :: bs, x :: l, v :: c, hl, h, hc => by
  refine ⟨rv_ba (by simpa [gt, ag] using h 0) hc.1, rvs_ba (by simpa using hl) (fun i => by simpa [gt, ag] using h (i + 1)) hc.2⟩
 | [], _, _ :: _, _, _, hc => hc.elim
 | [], _ :: _, [], hl, _, _ => by simp at hl
 | _ :: _, _, [], _, _, hc => hc.elim
 | _ :: _, [], _ :: _, hl, _, _ => by simp at hl
theorem rv_pb [Globs] {M : Mp} {x : AV} {v : Value} {bs : List Nat} (h : RV M x v) (hc : All2 CB bs v.cells.toList) : PB bs x := by
 have h' := h
 cases h
 case agg l c hl h h1 => exact rvs_ba (c := c.toList) (by rw [Array.length_toList]; exact hl) (by simpa using h) (by simpa [Value.cells] using hc)
 all_goals
  match bs, hc with
  | [b], hc => exact ⟨b, rfl, rv_ba h' hc.1⟩
theorem args_pb [Globs] {W : World} {M : Mp} : ∀ {ts : List TypeId} {vs : List Value} {ds : List (DataW H)} {p : List MemPlace} {pbs : List (List Nat)} {avs : List AV}, DataW.TrodAll enc P W 0 (fun _ => true) true ts vs ds p →
  (∀ n ∈ DataW.weightsEach P ts ds, n ≤ reachBytes) → ts.mapM (ckB P 20) = some pbs → avs.length = vs.length → (∀ i, RV M (gt avs i) (ag vs.toArray i)) → All2 PB pbs avs
 | [], vs, ds, p, pbs, avs, h, _, hp, hl, _ => by
  obtain ⟨rfl, rfl, rfl⟩ := trodAll_nil h
  simp at hp
  subst hp
  have : avs = [] := List.length_eq_zero_iff.1 (by simpa using hl)
  subst this
  trivial
 | t :: ts, vs, ds, p, pbs, avs, h, hw, hp, hl, hr => by
  obtain ⟨v, vs1, d, ds1, p1, p2, rfl, rfl, rfl, h1, h2⟩ := trodAll_cons h
  simp only [List.mapM_cons, Option.bind_eq_bind, Option.bind_eq_some_iff, Option.pure_def, Option.some.injEq] at hp
  obtain ⟨bs, g1, pbs', g2, rfl⟩ := hp
  cases avs with
  | nil => simp at hl
  | cons x avs =>
   obtain ⟨fuel, h1⟩ := h1
   have hc := trod_cb (fun _ => rfl) 20 t bs fuel _ _ g1 h1 fun n hn => hw n (by unfold DataW.weightsEach; exact List.mem_append_left _ hn)
   exact ⟨rv_pb (by simpa [gt, ag] using hr 0) hc, args_pb h2 (fun n hn => hw n (by unfold DataW.weightsEach; exact List.mem_append_right _ hn)) g2 (by simpa using hl) (fun i => by simpa [gt, ag] using hr (i + 1))⟩
theorem law_contract2 [Globs] {Γ : Env} (hΓ : EnvOk P Γ) {fid : Nat} {f : Func} {s : ChangeSpec} {pks : List (Bool × List CK)} {pbs : List (List Nat)} (hp : f.params.toList.mapM (paramK P) = some pks) (hpb : f.params.toList.mapM (ckB P 20) = some pbs)
  (hl : laidOutB P = true) (hr : (f.params.toList.all fun t => P.readableRec t && decide (t < P.types.size)) = true) (hvars : s.vars = []) (hfn : ∀ (H : Type) (ds : List (DataW H)), ds.length = f.params.toList.length → s.fn H ds = { results := [.lit (.bool true)], args := ds })
  {tb : TypeId} (hres : f.resultTypes = #[tb]) (hb : P.underlying tb = some .bool)
  {W : World} {base : Nat} {args : Array Value} {ds gs : List (DataW H)} {before : List MemPlace} (hval : ∀ (j : Nat) t v, f.params[j]? = some t → args[j]? = some v → Value.okWide P W .any base t v)
  (hW : DataW.Whole enc P f.params.toList s.vars false W args.toList ds gs before) (hG : GlobW W)
  (hwt : (DataW.weightsEach P (f.params.toList ++ s.plain.varTypes P) (ds ++ gs)).all (· ≤ reachBytes) = true)
  (hlaw : ∀ avs, All2 PA pks avs → All2 PB pbs avs → ∃ n m', evF Γ n (.func fid [] []) avs ⟨[], []⟩ = some (.bool true, m')) :
  Calls P fid args W fun e W' => ∃ v, e = .returned v ∧ s.post enc P f false true false false W args v W' := by
 have hW' := hW
 obtain ⟨p, q, hA, hV, hpq, hfz, hnd⟩ := hW
 rw [hvars] at hV
 obtain ⟨rfl, rfl⟩ := trodVars_none hV
 obtain ⟨avs, x1, x2, x3⟩ := args_rv (hG := hG) hA (fun j t v a b => hval j t v (by simpa using a) (by simpa using b)) hp
 have x1' : RVs (mp0 W hG) avs args := by simpa using x1
 have hpbs : All2 PB pbs avs := by
  refine args_pb hA (fun n hn => ?_) hpb (by simpa using x1'.len) (fun i => by simpa using x1'.rel i)
  have hv0 : s.plain.varTypes P = [] := by
   have : s.plain.vars = [] := hvars
   simp [DataSpec.varTypes, this]
  rw [hv0, List.append_nil, List.append_nil] at hwt
  simpa using List.all_eq_true.1 hwt n hn
 obtain ⟨n, m', hev⟩ := hlaw avs x2 hpbs
 have ans := sound hΓ n _ _ _ _ _ hev 0 (mp0 W hG) W (.func (.func fid) #[] #[]) args (.func fid [] [] #[] #[] rfl rfl (fun i => by simp [gt, ag]; exact .tup0) (fun i => by simp [gt, ag]; exact .tup0)) x1' (holds0 W hG) (fresh0 W hG)
 cases ans with
 | func _ _ _ hcl hcall =>
  have earr : (#[] ++ args ++ #[] : Array Value) = args := by simp
  rw [earr] at hcall
  refine (callsIn_wide.1 (show CallsIn Fence.wide 0 P fid args W _ from hcall)).mono fun e W' he => ?_
  obtain ⟨v, rfl, M', g1, g2, g3⟩ := he
  cases g1
  have hkeep : ∀ b, b < W.heap.size → W'.heap[b]? = W.heap[b]? := fun b hb => g3.keep b hb (fun id bl lc h => by simp at h) (fun k r h => by simp at h)
  have hkb : W.keptBut W' (fun x => x ∈ before) := by
   refine ⟨g3.os, g3.output, fun i hi => ?_⟩
   rw [hkeep i hi]
   split
   ·rename_i h1 h2
    rw [h1] at h2
    cases h2
    exact ⟨rfl, rfl, rfl, fun _ _ => rfl⟩
   ·rename_i h1 h2
    rw [h1] at h2
    cases h2
    exact .inr ⟨rfl, rfl⟩
   ·rfl
  have hlt : ∀ x ∈ before, x.block < W.heap.size := fun x hx => hW'.lt x hx
  have hsame : ∀ x ∈ p, W.sameAt W' x := by
   intro x hx
   have := hkeep x.block (hlt x (by rw [hpq]; simp [hx]))
   cases x with
   | cell b off => exact World.cell?_of_block this
   | map b => exact this
  have hfn' := hfn H (ds ++ []) (by simpa using x3)
  refine ⟨_, rfl, post_of_same (pa := p) (pv := []) hW' (fun b sp hd => ?_) (fun sp hsp => ?_) (fun sp _ => ?_) hpq hkb g3.froz (ok_one hres rfl (okWide_bool_mk hb _))⟩
  ·rw [hfn', hres]
   exact trodAll_cons_mk (shut_bool hb _) trodAll_mk0
  ·rw [hfn']
   simp only [List.append_nil]
   refine trodAll_stays hl (fun t ht => ?_) hA hsame (fun x hx => hsp x (by rw [hpq]; simp [hx]))
   have := List.all_eq_true.1 hr t ht
   simpa using this
  ·rw [hfn', hvars]
   rfl
end
end Go.Zz


namespace Go.Zz
theorem WT.specG {Γ : Env} {rd : List DOper} {ms : List Nat} {tch : List Tch} {T T' : List AV} {H : Hp} {L : List (Option ALoop)} {Q : St → Prop} {d g : Nat} {args : List Opd} {v : AV} {as : List AV} {S : List AV → Mem → Option (AV × Mem)} (js : List Nat)
  (ha : args.map (·.ev T) = as) (hS : Γ.spec g = some S) (hj : ∀ j ∈ js, apartT tch ms (.blk j))
  (h : ∀ V : Hp, V.length = H.length → (∀ j ∈ js, V[j]? = H[j]?) → S as ⟨V, L⟩ = some (v, ⟨V, L⟩))
  (ht : pt T d v = T') (k : WT Γ rd ⟨T', H, L⟩ (tch ++ [.all]) Q) : WT Γ (⟨⟨none, some d, .call (.con (.func g [] [])) args⟩, ms⟩ :: rd) ⟨T, H, L⟩ tch Q := by
 refine ⟨fun seen hs => ?_⟩
 have hp := PartL.strikes hs.le ms (PartL.refl H)
 refine WD.call rfl ?_
 rw [ha]
 have hV := h _ hp.len fun j hjm => strikes_get hs.le ms rfl fun i hi e he => by
  have hl : i < tch.length := by rw [← hs.len]; exact (List.getElem?_eq_some_iff.1 he).1
  exact hs.away i e _ he (List.getElem?_eq_getElem hl) j (hj j hjm i hi _ (List.getElem?_eq_getElem hl))
 refine WF.spec hS (by simpa using hV) ?_
 refine ⟨dead_self _, ?_⟩
 simp only [St.put, hp.back, hp.len, ht]
 exact k.run _ (hs.app (Nat.le_refl _) (Nat.le_refl _) fun j hj => hj.elim)
theorem apart_all {tch : List Tch} {ms : List Nat} {js : List Nat} (h : ∀ j ∈ js, apartL tch j ms) : ∀ j ∈ js, apartT tch ms (.blk j) := fun j hj => apart_mk (h j hj)
end Go.Zz


namespace Go.Zz
open Go
def scalar : AV → Bool
 | .int _ _ => true
 | .bool _ => true
 | _ => false
def blankL (L : List (Option ALoop)) : List (Option ALoop) := L.map fun _ => none
def borrowP (Γ : Env) (n g : Nat) (args : List AV) (m : Mem) : Option (AV × Mem) :=
 match evF Γ n (.func g [] []) args ⟨blanks m.heap, blankL m.loops⟩ with
 | some (y, _) => if scalar y then some (y, m) else none
 | none => none
open Classical in
noncomputable def borrowQ (Γ : Env) (g : Nat) (args : List AV) (m : Mem) : Option (AV × Mem) :=
 if h : ∃ r, ∃ n, borrowP Γ n g args m = some r then some h.choose else none
end Go.Zz


namespace Go.Zz
def Grew (H H' : Hp) : Prop := H.length ≤ H'.length ∧ ∀ b, b < H.length → (H'[b]? = H[b]? ∨ ∃ x : Blk, H[b]? = some (some x))
end Go.Zz


namespace Go.Zz
end Go.Zz


namespace Go.Zz
section
variable {Γ : Env} {rd : List DOper} {ms : List Nat} {tch : List Tch} {T T' : List AV} {H : Hp} {L : List (Option ALoop)}
end
end Go.Zz


namespace Go.Zz
theorem WT.mapO {Γ : Env} {rd : List DOper} {ms : List Nat} {tch : List Tch} {T : List AV} {H : Hp} {L L' : List (Option ALoop)} {Q : St → Prop} {d : Option Nat} {op : IOp} {v : AV} (hf : freeOp op = false) (hl : ∀ X, limit T op X = X)
  (h : ∀ (V : Hp) (call : AV → List AV → Mem → Option (AV × Mem)), evOp call T ⟨V, L⟩ op = some (v, ⟨V, L'⟩)) (k : WT Γ rd (St.put ⟨T, H, L⟩ d v ⟨H, L'⟩) (tch ++ [.all]) Q) : WT Γ (⟨⟨none, d, op⟩, ms⟩ :: rd) ⟨T, H, L⟩ tch Q := by
 refine ⟨fun seen hs => ?_⟩
 have hp := PartL.strikes hs.le ms (PartL.refl H)
 refine WD.bigG hf (hl _) (h _) (dead_self _) hp.back rfl (k.run _ (hs.app (Nat.le_refl _) ?_ fun j hj => hj.elim))
 rw [hp.len]
 exact Nat.le_refl _
theorem WT.mapGet {Γ : Env} {rd : List DOper} {ms : List Nat} {tch : List Tch} {T T' : List AV} {H : Hp} {L : List (Option ALoop)} {Q : St → Prop} {d : Nat} {ok : Bool} {kd : KK} {z : AV} {x k : Opd} {i : Nat} {n : AV} {es : List AV}
  (hx : x.ev T = .mref i) (hk : k.ev T = n) (hof : kd.of n = true) (hm : L[i]? = some (some (mapObj es))) (hs : mkeys kd es = true)
  (ht : pt T d (if ok then .tuple [(mfind n es).getD z, .bool (mfind n es).isSome] else (mfind n es).getD z) = T') (h : WT Γ rd ⟨T', H, L⟩ (tch ++ [.all]) Q) : WT Γ (⟨⟨none, some d, .mapGet kd ok z x k⟩, ms⟩ :: rd) ⟨T, H, L⟩ tch Q :=
 WT.mapO rfl (fun _ => rfl) (fun V call => ev_mapGet (m := ⟨V, L⟩) hx hk hof hm hs) (by simp only [St.put, ht]; exact h)
theorem WT.mapSet {Γ : Env} {rd : List DOper} {ms : List Nat} {tch : List Tch} {T : List AV} {H : Hp} {L : List (Option ALoop)} {Q : St → Prop} {kd : KK} {x k v : Opd} {i : Nat} {n : AV} {es : List AV}
  (hx : x.ev T = .mref i) (hk : k.ev T = n) (hof : kd.of n = true) (hm : L[i]? = some (some (mapObj es))) (hs : mkeys kd es = true)
  (h : WT Γ rd ⟨T, H, L.set i (some (mapObj (mput n (v.ev T) es)))⟩ (tch ++ [.all]) Q) : WT Γ (⟨⟨none, none, .mapSet kd x k v⟩, ms⟩ :: rd) ⟨T, H, L⟩ tch Q :=
 WT.mapO rfl (fun _ => rfl) (fun V call => ev_mapSet (m := ⟨V, L⟩) hx hk hof hm hs) h
theorem WT.whole {Γ : Env} {rd : List DOper} {tch : List Tch} {T T' : List AV} {H H' : Hp} {L L' : List (Option ALoop)} {Q : St → Prop} {d : Nat} {op : IOp} {v : AV} (hf : freeOp op = false) (hl : limit T op H = H)
  (h : ∀ (call : AV → List AV → Mem → Option (AV × Mem)), evOp call T ⟨H, L⟩ op = some (v, ⟨H', L'⟩)) (hd : stillDead H H' = true) (ht : pt T d v = T') (k : WT Γ rd ⟨T', H', L'⟩ (tch ++ [.all]) Q) : WT Γ (⟨⟨none, some d, op⟩, []⟩ :: rd) ⟨T, H, L⟩ tch Q := by
 refine ⟨fun seen hs => ?_⟩
 refine WD.bigG hf hl h hd (back_dead hd) rfl (by simp only [St.put, ht]; exact k.run _ (hs.app (dead_len hd) (Nat.le_refl _) fun j hj => hj.elim))
end Go.Zz

