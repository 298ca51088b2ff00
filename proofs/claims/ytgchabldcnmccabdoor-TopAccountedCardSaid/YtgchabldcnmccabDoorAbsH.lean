import Derived.Test.YtgchabldcnmccabDoorAbsG
import Derived.Attr

set_option linter.unusedSimpArgs false
set_option linter.unusedVariables false

namespace Go.Zz
def newC (H : Hp) : AV -> Option AV
 | .int k n => some (.int k n)
 | .bool b => some (.bool b)
 | .str s => some (.str s)
 | .snil => some .snil
 | .sval f n [] => some (.sval f n [])
 | .sref id g off sz n cap => match look H id g with
  | some l => match cut l off (n * sz) with
   | some c => if c.all za9 then some (.sval (cap == some n) n c) else none
   | none => none
  | none => none
 | _ => none
def zqc (H : Hp) : List AV -> Option (List AV)
 | [] => some []
 | x :: r => match newC H x, zqc H r with
  | some a, some l => some (a :: l)
  | _, _ => none
def newA (H : Hp) : AV -> Option AV
 | .agg l => match zqc H l with | some l => some (.agg l) | none => none
 | x => newC H x
def zsF (H : Hp) : List AV -> Option (List AV)
 | [] => some []
 | x :: r => match newA H x, zsF H r with
  | some a, some l => some (a :: l)
  | _, _ => none
def zoD (H : Hp) : AV -> Option AV
 | .tuple l => match zsF H l with | some l => some (.tuple l) | none => none
 | x => newA H x
def zoJ (r : Option (AV × Mem)) (m : Mem) : Option (AV × Mem) :=
 match r with
 | some (y, m') => match zoD m'.heap y with
  | some v => some (v, m)
  | none => none
 | none => none
def zdn (Γ : Env) (n g : Nat) (args : List AV) (m : Mem) : Option (AV × Mem) :=
 match zei m.heap args with
 | some ys => zoJ (evF Γ n (.func g [] []) ys ⟨[], []⟩) m
 | none => none
section
variable [Globs] {P : Program} {M M1 : Mp} {H : Hp} {L : List (Option ALoop)} {w' : World} {n : Nat}
theorem zn6 (h : Holds P M1 H L w') (hn : ∀ (id : Nat) (b : Blk) lc, H[id]? = some (some b) -> M1.loc id b.gen = some lc -> n <= lc.blk) {x y : AV} {v : Value} (hx : RV M1 x v) (hy : newC H x = some y) : RV (zc1 M n w' h.globs) y v := by
 unfold newC at hy
 cases hx with
 | int k n => cases hy; exact .int k n
 | bool b => cases hy; exact .bool b
 | str s => cases hy; exact .str s
 | snil => cases hy; exact .snil
 | sval full len l b o cap f hc hf hi hr h1 =>
  cases l with
  | nil => cases hy; exact .sval full len [] b o cap f hc hf (fun i hi => by simp at hi) (fun i hi => by simp at hi) (fun i hi => by simp at hi)
  | cons a l => simp at hy
 | sref id g off sz len cap lc ccap hl hc hr he ho =>
  simp only at hy
  split at hy
  ·rename_i l hk
   split at hy
   ·rename_i c hcut
    split at hy
    ·rename_i hfl
     cases hy
     obtain ⟨lc0, hB⟩ := h.blk id _ (zcl hk)
     have e0 : lc0 = lc := by have := hB.loc; simp only at this; rw [hl] at this; exact (Option.some.inj this).symm
     subst e0;have hnew := hn id _ lc0 (zcl hk) hl;unfold cut at hcut
     split at hcut
     ·rename_i hle
      cases hcut
      rw [List.all_eq_true] at hfl
      have hlen : ((l.drop off).take (len * sz)).length = len * sz := by simp; omega
      have hg : ∀ i, i < len * sz -> gt ((l.drop off).take (len * sz)) i = gt l (off + i) := fun i hi => by
       simp only [zeg, List.getD, List.getElem?_take, if_pos hi, List.getElem?_drop]
      have cell : ∀ i, i < len * sz -> ∃ u, w'.cell? ⟨lc0.blk, lc0.base + off + i, none⟩ = some u /\ RV M1 (gt l (off + i)) u /\ u.oneCell' = true := fun i hi => by
       obtain ⟨u, a1, a2, a3⟩ := hB.rel (off + i) (by simp only; omega);exact ⟨u, by rw [Nat.add_assoc]; exact a1, a2, a3⟩
      refine .sval _ len _ lc0.blk (lc0.base + off) ccap (fun i => (w'.cell? ⟨lc0.blk, lc0.base + off + i, none⟩).getD undef) hc (fun e => he _ (by simpa using e)) (fun i hi => ?_) (fun i hi => ?_) (fun i hi => ?_) <;> (
       rw [hlen] at hi
       obtain ⟨u, a1, a2, a3⟩ := cell i hi)
      ·show (if lc0.blk < n then _ else _) = _
       rw [if_neg (by omega), a1]; rfl
      ·simp only [a1, Option.getD_some];refine zey (hfl _ ?_) (by rw [hg i hi]; exact a2);rw [zba (by rw [hlen]; exact hi)];exact List.getElem_mem _
      ·simp only [a1, Option.getD_some];exact a3
     ·cases hcut
    ·cases hy
   ·cases hy
  ·cases hy
 | _ => simp at hy
theorem znT (h : Holds P M1 H L w') (hn : ∀ (id : Nat) (b : Blk) lc, H[id]? = some (some b) -> M1.loc id b.gen = some lc -> n <= lc.blk) : ∀ {xs ys : List AV}, zqc H xs = some ys -> xs.length = ys.length /\ ∀ i v, RV M1 (gt xs i) v -> RV (zc1 M n w' h.globs) (gt ys i) v
  | [], ys, hy => by
    cases hy
    refine ⟨rfl, fun i v hv => ?_⟩;simp only [gt] at hv ⊢
    cases hv with
    | tup0 => exact .tup0
    | tuple l c hl _ => have : c = #[] := by simpa using hl.symm
                        subst this; exact .tup0
  | x :: r, ys, hy => by
    unfold zqc at hy
    split at hy
    · rename_i a l ha hl
      cases hy
      obtain ⟨g1, g2⟩ := znT h hn hl;refine ⟨by simp [g1], fun i v hv => ?_⟩
      cases i with
      | zero => exact zn6 h hn hv ha
      | succ i => exact g2 i v hv
    · cases hy
theorem znG (h : Holds P M1 H L w') (hn : ∀ (id : Nat) (b : Blk) lc, H[id]? = some (some b) -> M1.loc id b.gen = some lc -> n <= lc.blk) {x y : AV} {v : Value} (hx : RV M1 x v) (hy : newA H x = some y) : RV (zc1 M n w' h.globs) y v := by
 unfold newA at hy
 split at hy
 ·split at hy
  ·rename_i l l' hl
   cases hy
   cases hx with
   | agg _ c hlc hr h1 =>
    obtain ⟨g1, g2⟩ := znT (M := M) h hn hl;exact .agg _ c (by omega) (fun i => g2 i _ (hr i)) h1
  ·cases hy
 ·exact zn6 h hn hx hy
theorem zmn (h : Holds P M1 H L w') (hn : ∀ (id : Nat) (b : Blk) lc, H[id]? = some (some b) -> M1.loc id b.gen = some lc -> n <= lc.blk) : ∀ {xs ys : List AV}, zsF H xs = some ys -> xs.length = ys.length /\ ∀ i v, RV M1 (gt xs i) v -> RV (zc1 M n w' h.globs) (gt ys i) v
  | [], ys, hy => by
    cases hy
    refine ⟨rfl, fun i v hv => ?_⟩;simp only [gt] at hv ⊢
    cases hv with
    | tup0 => exact .tup0
    | tuple l c hl _ => have : c = #[] := by simpa using hl.symm
                        subst this; exact .tup0
  | x :: r, ys, hy => by
    unfold zsF at hy
    split at hy
    · rename_i a l ha hl
      cases hy
      obtain ⟨g1, g2⟩ := zmn h hn hl;refine ⟨by simp [g1], fun i v hv => ?_⟩
      cases i with
      | zero => exact znG h hn hv ha
      | succ i => exact g2 i v hv
    · cases hy
theorem zra (h : Holds P M1 H L w') (hn : ∀ (id : Nat) (b : Blk) lc, H[id]? = some (some b) -> M1.loc id b.gen = some lc -> n <= lc.blk) {x y : AV} {v : Value} (hx : RV M1 x v) (hy : zoD H x = some y) : RV (zc1 M n w' h.globs) y v := by
 unfold zoD at hy
 split at hy
 ·split at hy
  ·rename_i l l' hl
   cases hy
   obtain ⟨g1, g2⟩ := zmn (M := M) h hn hl
   cases hx with
   | tup0 =>
    have : l' = [] := by simpa using g1.symm
    subst this
    exact .tup0
   | tuple _ c hlc hr => exact .tuple _ c (by omega) (fun i => g2 i _ (hr i))
  ·cases hy
 ·exact znG h hn hx hy
end
theorem zlz [Globs] {P : Program} {Γ : Env} (hΓ : EnvOk P Γ) {n g : Nat} (hg : zbN P g) : zek P g (zdn Γ n g) := by
 refine ⟨hg, fun args m v mm hS N M w cargs ha h hf => ?_⟩;unfold zdn at hS
 split at hS
 ·rename_i ys hys;unfold zoJ at hS
  split at hS
  ·rename_i y m' hev
   split at hS
   ·rename_i y' hres;simp only [Option.some.injEq, Prod.mk.injEq] at hS;obtain ⟨rfl, rfl⟩ := hS
    have hys' : RVs (mp0 w h.globs) ys cargs := by
     have := zgA h (c := cargs.toList) hys (by simpa using ha);simpa using this
    have ans := zm5 hΓ n _ _ _ _ _ hev N (mp0 w h.globs) w (.func (.func g) #[] #[]) cargs (.func g [] [] #[] #[] rfl rfl (fun i => by simp [gt, ag]; exact .tup0) (fun i => by simp [gt, ag]; exact .tup0)) hys' (zor w h.globs) (zox w h.globs)
    cases ans with
    | func _ _ _ hcl hcall =>
     have earr : (#[] ++ cargs ++ #[] : Array Value) = cargs := by simp
     rw [earr] at hcall
     refine hcall.mono fun e w' he => ?_
     obtain ⟨cv, rfl, M1, g1, g2, g3⟩ := he
     have hkeep : ∀ b, b < w.heap.size -> w'.heap[b]? = w.heap[b]? := fun b hb => g3.keep b hb (fun id bl lc h => by simp at h) (fun k r h => by simp at h)
     have hsz := g3.size
     have hn : ∀ (id : Nat) (b : Blk) lc, m'.heap[id]? = some (some b) -> M1.loc id b.gen = some lc -> w.heap.size <= lc.blk := by
      intro id b lc hb hl
      refine Nat.le_of_not_lt fun hlt => ?_
      obtain ⟨_, _, hx, _⟩ := g3.old id b lc hb hl hlt;simp at hx
     have hle : M.le (zc1 M w.heap.size w' g2.globs) := ⟨fun b o u hu => by
      show (if b < w.heap.size then _ else _) = _
      rw [if_pos (zcR (h.imm b o u hu))]; exact hu, fun _ _ _ h => h, fun _ _ h => h⟩
     have oldlt : ∀ (id : Nat) (b : Blk) lc, m.heap[id]? = some (some b) -> M.loc id b.gen = some lc -> lc.blk < w.heap.size := fun id b lc hb hl => by
      obtain ⟨lc', hB⟩ := h.blk id b hb;have := hB.loc;rw [hl] at this;rw [Option.some.inj this];exact hB.lt
     refine ⟨cv, rfl, zc1 M w.heap.size w' g2.globs, zra (M := M) g2 hn g1 hres, ⟨?_, ?_, ?_, ?_, ?_, ?_, ?_⟩, ?_⟩
     ·intro b o u hu;simp only [zc1] at hu
      split at hu
      ·rename_i hlt;rw [World.cell?_of_block (w := w) (hkeep b hlt)];exact h.imm b o u hu
      ·exact hu
     ·intro id b hb;obtain ⟨lc, hB⟩ := h.blk id b hb;exact ⟨lc, hB.kept hle (hkeep _ hB.lt) hsz⟩
     ·intro id b lc hb hl o
      show (if lc.blk < w.heap.size then _ else _) = _
      rw [if_pos (oldlt id b lc hb hl)];exact h.sep id b lc hb hl o
     ·exact h.inj
     ·exact h.gen
     ·intro k q hq;obtain ⟨l, h1, h2⟩ := h.lp k q hq;exact ⟨l, h1, h2.kept hle (hkeep l h2.lt)⟩
     ·exact h.lpi
     ·exact ⟨g3.os, g3.output, hsz, g3.froz, fun b hb _ _ => hkeep b hb, fun id bl lc h1 h2 _ => ⟨bl, lc, h1, h2, rfl⟩, fun k r l h1 h2 _ => ⟨r, h1, h2⟩, Nat.le_refl _, Nat.le_refl _, hle,
       (fun id gg lc h1 h0 => by rw [show (zc1 M w.heap.size w' g2.globs).loc id gg = M.loc id gg from rfl, h0] at h1; cases h1), fun id b hb => ⟨b, hb⟩, (fun b o hb => if_pos hb),
       (fun k l h1 h0 => by rw [show (zc1 M w.heap.size w' g2.globs).lp k = M.lp k from rfl, h0] at h1; cases h1), fun l q hq => ⟨q, (hkeep l (Array.getElem?_eq_some_iff.1 hq).1).trans hq⟩⟩
   ·cases hS
  ·cases hS
 ·cases hS
theorem zfR {Γ : Env} {n k g : Nat} (hk : n <= k) {args : List AV} {m : Mem} {r : AV × Mem} (h : zdn Γ n g args m = some r) : zdn Γ k g args m = some r := by
 unfold zdn at h ⊢
 split at h
 ·rename_i ys hp
  cases he : evF Γ n (.func g [] []) ys ⟨[], []⟩ with
  | none => rw [he] at h; simp [zoJ] at h
  | some q =>
   rw [he] at h;have := (zck Γ hk).2 _ _ _ _ he;simp only at this;simp only [this];exact h
 ·cases h
open Classical in
noncomputable def zaA (Γ : Env) (g : Nat) (args : List AV) (m : Mem) : Option (AV × Mem) :=
 if h : ∃ r, ∃ n, zdn Γ n g args m = some r then some h.choose else none
theorem za6 [Globs] {P : Program} {Γ : Env} (hΓ : EnvOk P Γ) {g : Nat} (hg : zbN P g) : zek P g (zaA Γ g) := by
 refine ⟨hg, fun args m v mm hS => ?_⟩;unfold zaA at hS
 split at hS
 ·rename_i h;obtain ⟨n, hn⟩ := h.choose_spec;have e := Option.some.inj hS;rw [e] at hn;exact (zlz hΓ (n := n) hg).2 args m v mm hn
 ·cases hS
theorem zaS {Γ : Env} {g : Nat} {args ys : List AV} {m : Mem} {v : AV} (hy : zei m.heap args = some ys) (h : WF Γ (.func g [] []) ys ⟨[], []⟩ fun y m' => zoD m'.heap y = some v) : zaA Γ g args m = some (v, m) := by
 obtain ⟨n, y, m', h1, h2⟩ := h.ex
 have hn : zdn Γ n g args m = some (v, m) := by
  unfold zdn;rw [hy];simp only [h1, zoJ, h2]
 have hex : ∃ r, ∃ n, zdn Γ n g args m = some r := ⟨_, n, hn⟩
 unfold zaA;rw [dif_pos hex];obtain ⟨k, hk⟩ := hex.choose_spec;have a1 := zfR (Nat.le_max_left n k) hn;have a2 := zfR (Nat.le_max_right n k) hk;rw [a1] at a2;exact a2.symm
end Go.Zz


namespace Go.Zz
section
variable {Γ : Env} {T : List AV} {H : Hp} {L : List (Option ALoop)}
end
end Go.Zz


namespace Go.Zz
attribute [go_sem] zrF zq4 zf5 zkZ zpo zcp zil zf3 zkn ziE ztr zoL zoU zoI ev_un zqK zjW zbE ze0 zgP zjD zpx zja zg8 zpm zma zaf zrX zrv zm7 zbj zlH zqA zpj zl7 Opd.ev AV.cells zaM Option.map_some Option.bind_some List.length_nil List.length_cons List.nil_append List.cons_append zdz zbQ za4 zjy zk7 zif List.getElem?_cons_zero List.getElem?_cons_succ Bool.false_eq_true if_false if_true Bool.or_true Bool.or_false Bool.not_true Bool.not_false zr8 or_true true_or false_or Nat.zero_add Nat.add_zero beq_self_eq_true ge_iff_le gt_iff_lt
theorem zqU {n : Int} (h1 : -9223372036854775808 <= n) (h2 : n <= 9223372036854775807) : IntKind.wrap .i64 n = n := by
 simp [IntKind.wrap, IntKind.signed, IntKind.bits]
 split <;> omega
def I64 (n : Int) : Prop := -9223372036854775808 <= n /\ n <= 9223372036854775807
theorem zoP (l : List AV) : l = (List.range l.length).map (gt l) := by
 apply List.ext_getElem (by simp);intro i h1 h2;simp only [List.getElem_map, List.getElem_range, zeg, List.getD, List.getElem?_eq_getElem h1, Option.getD_some]
theorem zbb {i n : Nat} (h : i < n) : idx (.int .i64 (i : Int)) n = some i := by
 unfold idx;simp only;rw [if_pos (by omega)];simp
def SL (k : Nat) (x : AV) (cs : List (List AV)) : Prop := (∀ c ∈ cs, c.length = k) /\ ((x = .snil /\ cs = []) \/ ∃ full, x = .sval full cs.length cs.flatten)
theorem zkJ {k : Nat} : ∀ {cs : List (List AV)}, (∀ c ∈ cs, c.length = k) -> cs.flatten.length = cs.length * k
 | [], _ => by simp
 | c :: cs, h => by
  have h1 := h c (by simp)
  have h2 := zkJ fun c hc => h c (List.mem_cons_of_mem _ hc)
  simp only [List.flatten_cons, List.length_append, h1, h2, List.length_cons, Nat.succ_mul];omega
theorem zjn {k : Nat} : ∀ {cs : List (List AV)} {i : Nat}, (∀ c ∈ cs, c.length = k) -> (hi : i < cs.length) -> cs.flatten.drop (i * k) = cs[i] ++ (cs.drop (i + 1)).flatten
 | [], _, _, hi => by simp at hi
 | c :: cs, 0, h, hi => by simp
 | c :: cs, i + 1, h, hi => by
  have h1 := h c (by simp);have h2 := zjn (cs := cs) (i := i) (fun c hc => h c (List.mem_cons_of_mem _ hc)) (by simpa using hi);simp only [List.flatten_cons, List.getElem_cons_succ, List.drop_succ_cons];rw [<- h2, Nat.succ_mul, Nat.add_comm, <- h1, List.drop_append];simp
theorem SL.len {k : Nat} {x : AV} {cs : List (List AV)} (h : SL k x cs) : zcH x = some cs.length := by
 obtain ⟨_, ⟨rfl, rfl⟩ | ⟨f, rfl⟩⟩ := h <;> rfl
theorem SL.cells {k : Nat} {x : AV} {cs : List (List AV)} (h : SL k x cs) : x.cells = some [x] := by
 obtain ⟨_, ⟨rfl, rfl⟩ | ⟨f, rfl⟩⟩ := h <;> rfl
theorem SL.at {k : Nat} {x : AV} {cs : List (List AV)} (h : SL k x cs) {i : Nat} (hi : i < cs.length) : zaj k x (.int .i64 (i : Int)) = some (.pval (cs[i] ++ (cs.drop (i + 1)).flatten)) := by
 obtain ⟨h0, ⟨rfl, rfl⟩ | ⟨f, rfl⟩⟩ := h
 ·simp at hi
 ·simp only [zaj, zbb hi, Option.map_some, zjn h0 hi]
theorem SL.scells {k : Nat} {x : AV} {cs : List (List AV)} (h : SL k x cs) (H : Hp) : scells H k x = some cs.flatten := by
 obtain ⟨h0, ⟨rfl, rfl⟩ | ⟨f, rfl⟩⟩ := h
 ·rfl
 ·simp only [Zz.scells, if_pos (zkJ h0)]
def IntS (x : AV) (xs : List Int) : Prop := (x = .snil /\ xs = []) \/ ∃ full, x = .sval full xs.length (xs.map (.int .i64))
theorem IntS.len {x : AV} {xs : List Int} (h : IntS x xs) : zcH x = some xs.length := by
 rcases h with ⟨rfl, rfl⟩ | ⟨full, rfl⟩ <;> rfl
theorem IntS.cells {x : AV} {xs : List Int} (h : IntS x xs) : x.cells = some [x] := by
 rcases h with ⟨rfl, rfl⟩ | ⟨full, rfl⟩ <;> rfl
theorem zmO {α : Type} {l : List α} {i : Nat} (h : i < l.length) : l.drop i = l[i] :: l.drop (i + 1) := List.drop_eq_getElem_cons h
theorem IntS.at {x : AV} {xs : List Int} (h : IntS x xs) {i : Nat} (hi : i < xs.length) : zaj 1 x (.int .i64 (i : Int)) = some (.pval (.int .i64 xs[i] :: (xs.drop (i + 1)).map (.int .i64))) := by
 rcases h with ⟨rfl, rfl⟩ | ⟨full, rfl⟩
 ·simp at hi
 ·simp only [zaj, zbb hi, Option.map_some, Nat.mul_one, <- List.map_drop, zmO hi, List.map_cons]
theorem IntS.scells {x : AV} {xs : List Int} (h : IntS x xs) (H : Hp) : scells H 1 x = some (xs.map (.int .i64)) := by
 rcases h with ⟨rfl, rfl⟩ | ⟨full, rfl⟩
 ·rfl
 ·simp [Zz.scells]
theorem IntS.mk (xs : List Int) (f : Bool) : IntS (.sval f xs.length (xs.map (.int .i64))) xs := .inr ⟨f, rfl⟩
theorem IntS.nil : IntS .snil [] := .inl ⟨rfl, rfl⟩
theorem zbs (xs : List Int) : (xs.map (AV.int .i64)).all za9 = true := by simp [za9]
theorem IntS.pureC {x : AV} {xs : List Int} (h : IntS x xs) : Zz.pureC x = true := by
 rcases h with ⟨rfl, _⟩ | ⟨f, rfl⟩
 ·rfl
 ·exact zbs _
theorem IntS.pureA {x : AV} {xs : List Int} (h : IntS x xs) : Zz.pureA x = true := by
 rcases h with ⟨rfl, _⟩ | ⟨f, rfl⟩
 ·rfl
 ·exact zbs _
theorem IntS.byVal {x : AV} {xs : List Int} (h : IntS x xs) (H : Hp) : Zz.byVal H x = some x := by
 rcases h with ⟨rfl, _⟩ | ⟨f, rfl⟩
 ·rfl
 ·simp only [Zz.byVal, Zz.byC, zbs, if_true]
theorem SL.byVal {k : Nat} {x : AV} {cs : List (List AV)} (h : SL k x cs) (hf : ∀ c ∈ cs, c.all za9 = true) (H : Hp) : Zz.byVal H x = some x := by
 obtain ⟨_, ⟨rfl, rfl⟩ | ⟨f, rfl⟩⟩ := h
 ·rfl
 ·have e : cs.flatten.all za9 = true := by
   rw [List.all_eq_true];intro v hv;obtain ⟨c, hc, hvc⟩ := List.mem_flatten.1 hv;exact List.all_eq_true.1 (hf c hc) v hvc
  simp only [Zz.byVal, Zz.byC, e, if_true]
theorem zal {H : Hp} {x y : AV} {r ys : List AV} (h : byVal H x = some y) (k : zei H r = some ys) : zei H (x :: r) = some (y :: ys) := by
 simp only [zei, h, k]
section
variable {α : Type} {R l : List α} {a b c d e f : α}
theorem zjz : (R ++ a :: l)[R.length]? = some a := by simp
theorem zs9 : (R ++ a :: b :: l)[R.length + 1]? = some b := by simp
theorem zsx : (R ++ a :: b :: c :: l)[R.length + 2]? = some c := by simp
theorem zsu : (R ++ a :: b :: c :: d :: l)[R.length + 3]? = some d := by simp
theorem zbB {x : α} : (R ++ a :: l).set R.length x = R ++ x :: l := by simp
theorem zlp {x : α} : (R ++ a :: b :: l).set (R.length + 1) x = R ++ a :: x :: l := by simp
theorem zqr {x : α} : (R ++ a :: b :: c :: l).set (R.length + 2) x = R ++ a :: b :: x :: l := by simp
end
theorem WC.inv {Γ : Env} {body : IR} {Q : Ex -> St -> Prop} (I : Nat -> St -> Prop)
  (h : ∀ n s, I n s -> WC Γ body s fun e s' => match e with | .normal => ∃ m, m < n /\ I m s' | e => Q e s') : ∀ n s, I n s -> WC Γ (.loop body) s Q := by
 intro n
 induction n using Nat.strongRecOn with
 | ind n ih =>
  intro s hs;refine WC.loop ((h n s hs).mono fun e s' he => ?_)
  cases e with
  | normal =>
   obtain ⟨m, hm, hi⟩ := he
   exact ih m hm s' hi
  | exit id => exact he
  | ret => exact he
end Go.Zz


namespace Go.Zz
section
variable {x0 x1 x2 x3 x4 x5 x6 x7 v : AV} {l : List AV} {n : Nat}
theorem pt8 : pt (x0 :: x1 :: x2 :: x3 :: x4 :: x5 :: x6 :: x7 :: l) (n + 8) v = x0 :: x1 :: x2 :: x3 :: x4 :: x5 :: x6 :: x7 :: pt l n v := rfl
theorem gt8 : gt (x0 :: x1 :: x2 :: x3 :: x4 :: x5 :: x6 :: x7 :: l) (n + 8) = gt l n := rfl
theorem pt0 : pt (x0 :: l) 0 v = v :: l := rfl
theorem pt1 : pt (x0 :: x1 :: l) 1 v = x0 :: v :: l := rfl
theorem pt2 : pt (x0 :: x1 :: x2 :: l) 2 v = x0 :: x1 :: v :: l := rfl
theorem pt3 : pt (x0 :: x1 :: x2 :: x3 :: l) 3 v = x0 :: x1 :: x2 :: v :: l := rfl
theorem pt4 : pt (x0 :: x1 :: x2 :: x3 :: x4 :: l) 4 v = x0 :: x1 :: x2 :: x3 :: v :: l := rfl
theorem pt5 : pt (x0 :: x1 :: x2 :: x3 :: x4 :: x5 :: l) 5 v = x0 :: x1 :: x2 :: x3 :: x4 :: v :: l := rfl
theorem pt6 : pt (x0 :: x1 :: x2 :: x3 :: x4 :: x5 :: x6 :: l) 6 v = x0 :: x1 :: x2 :: x3 :: x4 :: x5 :: v :: l := rfl
theorem pt7 : pt (x0 :: x1 :: x2 :: x3 :: x4 :: x5 :: x6 :: x7 :: l) 7 v = x0 :: x1 :: x2 :: x3 :: x4 :: x5 :: x6 :: v :: l := rfl
theorem gt0 : gt (x0 :: l) 0 = x0 := rfl
theorem gt1 : gt (x0 :: x1 :: l) 1 = x1 := rfl
theorem gt2 : gt (x0 :: x1 :: x2 :: l) 2 = x2 := rfl
theorem gt3 : gt (x0 :: x1 :: x2 :: x3 :: l) 3 = x3 := rfl
theorem gt4 : gt (x0 :: x1 :: x2 :: x3 :: x4 :: l) 4 = x4 := rfl
theorem gt5 : gt (x0 :: x1 :: x2 :: x3 :: x4 :: x5 :: l) 5 = x5 := rfl
theorem gt6 : gt (x0 :: x1 :: x2 :: x3 :: x4 :: x5 :: x6 :: l) 6 = x6 := rfl
theorem gt7 : gt (x0 :: x1 :: x2 :: x3 :: x4 :: x5 :: x6 :: x7 :: l) 7 = x7 := rfl
end
section
variable {Γ : Env} {r : List IOper} {rd : List DOper} {ms : List Nat} {seen : List (Hp × Nat × Nat)} {T T' : List AV} {H : Hp} {L : List (Option ALoop)}
theorem WO.opE {Q : St -> Prop} {d : Nat} {op : IOp} {v : AV} {H' : Hp} {L' : List (Option ALoop)} (h : ∀ call, zaW call T ⟨H, L⟩ op = some (v, ⟨H', L'⟩)) (ht : pt T d v = T') (k : WO Γ r ⟨T', H', L'⟩ Q) : WO Γ (⟨none, some d, op⟩ :: r) ⟨T, H, L⟩ Q :=
 WO.op h (by rw [ht]; exact k)
theorem WO.noE {Q : St -> Prop} {d : Nat} {op : IOp} {t : Nat} {b : Bool} (hg : zaX T (some (t, b)) = false) (ht : pt T d und = T') (k : WO Γ r ⟨T', H, L⟩ Q) : WO Γ (⟨some (t, b), some d, op⟩ :: r) ⟨T, H, L⟩ Q := by
 obtain ⟨n, s', h1, h2⟩ := k.ex;refine ⟨⟨n, s', ?_, h2⟩⟩;simp only [zdD, hg, Bool.false_eq_true, if_false, St.put, ht];exact h1
theorem WO.callE {Q : St -> Prop} {d : Nat} {f : Opd} {args : List Opd} {fv v : AV} {as : List AV} {m' : Mem} (hf : f.ev T = fv) (ha : args.map (·.ev T) = as) (h : WF Γ fv as ⟨H, L⟩ fun y m => y = v /\ m = m') (ht : pt T d v = T') (k : WO Γ r ⟨T', m'.heap, m'.loops⟩ Q) : WO Γ (⟨none, some d, .call f args⟩ :: r) ⟨T, H, L⟩ Q :=
 WO.call hf ha (h.mono fun y m hm => by obtain ⟨rfl, rfl⟩ := hm; rw [ht]; exact k)
theorem WO.specE {Q : St -> Prop} {d g : Nat} {args : List Opd} {v : AV} {as : List AV} {S : List AV -> Mem -> Option (AV × Mem)} {H' : Hp} {L' : List (Option ALoop)} (ha : args.map (·.ev T) = as) (hs : Γ.spec g = some S) (h : S as ⟨H, L⟩ = some (v, ⟨H', L'⟩)) (ht : pt T d v = T') (k : WO Γ r ⟨T', H', L'⟩ Q) : WO Γ (⟨none, some d, .call (.con (.func g [] [])) args⟩ :: r) ⟨T, H, L⟩ Q :=
 WO.callE rfl ha (WF.spec hs (by simpa using h) ⟨rfl, rfl⟩) ht k
theorem zx7 {Q : St -> Prop} {t : Nat} {b : Bool} {p : Prop} [Decidable p] {d : Option Nat} {op : IOp} {T1 T2 : List AV} (hg : gt T t = .bool (decide p)) (e1 : p -> T = T1) (e2 : ¬ p -> T = T2) (h1 : p -> WO Γ (⟨some (t, b), d, op⟩ :: r) ⟨T1, H, L⟩ Q) (h2 : ¬ p -> WO Γ (⟨some (t, b), d, op⟩ :: r) ⟨T2, H, L⟩ Q) : WO Γ (⟨some (t, b), d, op⟩ :: r) ⟨T, H, L⟩ Q := by
 by_cases hp : p
 ·rw [e1 hp]; exact h1 hp
 ·rw [e2 hp]; exact h2 hp
theorem zy4 {c : Opd} {a b : IR} {p : Prop} [Decidable p] {Q : Ex -> St -> Prop} (hg : c.ev T = .bool (decide p)) (h1 : p -> WC Γ a ⟨T, H, L⟩ Q) (h2 : ¬ p -> WC Γ b ⟨T, H, L⟩ Q) : WC Γ (.cond c a b) ⟨T, H, L⟩ Q := by
 by_cases hp : p
 ·exact zy0 (by rw [hg, decide_eq_true hp]) (h1 hp)
 ·exact zy9 (by rw [hg, decide_eq_false hp]) (h2 hp)
end
noncomputable def Env.add (Γ : Env) (g : Nat) : Env := { fn := Γ.fn, spec := fun k => if k = g then some (zar Γ g) else Γ.spec k }
noncomputable def Env.addX (Γ : Env) (g : Nat) : Env := { fn := Γ.fn, spec := fun k => if k = g then some (zaA Γ g) else Γ.spec k }
def BackL (res : List IRes) (Q : AV -> Mem -> Prop) : Ex -> St -> Prop
 | .normal, s | .ret, s => ∃ l, zbZ s.T s.heap res = some l /\ Q (zbo l) s.mem
 | _, _ => False
theorem zx0 {Γ : Env} {g : Nat} {a c args : List AV} {m : Mem} {fn : IFunc} {Q : AV -> Mem -> Prop} (hs : Γ.spec g = none) (hf : Γ.fn g = some fn) (hl : (a ++ args ++ c).length <= fn.ntmps) (h : WC Γ fn.body ⟨zaw fn.ntmps (a ++ args ++ c), m.heap, m.loops⟩ (BackL fn.results Q)) : WF Γ (.func g a c) args m Q :=
 WF.fn hs hf hl (h.mono fun e s he => by cases e <;> exact he)
def zpw (I : Nat -> St -> Prop) (n : Nat) (Q : Ex -> St -> Prop) : Ex -> St -> Prop
 | .normal, s => ∃ m, m < n /\ I m s
 | e, s => Q e s
section
variable {Γ : Env} {b : IR} {Q : Ex -> St -> Prop} {s : St} {id id' n : Nat} {I : Nat -> St -> Prop}
theorem fl1 : ztu Γ b Q .normal s = WC Γ b s Q := rfl
theorem fl2 : ztu Γ b Q .ret s = Q .ret s := rfl
theorem fl3 : ztu Γ b Q (.exit id) s = Q (.exit id) s := rfl
theorem fl4 : Out id Q .normal s = Q .normal s := rfl
theorem fl5 : Out id Q .ret s = Q .ret s := rfl
theorem fl6 : Out id Q (.exit id) s = Q .normal s := if_pos rfl
theorem fl8 : zpw I n Q .ret s = Q .ret s := rfl
theorem fl9 : zpw I n Q (.exit id) s = Q (.exit id) s := rfl
theorem zbr : zpw I n Q .normal s = ∃ m, m < n /\ I m s := rfl
end
theorem zrx {a b : Int} : (a == b) = decide (a = b) := by
 by_cases h : a = b
 ·simp [h]
 ·simp [h]
theorem zrl {a b : Int} : (a != b) = decide (¬ a = b) := by
 by_cases h : a = b
 ·simp [h]
 ·simp [h]
theorem zx9 {Γ : Env} {body : IR} {Q : Ex -> St -> Prop} (I : Nat -> St -> Prop) (h : ∀ n s, I n s -> WC Γ body s (zpw I n Q)) : ∀ n s, I n s -> WC Γ (.loop body) s Q :=
 WC.inv I fun n s hs => (h n s hs).mono fun e s' he => by
  cases e <;> exact he
theorem za1 {x : AV} {l : List AV} (h : pureA x = true) (k : l.all pureA = true) : (x :: l).all pureA = true := by
 simp only [List.all_cons, h, k, Bool.and_self]
theorem zq2 {a b : Int} : (if b < a then b else a) = min a b := by omega
theorem zrS {a b : Int} : (if a < b then b else a) = max a b := by omega
theorem znK {x : Int} {n : Nat} (h1 : 0 <= x) (h2 : x < n) : idx (.int .i64 x) n = some x.toNat := if_pos ⟨h1, h2⟩
theorem zdV {n : Nat} : ((n : Int)).toNat = n := rfl
theorem zmi {n : Nat} : ((n : Int) + 1).toNat = n + 1 := rfl
attribute [go_sem] zdh zr7 zq2 zrS
attribute [go_sem] gt8 gt0 gt1 gt2 gt3 gt4 gt5 gt6 gt7 zqU zbb znK zdV zmi List.take_succ_cons List.take_zero List.drop_succ_cons List.drop_zero List.take_nil List.drop_nil List.set_cons_zero List.set_cons_succ zrx zrl decide_true Option.bind_eq_bind zaZ storeAt zat
attribute [go_sem <-] decide_not
end Go.Zz


namespace Go.Zz
inductive Tch where
 | none
 | blk (id : Nat)
 | all
def Away (j : Nat) (e : Hp × Nat × Nat) : Prop := (e.1[j]? = some Option.none \/ e.1[j]? = Option.none) /\ (j < e.2.1 \/ e.2.2 <= j)
def Tch.free (j : Nat) : Tch -> Prop
 | .none => True
 | .blk i => j ≠ i
 | .all => False
theorem zmh {H : Hp} {a b j : Nat} (hb : b <= H.length) (h : j < a \/ b <= j) : (strike H a b)[j]? = H[j]? := by
 unfold strike
 split
 ·rename_i hab
  rcases h with h | h
  ·rw [List.append_assoc, List.getElem?_append_left (by simp; omega)];simp [h]
  ·rw [List.getElem?_append_right (by simp; omega)];simp only [List.length_append, List.length_take, List.length_replicate, List.getElem?_drop]
   congr 1
   omega
 ·rfl
theorem zbD {seen : List (Hp × Nat × Nat)} {n j : Nat} (hs : ∀ e ∈ seen, e.2.2 <= n) : ∀ (ms : List Nat) {H : Hp}, H.length = n -> (∀ i ∈ ms, ∀ e, seen[i]? = some e -> Away j e) -> (strikes H seen ms)[j]? = H[j]?
 | [], H, _, _ => rfl
 | i :: r, H, hn, h => by
  unfold strikes
  cases he : seen[i]? with
  | none => exact zbD hs r hn fun k hk => h k (List.mem_cons_of_mem _ hk)
  | some e =>
   obtain ⟨V, a, b⟩ := e;have hb : b <= n := hs _ (List.mem_of_getElem? he);have hw := h i (by simp) _ he;have hw2 : j < a \/ b <= j := hw.2;have hw1 : V[j]? = some Option.none \/ V[j]? = Option.none := hw.1;have hp := ((PartL.refl H).strike a b (by omega)).strikeV V
   have := zbD hs r (H := strikeV (strike H a b) V) (by rw [hp.len]; exact hn) fun k hk => h k (List.mem_cons_of_mem _ hk)
   simp only;rw [this, zeH _ _ _ hw1, zmh (by omega) hw2]
theorem zci : ∀ {S H : Hp} {id : Nat}, S.length = H.length -> S[id]? = H[id]? -> zaV S id = zaV H id
 | [], [], _, _, _ => rfl
 | [], _ :: _, _, h, _ => by simp at h
 | _ :: _, [], _, h, _ => by simp at h
 | s :: S, h :: H, 0, hl, he => by
  simp at he;subst he;simp only [zaV]
  rw [zdo (by simpa using hl)]
 | s :: S, h :: H, n + 1, hl, he => by
  simp only [zaV];rw [zci (by simpa using hl) (by simpa using he)]
def zbh (T : List AV) (n : Nat) (op : IOp) : Tch :=
 match op with
 | .load _ _ x | .store _ x _ => match x.ev T with
  | .pref id _ _ => .blk id
  | _ => .none
 | .slice _ x _ hi _ => match hi with
  | none => .none
  | some _ => match x.ev T with
   | .sref id _ _ _ _ _ => .blk id
   | _ => .none
 | .alloc _ | .box _ | .buildSlice .. | .makeSlice .. => .blk n
 | _ => .none
def zbW (tch : List Tch) (ms : List Nat) : Tch -> Prop
 | .blk id => ∀ i ∈ ms, ∀ t, tch[i]? = some t -> t.free id
 | _ => True
def zjY : IOp -> Bool
 | .alloc _ | .box _ | .buildSlice .. | .makeSlice .. => true
 | _ => false
theorem zan {tch : List Tch} (t : Tch) : zbW tch [] t := by
 cases t <;> simp [zbW]
def zaR (tch : List Tch) (id : Nat) : List Nat -> Prop
 | [] => True
 | i :: r => (match tch[i]? with | some t => t.free id | none => True) /\ zaR tch id r
theorem zau {tch : List Tch} {id : Nat} : ∀ {ms : List Nat}, zaR tch id ms -> zbW tch ms (.blk id)
 | [], _ => zan _
 | i :: r, h => fun j hj t ht => by
  rcases List.mem_cons.1 hj with rfl | hj
  ·have := h.1;rw [ht] at this;exact this
  ·exact zau h.2 j hj t ht
structure Fits (seen : List (Hp × Nat × Nat)) (tch : List Tch) (n : Nat) : Prop where
 len : seen.length = tch.length
 le : ∀ e ∈ seen, e.2.2 <= n
 away : ∀ (i : Nat) e t, seen[i]? = some e -> tch[i]? = some t -> ∀ j, t.free j -> Away j e
theorem Fits.nil (n : Nat) : Fits [] [] n := ⟨rfl, fun e h => by simp at h, fun i e t h => by simp at h⟩
theorem Fits.app {seen : List (Hp × Nat × Nat)} {tch : List Tch} {n m : Nat} (h : Fits seen tch n) (hn : n <= m) {e : Hp × Nat × Nat} {t : Tch} (he : e.2.2 <= m) (ha : ∀ j, t.free j -> Away j e) : Fits (seen ++ [e]) (tch ++ [t]) m := by
 refine ⟨by simp [h.len], fun x hx => ?_, fun i x y hx hy j hj => ?_⟩
 ·rcases List.mem_append.1 hx with hx | hx
  ·exact Nat.le_trans (h.le x hx) hn
  ·simp at hx; subst hx; exact he
 ·have hl := h.len
  by_cases hi : i < seen.length
  ·rw [List.getElem?_append_left hi] at hx;rw [List.getElem?_append_left (by omega)] at hy;exact h.away i x y hx hy j hj
  ·have e1 := (List.getElem?_eq_some_iff.1 hx).1;simp at e1
   have e2 : i = seen.length := by omega
   subst e2;rw [List.getElem?_append_right (by omega)] at hx;rw [List.getElem?_append_right (by omega)] at hy;simp at hx;simp [hl] at hy
   subst hx; subst hy
   exact ha j hj
structure WT (Γ : Env) (ops : List DOper) (s : St) (tch : List Tch) (Q : St -> Prop) : Prop where
 run : ∀ seen, Fits seen tch s.heap.length -> WD Γ ops s seen Q
section
variable {Γ : Env} {rd : List DOper} {ms : List Nat} {tch : List Tch} {T T' : List AV} {H : Hp} {L : List (Option ALoop)}
theorem zx4 {ops : List DOper} {s : St} {Q : Ex -> St -> Prop} (h : WT Γ ops s [] (fun s' => Q .normal s')) : WC Γ (.draw ops) s Q := WC.draw (h.run [] (Fits.nil _))
theorem zx6 {s : St} {Q : St -> Prop} (h : Q s) : WT Γ [] s tch Q := ⟨fun seen _ => WD.nil h⟩
theorem zjw (j : Nat) : Away j ([], 0, 0) := ⟨.inr rfl, .inr (Nat.zero_le _)⟩
theorem zlW {T : List AV} {op : IOp} {S H : Hp} (hc : zb2 op = true) (hf : za3 op = false) (hl : S.length = H.length) (h : ∀ id, zbh T H.length op = .blk id -> zjY op = false -> S[id]? = H[id]?) : zbd T op S = zbd T op H := by
 have hb : za8 S = za8 H := zdo hl
 cases op <;> first | (simp [zb2, hf] at hc; done) | skip
 case alloc z => exact hb
 case box z => exact hb
 case buildSlice => exact hb
 case makeSlice => exact hb
 case load agg size x =>
  cases hx : x.ev T <;> simp only [zbd, hx] <;> first | exact hb | skip
  rename_i id g off;exact zci hl (h id (by simp only [zbh, hx]) rfl)
 case store size x y =>
  cases hx : x.ev T <;> simp only [zbd, hx] <;> first | exact hb | skip
  rename_i id g off;exact zci hl (h id (by simp only [zbh, hx]) rfl)
 case slice sz x lo hi mx =>
  cases hi with
  | none => exact hb
  | some hi =>
   cases hx : x.ev T <;> simp only [zbd, hx] <;> first | exact hb | skip
   rename_i id g off sz' n cap;exact zci hl (h id (by simp only [zbh, hx]) rfl)
theorem zbP (H : Hp) (j : Nat) : (za8 H)[j]? = some none \/ (za8 H)[j]? = none := by
 by_cases h : j < H.length
 ·left; simp [za8, h]
 ·right; simp [za8]; omega
theorem zlL {T : List AV} {op : IOp} {H : Hp} (hc : zb2 op = true) (hf : za3 op = false) {j : Nat} (h : (zbh T H.length op).free j) : (zbd T op H)[j]? = some none \/ (zbd T op H)[j]? = none := by
 have only : ∀ id, j ≠ id -> ((zaV H id)[j]? = some none \/ (zaV H id)[j]? = none) := fun id hne => by
  rw [zfF H id j hne]
  split
  ·exact .inl rfl
  ·exact .inr rfl
 cases op <;> first | (simp [zb2, hf] at hc; done) | skip
 case alloc z => exact zbP H j
 case box z => exact zbP H j
 case buildSlice => exact zbP H j
 case makeSlice => exact zbP H j
 case load agg size x =>
  cases hx : x.ev T <;> simp only [zbd, zbh, hx] at h ⊢ <;> first | exact zbP H j | exact only _ h
 case store size x y =>
  cases hx : x.ev T <;> simp only [zbd, zbh, hx] at h ⊢ <;> first | exact zbP H j | exact only _ h
 case slice sz x lo hi mx =>
  cases hi with
  | none => exact zbP H j
  | some hi => cases hx : x.ev T <;> simp only [zbd, zbh, hx] at h ⊢ <;> first | exact zbP H j | exact only _ h
theorem ziU {T : List AV} {op : IOp} {H : Hp} (hc : zb2 op = true) (hf : za3 op = false) : (zbd T op H).length = H.length := by
 cases op <;> first | (simp [zb2, hf] at hc; done) | skip
 case alloc z => exact zbn H
 case box z => exact zbn H
 case buildSlice => exact zbn H
 case makeSlice => exact zbn H
 case load agg size x => cases hx : x.ev T <;> simp only [zbd, hx] <;> first | exact zbn H | exact zcq H _
 case store size x y => cases hx : x.ev T <;> simp only [zbd, hx] <;> first | exact zbn H | exact zcq H _
 case slice sz x lo hi mx =>
  cases hi with
  | none => exact zbn H
  | some hi => cases hx : x.ev T <;> simp only [zbd, hx] <;> first | exact zbn H | exact zcq H _
theorem zf2 : ∀ {H V H' : Hp}, V.length = H.length -> H.length <= H'.length -> (back H V H').length = H'.length
 | [], [], H', _, _ => by simp [back]
 | [], _ :: _, _, h, _ => by simp at h
 | _ :: _, [], _, h, _ => by simp at h
 | h :: H, v :: V, [], _, hl => by simp at hl
 | h :: H, v :: V, h' :: H', hv, hl => by
  simp only [back, List.length_cons];rw [zf2 (by simpa using hv) (by simpa using hl)]
theorem zfd : ∀ {V H' : Hp}, zak V H' = true -> V.length <= H'.length
 | [], _, _ => by simp
 | none :: V, [], h => by simp [zak] at h
 | some _ :: V, [], h => by simp [zak] at h
 | none :: V, none :: H', h => by simp only [zak] at h; simpa using zfd h
 | none :: V, some _ :: H', h => by simp [zak] at h
 | some _ :: V, h' :: H', h => by simp only [zak] at h; simpa using zfd h
theorem zp2 {call : AV -> List AV -> Mem -> Option (AV × Mem)} {T : List AV} {H H' : Hp} {L L' : List (Option ALoop)} {op : IOp} {v : AV} (hc : zb2 op = true) (hf : za3 op = false) (h : zaW call T ⟨H, L⟩ op = some (v, ⟨H', L'⟩)) :
  H'.length = H.length \/ zjY op = true /\ H'.length = H.length + 1 := by
 cases op <;> first | (simp [zb2, hf] at hc; done) | skip
 case alloc z =>
  simp only [zf5, zaM, Option.some.injEq, Prod.mk.injEq, Mem.mk.injEq] at h;obtain ⟨_, rfl, _⟩ := h;exact .inr ⟨rfl, by simp⟩
 case box x =>
  simp only [zkZ, zaM, Option.map_eq_some_iff, Prod.mk.injEq, Mem.mk.injEq] at h;obtain ⟨c, h1, _, rfl, _⟩ := h;exact .inr ⟨rfl, by simp⟩
 case buildSlice len sz zero parts =>
  simp only [zcp, zaM, Option.map_eq_some_iff, Prod.mk.injEq, Mem.mk.injEq] at h;obtain ⟨c, h1, _, rfl, _⟩ := h;exact .inr ⟨rfl, by simp⟩
 case makeSlice sz bytes zero l c =>
  rw [zbE] at h
  split at h
  ·split at h
   ·simp only [zaM, Option.some.injEq, Prod.mk.injEq, Mem.mk.injEq] at h;obtain ⟨_, rfl, _⟩ := h;exact .inr ⟨rfl, by simp⟩
   ·cases h
  ·cases h
 case load agg size x =>
  simp only [zil, Option.map_eq_some_iff, Prod.mk.injEq, Mem.mk.injEq] at h;obtain ⟨c, h1, _, rfl, _⟩ := h;exact .inl rfl
 case store size a x =>
  rw [zf3] at h
  split at h
  ·simp only [Option.bind_eq_some_iff] at h;obtain ⟨c, h1, h⟩ := h
   split at h
   ·simp only [Option.map_eq_some_iff, Prod.mk.injEq, Mem.mk.injEq] at h;obtain ⟨H1, h2, _, rfl, _⟩ := h;unfold storeAt at h2;simp only [Option.bind_eq_bind, Option.bind_eq_some_iff, Option.some.injEq] at h2;obtain ⟨l, h3, l', h4, rfl⟩ := h2;exact .inl (by simp [zat])
   ·cases h
  ·cases h
 case slice sz x lo hi mx =>
  simp only [ze0, Option.map_eq_some_iff, Prod.mk.injEq, Mem.mk.injEq] at h;obtain ⟨c, h1, _, rfl, _⟩ := h;exact .inl rfl
theorem WT.free {Q : St -> Prop} {d : Nat} {op : IOp} {v : AV} {H' : Hp} {L' : List (Option ALoop)} (hf : za3 op = true) (h : ∀ call, zaW call T ⟨H, L⟩ op = some (v, ⟨H', L'⟩)) (hH : H' = H) (ht : pt T d v = T') (k : WT Γ rd ⟨T', H', L'⟩ (tch ++ [.none]) Q) :
  WT Γ (⟨⟨none, some d, op⟩, ms⟩ :: rd) ⟨T, H, L⟩ tch Q := ⟨fun seen hs => WD.free hf h (by
   subst hH;rw [ht]
   exact k.run _ (hs.app (Nat.le_refl _) (Nat.zero_le _) fun j _ => zjw j))⟩
theorem WT.bigO {Q : St -> Prop} {d : Option Nat} {op : IOp} {v : AV} {H' : Hp} {L' : List (Option ALoop)} (hc : zb2 op = true) (hf : za3 op = false) (h : ∀ call, zaW call T ⟨H, L⟩ op = some (v, ⟨H', L'⟩)) {t : Tch} (htc : zbh T H.length op = t) (ha : zjY op = true \/ zbW tch ms t)
  (k : WT Γ rd (St.put ⟨T, H, L⟩ d v ⟨H', L'⟩) (tch ++ [t]) Q) : WT Γ (⟨⟨none, d, op⟩, ms⟩ :: rd) ⟨T, H, L⟩ tch Q := by
 refine ⟨fun seen hs => ?_⟩;have hp := PartL.strikes hs.le ms (PartL.refl H)
 have hlim : zbd T op (strikes H seen ms) = zbd T op H := zlW hc hf hp.len fun id hid hnew => by
  rcases ha with ha | ha
  ·rw [hnew] at ha; cases ha
  ·rw [htc] at hid;subst hid
   refine zbD (n := H.length) hs.le ms rfl fun i hi e he => ?_
   have hl := hs.len;have hil := (List.getElem?_eq_some_iff.1 he).1
   obtain ⟨t', ht'⟩ : ∃ t', tch[i]? = some t' := ⟨tch[i], List.getElem?_eq_getElem (by omega)⟩
   exact hs.away i e t' he ht' id (ha i hi t' ht')
 obtain ⟨H2, g1, g2, g3⟩ := zoy hc hf (h fun _ _ _ => none)
 have g1' : ∀ call, zaW call T ⟨zbd T op H, L⟩ op = some (v, ⟨H2, L'⟩) := fun call => by rw [zgk (c' := fun _ _ _ => none) hc]; exact g1
 have hl2 : H2.length = H'.length := by
  have := zfd g2;rw [ziU hc hf] at this;have e := zf2 (ziU (T := T) (op := op) (H := H) hc hf) this;rw [g3] at e;exact e.symm
 have hle : H.length <= H'.length := by rcases zp2 hc hf (h fun _ _ _ => none) with e | ⟨_, e⟩ <;> omega
 refine WD.bigG hf hlim g1' g2 g3 rfl (k.run _ (hs.app (m := H'.length) hle (by simp only; omega) fun j hj => ?_));refine ⟨zlL hc hf (by rw [htc]; exact hj), ?_⟩;simp only [hl2]
 rcases zp2 hc hf (h fun _ _ _ => none) with e | ⟨e0, e⟩
 ·omega
 ·have : t = .blk H.length := by
   rw [<- htc]
   cases op <;> first | (simp [zjY] at e0; done) | rfl
  subst this;have hne : j ≠ H.length := hj;omega
theorem WT.big {Q : St -> Prop} {d : Nat} {op : IOp} {v : AV} {H' : Hp} {L' : List (Option ALoop)} (hc : zb2 op = true) (hf : za3 op = false) (h : ∀ call, zaW call T ⟨H, L⟩ op = some (v, ⟨H', L'⟩)) {t : Tch} (htc : zbh T H.length op = t) (ha : zjY op = true \/ zbW tch ms t)
  (ht : pt T d v = T') (k : WT Γ rd ⟨T', H', L'⟩ (tch ++ [t]) Q) : WT Γ (⟨⟨none, some d, op⟩, ms⟩ :: rd) ⟨T, H, L⟩ tch Q :=
 WT.bigO hc hf h htc ha (by simp only [St.put, ht]; exact k)
theorem zx3 {Q : St -> Prop} {op : IOp} {v : AV} {H' : Hp} {L' : List (Option ALoop)} (hc : zb2 op = true) (hf : za3 op = false) (h : ∀ call, zaW call T ⟨H, L⟩ op = some (v, ⟨H', L'⟩)) {t : Tch} (htc : zbh T H.length op = t) (ha : zjY op = true \/ zbW tch ms t)
  (k : WT Γ rd ⟨T, H', L'⟩ (tch ++ [t]) Q) : WT Γ (⟨⟨none, none, op⟩, ms⟩ :: rd) ⟨T, H, L⟩ tch Q :=
 WT.bigO hc hf h htc ha k
theorem WT.spec {Q : St -> Prop} {d g : Nat} {args : List Opd} {v : AV} {as : List AV} {S : List AV -> Mem -> Option (AV × Mem)} (ha : args.map (·.ev T) = as) (hS : Γ.spec g = some S) (h : ∀ V, S as ⟨V, L⟩ = some (v, ⟨V, L⟩)) (ht : pt T d v = T')
  (k : WT Γ rd ⟨T', H, L⟩ (tch ++ [.all]) Q) : WT Γ (⟨⟨none, some d, .call (.con (.func g [] [])) args⟩, ms⟩ :: rd) ⟨T, H, L⟩ tch Q := by
 refine ⟨fun seen hs => ?_⟩;have hp := PartL.strikes hs.le ms (PartL.refl H);refine WD.call rfl ?_;rw [ha];refine WF.spec hS (by simpa using h _) ?_;refine ⟨zby _, ?_⟩;simp only [St.put, hp.back, hp.len, ht];exact k.run _ (hs.app (Nat.le_refl _) (Nat.le_refl _) fun j hj => hj.elim)
theorem WT.yes {Q : St -> Prop} {d : Option Nat} {op : IOp} {t : Nat} {b : Bool} (hg : gt T t = .bool b) (k : WT Γ (⟨⟨none, d, op⟩, ms⟩ :: rd) ⟨T, H, L⟩ tch Q) : WT Γ (⟨⟨some (t, b), d, op⟩, ms⟩ :: rd) ⟨T, H, L⟩ tch Q :=
 ⟨fun seen hs => WD.yes hg (k.run seen hs)⟩
theorem WT.no {Q : St -> Prop} {d : Nat} {op : IOp} {t : Nat} {b : Bool} (hg : zaX T (some (t, b)) = false) (ht : pt T d und = T') (k : WT Γ rd ⟨T', H, L⟩ (tch ++ [.none]) Q) : WT Γ (⟨⟨some (t, b), some d, op⟩, ms⟩ :: rd) ⟨T, H, L⟩ tch Q := by
 refine ⟨fun seen hs => ?_⟩;obtain ⟨n, s', h1, h2⟩ := (k.run _ (hs.app (e := ([], 0, 0)) (Nat.le_refl _) (Nat.zero_le _) fun j _ => zjw j)).ex;refine ⟨⟨n, s', ?_, h2⟩⟩;simp only [zbM, hg, Bool.false_eq_true, if_false, St.put, ht];exact h1
theorem zx8 {Q : St -> Prop} {t : Nat} {b : Bool} {p : Prop} [Decidable p] {d : Option Nat} {op : IOp} {T1 T2 : List AV} (hg : gt T t = .bool (decide p)) (e1 : p -> T = T1) (e2 : ¬ p -> T = T2) (h1 : p -> WT Γ (⟨⟨some (t, b), d, op⟩, ms⟩ :: rd) ⟨T1, H, L⟩ tch Q) (h2 : ¬ p -> WT Γ (⟨⟨some (t, b), d, op⟩, ms⟩ :: rd) ⟨T2, H, L⟩ tch Q) : WT Γ (⟨⟨some (t, b), d, op⟩, ms⟩ :: rd) ⟨T, H, L⟩ tch Q := by
 by_cases hp : p
 ·rw [e1 hp]; exact h1 hp
 ·rw [e2 hp]; exact h2 hp
end
end Go.Zz


namespace Go.Zz
section
variable {A R l : Hp} {g N : Nat} {c : List AV} {a b d e x y : Option Blk}
theorem lk0 (h : A.length = N) : look (A ++ some ⟨g, c⟩ :: l) N g = some c := by subst h; exact zaC.2 zjz
theorem lk1 (h : A.length = N) : look (A ++ a :: some ⟨g, c⟩ :: l) (N + 1) g = some c := by subst h; exact zaC.2 zs9
theorem lk2 (h : A.length = N) : look (A ++ a :: b :: some ⟨g, c⟩ :: l) (N + 2) g = some c := by subst h; exact zaC.2 zsx
theorem lk3 (h : A.length = N) : look (A ++ a :: b :: d :: some ⟨g, c⟩ :: l) (N + 3) g = some c := by subst h; exact zaC.2 zsu
theorem st0 (h : A.length = N) : (A ++ x :: l).set N y = A ++ y :: l := by subst h; exact zbB
theorem st1 (h : A.length = N) : (A ++ a :: x :: l).set (N + 1) y = A ++ a :: y :: l := by subst h; exact zlp
theorem st2 (h : A.length = N) : (A ++ a :: b :: x :: l).set (N + 2) y = A ++ a :: b :: y :: l := by subst h; exact zqr
end
section
variable {l : List AV} {a0 a1 a2 a3 a4 a5 a6 a7 x0 x1 x2 x3 x4 x5 : AV}
theorem zaF : over (a0 :: l) 0 [x0] = some (x0 :: l) := by simp [over]
theorem zcN : over (a0 :: a1 :: l) 1 [x0] = some (a0 :: x0 :: l) := by simp [over]
theorem zfG : over (a0 :: a1 :: a2 :: l) 2 [x0] = some (a0 :: a1 :: x0 :: l) := by simp [over]
theorem zeu : over (a0 :: a1 :: a2 :: a3 :: l) 3 [x0] = some (a0 :: a1 :: a2 :: x0 :: l) := by simp [over]
theorem zry : over (a0 :: a1 :: a2 :: a3 :: a4 :: l) 4 [x0] = some (a0 :: a1 :: a2 :: a3 :: x0 :: l) := by simp [over]
theorem zqD : over (a0 :: a1 :: a2 :: a3 :: a4 :: a5 :: l) 5 [x0] = some (a0 :: a1 :: a2 :: a3 :: a4 :: x0 :: l) := by simp [over]
theorem zrP : over (a0 :: a1 :: a2 :: a3 :: a4 :: a5 :: a6 :: l) 6 [x0] = some (a0 :: a1 :: a2 :: a3 :: a4 :: a5 :: x0 :: l) := by simp [over]
theorem zqJ : over (a0 :: a1 :: a2 :: a3 :: a4 :: a5 :: a6 :: a7 :: l) 7 [x0] = some (a0 :: a1 :: a2 :: a3 :: a4 :: a5 :: a6 :: x0 :: l) := by simp [over]
theorem zbG : over (a0 :: a1 :: l) 0 [x0, x1] = some (x0 :: x1 :: l) := by simp [over]
theorem zqL : over (a0 :: a1 :: a2 :: l) 0 [x0, x1, x2] = some (x0 :: x1 :: x2 :: l) := by simp [over]
theorem zh2 : over (a0 :: a1 :: a2 :: a3 :: l) 0 [x0, x1, x2, x3] = some (x0 :: x1 :: x2 :: x3 :: l) := by simp [over]
theorem zq8 : over (a0 :: a1 :: a2 :: a3 :: a4 :: l) 0 [x0, x1, x2, x3, x4] = some (x0 :: x1 :: x2 :: x3 :: x4 :: l) := by simp [over]
theorem zfo : over (a0 :: a1 :: a2 :: a3 :: a4 :: a5 :: l) 0 [x0, x1, x2, x3, x4, x5] = some (x0 :: x1 :: x2 :: x3 :: x4 :: x5 :: l) := by simp [over]
end
attribute [go_sem] zaF zcN zfG zeu zry zqD zrP zqJ zbG zqL zh2 zq8 zfo
theorem zbl {sz id g off n : Nat} {cap : Option Nat} {i : AV} : zaj sz (.sref id g off sz n cap) i = (idx i n).map fun j => .pref id g (off + j * sz) := by simp only [zaj, if_true]
theorem zr9 {c : List Int} {i : Nat} (h : i < c.length) : (c.map (AV.int .i64))[i]? = some (.int .i64 (c.getD i 0)) := by simp [h]
theorem znJ {c : List Bool} {i : Nat} (h : i < c.length) : (c.map AV.bool)[i]? = some (.bool (decide (c.getD i false = true))) := by simp [h]
theorem zi8 {c : List Bool} {i : Nat} {v : Bool} (h : i < c.length) : over (c.map AV.bool) i [.bool v] = some ((c.set i v).map AV.bool) := by
 rw [zcM (by simpa using h), List.map_set]
theorem append_nil {sz bytes id n : Nat} {H : Hp} {L : List (Option ALoop)} {vs : List AV} {cap : Option Nat} (h : look H id 0 = some vs) (hn : 0 < n) (hl : vs.length = n * sz) (hb : n * bytes <= 140737488355328 /\ n <= 140737488355328) :
  zaH sz bytes ⟨H, L⟩ .snil (.sref id 0 0 sz n cap) = some (.sref H.length 0 0 sz n none, ⟨H ++ [some ⟨0, vs⟩], L⟩) := by
 have e : cut vs 0 (n * sz) = some vs := by
  unfold cut;rw [if_pos (by omega), <- hl];simp
 simp only [zaH, scells, if_true, h, Option.bind_some, e, zcH, Option.bind_eq_bind, if_neg (Nat.pos_iff_ne_zero.1 hn), if_pos hb, zaM]
theorem zku {sz bytes id q g n k : Nat} {H : Hp} {L : List (Option ALoop)} {vs l : List AV} {cap : Option Nat} (hq : look H q g = some l) (h : look H id 0 = some vs) (hn : 0 < n) (hsz : 0 < sz) (hl : vs.length = n * sz) (hk : l.length = k * sz) (hb : (k + n) * bytes <= 140737488355328 /\ k + n <= 140737488355328) :
  zaH sz bytes ⟨H, L⟩ (.sref q g 0 sz k none) (.sref id 0 0 sz n cap) = some (.sref q (g + 1) 0 sz (k + n) none, ⟨H.set q (some ⟨g + 1, l ++ vs⟩), L⟩) := by
 have e : cut vs 0 (n * sz) = some vs := by
  unfold cut;rw [if_pos (by omega), <- hl];simp
 have e2 : cut l 0 (k * sz) = some l := by
  unfold cut;rw [if_pos (by omega), <- hk];simp
 have e3 : ¬ 0 + (k + n) * sz <= l.length := by
  rw [hk, Nat.add_mul];have := Nat.mul_pos hn hsz;omega
 simp only [zaH, scells, if_true, h, Option.bind_some, e, zcH, Option.bind_eq_bind, hq, e2, if_neg e3, if_pos hb, zat]
end Go.Zz


namespace Go.Zz
section
variable {A R R1 R2 l : Hp} {g N : Nat} {c : List AV} {a b d e x y : Option Blk}
end
noncomputable def Env.put (Γ : Env) (g : Nat) (S : List AV -> Mem -> Option (AV × Mem)) : Env := { fn := Γ.fn, spec := fun k => if k = g then some S else Γ.spec k }
theorem Env.put_ok [Globs] {P : Program} {Γ : Env} (h : EnvOk P Γ) {g : Nat} {S : List AV -> Mem -> Option (AV × Mem)} (hg : zek P g S) : EnvOk P (Γ.put g S) := by
 refine ⟨h.fn, fun k S' hS => ?_⟩;simp only [Env.put] at hS
 split at hS
 ·rename_i e;subst e
  cases hS
  exact hg
 ·exact h.spec k S' hS
theorem IntS.atI {x : AV} {xs : List Int} (h : IntS x xs) {i : Int} (h0 : 0 <= i) (hi : i < xs.length) : zaj 1 x (.int .i64 i) = some (.pval (.int .i64 (xs.getD i.toNat 0) :: (xs.drop (i.toNat + 1)).map (.int .i64))) := by
 have h1 : i.toNat < xs.length := by omega
 have := IntS.at h h1;rw [show ((i.toNat : Nat) : Int) = i by omega] at this;rw [this];simp [List.getD_eq_getElem?_getD, h1]
theorem IntS.resC {x : AV} {xs : List Int} (h : IntS x xs) (H : Hp) : Zz.resC H x = some x := by
 rcases h with ⟨rfl, _⟩ | ⟨f, rfl⟩
 ·rfl
 ·simp only [Zz.resC, zbs, if_true]
section
variable {Γ : Env} {r : List IOper} {rd : List DOper} {ms : List Nat} {tch : List Tch} {T T' : List AV} {H : Hp} {L : List (Option ALoop)} {Q : St -> Prop} {d : Nat} {op : IOp} {v : AV} {H' : Hp} {L' : List (Option ALoop)} {t g : Nat} {b : Bool} {args : List Opd} {xs : List AV} {S : List AV -> Mem -> Option (AV × Mem)}
theorem zE (h : ∀ call, zaW call T ⟨H, L⟩ op = some (v, ⟨H', L'⟩)) (k : WO Γ r ⟨T', H', L'⟩ Q) (ht : pt T d v = T' := by simp only [pt8, pt0, pt1, pt2, pt3, pt4, pt5, pt6, pt7]; rfl) : WO Γ (⟨none, some d, op⟩ :: r) ⟨T, H, L⟩ Q := WO.opE h ht k
theorem zN (hg : zaX T (some (t, b)) = false) (k : WO Γ r ⟨T', H, L⟩ Q) (ht : pt T d und = T' := by simp only [pt8, pt0, pt1, pt2, pt3, pt4, pt5, pt6, pt7]; rfl) : WO Γ (⟨some (t, b), some d, op⟩ :: r) ⟨T, H, L⟩ Q := WO.noE hg ht k
theorem zS (ha : args.map (·.ev T) = xs) (hs : Γ.spec g = some S) (h : S xs ⟨H, L⟩ = some (v, ⟨H', L'⟩)) (k : WO Γ r ⟨T', H', L'⟩ Q) (ht : pt T d v = T' := by simp only [pt8, pt0, pt1, pt2, pt3, pt4, pt5, pt6, pt7]; rfl) : WO Γ (⟨none, some d, .call (.con (.func g [] [])) args⟩ :: r) ⟨T, H, L⟩ Q := WO.specE ha hs h ht k
theorem zF (hf : za3 op = true) (h : ∀ call, zaW call T ⟨H, L⟩ op = some (v, ⟨H', L'⟩)) (hH : H' = H) (k : WT Γ rd ⟨T', H', L'⟩ (tch ++ [.none]) Q) (ht : pt T d v = T' := by simp only [pt8, pt0, pt1, pt2, pt3, pt4, pt5, pt6, pt7]; rfl) : WT Γ (⟨⟨none, some d, op⟩, ms⟩ :: rd) ⟨T, H, L⟩ tch Q := WT.free hf h hH ht k
theorem zB (hc : zb2 op = true) (hf : za3 op = false) (h : ∀ call, zaW call T ⟨H, L⟩ op = some (v, ⟨H', L'⟩)) {c : Tch} (htc : zbh T H.length op = c) (ha : zjY op = true \/ zbW tch ms c) (k : WT Γ rd ⟨T', H', L'⟩ (tch ++ [c]) Q) (ht : pt T d v = T' := by simp only [pt8, pt0, pt1, pt2, pt3, pt4, pt5, pt6, pt7]; rfl) : WT Γ (⟨⟨none, some d, op⟩, ms⟩ :: rd) ⟨T, H, L⟩ tch Q := WT.big hc hf h htc ha ht k
theorem zO (hg : zaX T (some (t, b)) = false) (k : WT Γ rd ⟨T', H, L⟩ (tch ++ [.none]) Q) (ht : pt T d und = T' := by simp only [pt8, pt0, pt1, pt2, pt3, pt4, pt5, pt6, pt7]; rfl) : WT Γ (⟨⟨some (t, b), some d, op⟩, ms⟩ :: rd) ⟨T, H, L⟩ tch Q := WT.no hg ht k
theorem zP (ha : args.map (·.ev T) = xs) (hS : Γ.spec g = some S) (h : ∀ V, S xs ⟨V, L⟩ = some (v, ⟨V, L⟩)) (k : WT Γ rd ⟨T', H, L⟩ (tch ++ [.all]) Q) (ht : pt T d v = T' := by simp only [pt8, pt0, pt1, pt2, pt3, pt4, pt5, pt6, pt7]; rfl) : WT Γ (⟨⟨none, some d, .call (.con (.func g [] [])) args⟩, ms⟩ :: rd) ⟨T, H, L⟩ tch Q := WT.spec ha hS h ht k
end
def tb (f : Nat -> AV) : Nat -> Nat -> List AV
  | 0, _ => []
  | n + 1, k => f k :: tb f n (k + 1)
theorem zqn (f : Nat -> AV) : ∀ n k, tb f n k = (List.range' k n).map f
  | 0, _ => rfl
  | n + 1, k => by rw [tb, zqn f n (k + 1)]; rfl
theorem exG {T : List AV} {n : Nat} (h : T.length = n) : ∃ f : Nat -> AV, T = tb f n 0 := ⟨gt T, by subst h; rw [zqn, <- List.range_eq_range']; exact zoP T⟩
end Go.Zz

