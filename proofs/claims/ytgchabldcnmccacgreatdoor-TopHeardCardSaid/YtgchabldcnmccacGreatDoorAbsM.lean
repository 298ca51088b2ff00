import Derived.Test.YtgchabldcnmccacGreatDoorAbsC
import Derived.RangeFuncNested
import Derived.MapKept

namespace Go.Zz
section
variable {P : Program}
theorem putObj_froz {w : World} {r : Nat} {o : Obj} {q : Obj} (hr : w.heap[r]? = some q) (hq : ∀ c e f, q ≠ .cells c e f) (ho : ∀ c e f, o ≠ .cells c e f) (a : Addr) : (w.putObj r o).frozen? a = w.frozen? a := by
 have hlt := (Array.getElem?_eq_some_iff.1 hr).1
 by_cases e : a.block = r
 ·simp only [World.frozen?, e, World.putObj_heap_same hlt, hr]
  cases o <;> cases q <;> simp_all
 ·exact World.frozen?_of_block (World.putObj_heap_other e)
theorem enterL [Globs] {M : Mp} {H : Hp} {L : List (Option ALoop)} {w w' : World} (h : Holds P M H L w) (hf : Fresh M H L) {l : Nat} {r : ALoop} (hsz : w.heap.size ≤ w'.heap.size) (hold : ∀ b, b < w.heap.size → w'.heap[b]? = w.heap[b]?)
  (hnew : ∀ b, w.heap.size ≤ b → ∀ c e f, w'.heap[b]? ≠ some (.cells c e f)) (hlw : w.heap.size ≤ l) (hos : w'.os = w.os) (hout : w'.output = w.output)
  (hr : ∀ M', M.le M' → HL P M' w' l r) :
  let M' : Mp := { M with lp := fun k => if k = L.length then some l else M.lp k }
  Holds P M' H (L ++ [some r]) w' ∧ Fr M H L w M' H (L ++ [some r]) w' ∧ M'.lp L.length = some l := by
 intro M'
 have hle : M.le M' := ⟨fun _ _ _ h => h, fun _ _ _ h => h, fun k l' hk => by
  simp only [M']
  split
  ·rename_i e; rw [e, hf.lp L.length (Nat.le_refl _)] at hk; cases hk
  ·exact hk⟩
 have hget : ∀ (i : Nat) (r' : ALoop), (L ++ [some r])[i]? = some (some r') → (i < L.length ∧ L[i]? = some (some r')) ∨ (i = L.length ∧ r' = r) := by
  intro i r' hi
  rw [List.getElem?_append] at hi
  split at hi
  ·rename_i hlt; exact .inl ⟨hlt, hi⟩
  ·rename_i hge
   by_cases e0 : i = L.length
   ·subst e0; simp at hi; exact .inr ⟨rfl, hi.symm⟩
   ·cases hd : i - L.length with
    | zero => omega
    | succ n => simp [hd] at hi
 have hlp : ∀ k, k < L.length → M'.lp k = M.lp k := fun k hk => by simp only [M']; rw [if_neg (by omega)]
 have hsame : M'.lp L.length = some l := by simp [M']
 have hllt : ∀ k r' l', L[k]? = some (some r') → M.lp k = some l' → l' < w.heap.size := fun k r' l' hk hl => by
  obtain ⟨l1, g1, g2⟩ := h.lp k r' hk
  rw [hl] at g1
  cases g1
  exact g2.lt
 refine ⟨⟨?_, ?_, ?_, ?_, h.gen, ?_, ?_⟩, ?_, hsame⟩
 ·intro b o v hv
  have h0 := h.imm b o v hv
  rw [World.cell?_of_block (w := w) (hold b (cell_lt h0))]
  exact h0
 ·intro id b hb
  obtain ⟨lc, hB⟩ := h.blk id b hb
  exact ⟨lc, hB.kept hle (hold _ hB.lt) hsz⟩
 ·exact h.sep
 ·exact h.inj
 ·intro k r' hk
  rcases hget k r' hk with ⟨hlt, hk⟩ | ⟨rfl, rfl⟩
  ·obtain ⟨l', g1, g2⟩ := h.lp k r' hk
   exact ⟨l', by rw [hlp k hlt]; exact g1, g2.kept hle (hold l' g2.lt)⟩
  ·exact ⟨l, hsame, hr M' hle⟩
 ·intro k k' r1 r2 l' h1 h2 h3 h4
  rcases hget k r1 h1 with ⟨hlt, g1⟩ | ⟨e1, _⟩ <;> rcases hget k' r2 h2 with ⟨hlt', g2⟩ | ⟨e2, _⟩
  ·rw [hlp k hlt] at h3
   rw [hlp k' hlt'] at h4
   exact h.lpi k k' r1 r2 l' g1 g2 h3 h4
  ·rw [hlp k hlt] at h3
   rw [e2, hsame] at h4
   cases h4
   have := hllt k r1 l g1 h3
   omega
  ·rw [hlp k' hlt'] at h4
   rw [e1, hsame] at h3
   cases h3
   have := hllt k' r2 l g2 h4
   omega
  ·rw [e1, e2]
 ·refine { os := hos, output := hout, size := hsz, froz := ?_, keep := fun b hb _ _ => hold b hb, old := fun id bl lc a b _ => ⟨bl, lc, a, b, rfl⟩, oldl := ?_, hlen := Nat.le_refl _, llen := by simp, le := hle, only := ?_, live := fun id b hb => ⟨b, hb⟩, imm := fun _ _ _ => rfl, onlyl := ?_, lstay := fun l1 q1 h1 => ⟨q1, (hold l1 (Array.getElem?_eq_some_iff.1 h1).1).trans h1⟩ }
  ·intro a
   by_cases hlt : a.block < w.heap.size
   ·exact World.frozen?_of_block (hold _ hlt)
   ·have e1 : w.heap[a.block]? = none := by simpa using hlt
    have := hnew a.block (by omega)
    simp only [World.frozen?, e1]
    cases hw : w'.heap[a.block]? with
    | none => rfl
    | some o => cases o <;> first | rfl | exact absurd hw (this _ _ _)
  ·intro k r' l' hk hl' hlt
   rcases hget k r' hk with ⟨hk1, hk⟩ | ⟨rfl, rfl⟩
   ·rw [hlp k hk1] at hl'; exact ⟨r', hk, hl'⟩
   ·rw [hsame] at hl'; cases hl'; omega
  ·intro id g lc h1 h0; rw [show M'.loc id g = M.loc id g from rfl, h0] at h1; cases h1
  ·intro k l' h1 h0
   by_cases e : k = L.length
   ·simp [e]
   ·rw [show M'.lp k = M.lp k by simp [M', e], h0] at h1; cases h1
theorem mfl_len : ∀ es : List MapEntry, (mfl es).length = 2 * es.length
 | [] => rfl
 | e :: r => by simp only [mfl, List.length_cons, mfl_len r]; omega
theorem rvs_two [Globs] {M : Mp} {l : List AV} {e : MapEntry} {es : List MapEntry} (h : RVs M l (mfl (e :: es)).toArray) : ∃ x y r, l = x :: y :: r ∧ RV M x e.key ∧ RV M y e.val ∧ RVs M r (mfl es).toArray := by
 have hl := h.len
 simp only [mfl, List.size_toArray, List.length_cons] at hl
 cases l with
 | nil => simp at hl
 | cons x l =>
  cases l with
  | nil => simp at hl
  | cons y r =>
   refine ⟨x, y, r, rfl, ?_, ?_, ?_⟩
   ·have := h.rel 0; simpa [gt, ag, mfl] using this
   ·have := h.rel 1; simpa [gt, ag, mfl] using this
   ·have := RVs.drop h 2; simpa [mfl] using this
theorem rvs_cons2 [Globs] {M : Mp} {x y : AV} {r : List AV} {e : MapEntry} {es : List MapEntry} (hx : RV M x e.key) (hy : RV M y e.val) (hr : RVs M r (mfl es).toArray) : RVs M (x :: y :: r) (mfl (e :: es)).toArray := by
 have h1 : RVs M [x, y] ([e.key, e.val] : List Value).toArray := ⟨rfl, fun i => by
  match i with
  | 0 => simpa [gt, ag] using hx
  | 1 => simpa [gt, ag] using hy
  | n + 2 => simp [gt, ag]; exact .tup0⟩
 have := h1.append hr
 simpa [mfl] using this
theorem rvs_nil0 [Globs] {M : Mp} {l : List AV} (h : RVs M l (mfl []).toArray) : l = [] := List.eq_nil_of_length_eq_zero (by simpa [mfl] using h.len)
def KK.td : KK → TypeDesc
 | .int k => .int k
 | .str => .string
 | .agg _ => .bool
def kvc : AV → Value
 | .int k n => .int k n
 | _ => undef
def kv : AV → Value
 | .int k n => .int k n
 | .str s => .string s
 | .agg l => .agg (l.map kvc).toArray
 | _ => undef
theorem okInts_cons {ks : List IntKind} {x : AV} {l : List AV} (h : okInts ks (x :: l) = true) : ∃ k ks' n, ks = k :: ks' ∧ x = .int k n ∧ okInts ks' l = true := by
 cases ks with
 | nil => cases x <;> simp [okInts] at h
 | cons k ks =>
  cases x <;> simp [okInts] at h
  obtain ⟨rfl, h⟩ := h
  exact ⟨_, _, _, rfl, rfl, h⟩
theorem okInts_len : ∀ {ks : List IntKind} {l : List AV}, okInts ks l = true → l.length = ks.length
 | [], [], _ => rfl
 | _ :: _, [], h => by simp [okInts] at h
 | ks, x :: l, h => by
  obtain ⟨k, ks', n, e1, e2, h'⟩ := okInts_cons h
  rw [e1, List.length_cons, List.length_cons, okInts_len h']
theorem okInts_rv [Globs] {M : Mp} : ∀ {ks : List IntKind} {l : List AV} {c : List Value}, okInts ks l = true → RVs M l c.toArray → c = l.map kvc
 | ks, [], c, _, h => List.eq_nil_of_length_eq_zero (by have := h.len; simpa using this.symm)
 | ks, x :: l, c, h, hr => by
  obtain ⟨k, ks', n, e1, e2, h'⟩ := okInts_cons h
  cases c with
  | nil => have := hr.len; simp at this
  | cons y c =>
   have h0 := hr.rel 0
   simp [gt, ag] at h0
   have h1 := hr.drop 1
   simp at h1
   rw [List.map_cons, ← okInts_rv h' h1]
   rw [e2] at h0 ⊢
   cases h0
   rfl
theorem okInts_rvs [Globs] {M : Mp} : ∀ {ks : List IntKind} {l : List AV}, okInts ks l = true → RVs M l (l.map kvc).toArray
 | ks, [], _ => RVs.nil M
 | ks, x :: l, h => by
  obtain ⟨k, ks', n, e1, e2, h'⟩ := okInts_cons h
  have h1 : RVs M [AV.int k n] ([Value.int k n] : List Value).toArray := ⟨rfl, fun i => by
   match i with
   | 0 => simpa [gt, ag] using RV.int k n
   | n + 1 => simp [gt, ag]; exact .tup0⟩
  have := h1.append (okInts_rvs (M := M) h')
  rw [e2]
  simpa [kvc] using this
theorem okInts_eq : ∀ {ks : List IntKind} {l r : List AV}, okInts ks l = true → okInts ks r = true → cellsEq (ks.map fun _ => true) l r = some (eqInts l r) ∧ (eqInts l r = true → l = r)
 | [], [], [], _, _ => ⟨rfl, fun _ => rfl⟩
 | [], x :: l, _, h, _ => by simp [okInts] at h
 | [], [], y :: r, _, h => by simp [okInts] at h
 | k :: ks, [], _, h, _ => by simp [okInts] at h
 | k :: ks, x :: l, [], _, h => by simp [okInts] at h
 | k :: ks, x :: l, y :: r, h, h' => by
  obtain ⟨_, _, n, e, e2, g⟩ := okInts_cons h
  obtain ⟨_, _, n', f, f2, g'⟩ := okInts_cons h'
  cases e
  cases f
  obtain ⟨a, b⟩ := okInts_eq g g'
  rw [e2, f2]
  refine ⟨?_, fun he => ?_⟩
  ·simp [cellsEq, cellEq, a, eqInts]
  ·simp [eqInts] at he
   rw [he.1, b he.2]
theorem kvc_one : ∀ {ks : List IntKind} {l : List AV}, okInts ks l = true → ∀ v ∈ l.map kvc, ∃ k n, v = .int k n
 | _, [], _, v, hv => by simp at hv
 | ks, x :: l, h, v, hv => by
  obtain ⟨k, ks', n, e1, e2, h'⟩ := okInts_cons h
  rw [List.map_cons] at hv
  rcases List.mem_cons.1 hv with e | hv
  ·exact ⟨k, n, by rw [e, e2]; rfl⟩
  ·exact kvc_one h' v hv
theorem rv_key [Globs] {M : Mp} {kd : KK} {a : AV} {v : Value} (h : RV M a v) (hk : kd.of a = true) : v = kv a := by
 cases kd <;> cases a <;> simp [KK.of] at hk
 ·cases h; rfl
 ·cases h; rfl
 ·cases h with
  | agg _ c hl h0 _ =>
   have := okInts_rv (c := c.toList) hk (by simpa using (⟨hl, h0⟩ : RVs M _ c))
   simp only [kv, ← this]
theorem kv_rv [Globs] {M : Mp} {kd : KK} {a : AV} (hk : kd.of a = true) : RV M a (kv a) := by
 cases kd <;> cases a <;> simp [KK.of] at hk
 ·exact .int _ _
 ·exact .str _
 ·rename_i ks l
  have h := okInts_rvs (M := M) hk
  refine .agg l _ h.len h.rel fun v hv => ?_
  obtain ⟨k, n, rfl⟩ := kvc_one hk v (by simpa using hv)
  rfl
def KeyAt (P : Program) (kt : TypeId) : KK → Prop
 | .int k => P.underlying kt = some (.int k)
 | .str => P.underlying kt = some .string
 | .agg ks => ∃ fs, P.underlying kt = some (.struct fs) ∧ sigOf P eqDepth kt = some (ks.map fun _ => true) ∧ keyTy P eqDepth kt = true
theorem keyKind_at {P : Program} {kt : TypeId} {kd : KK} (h : keyKind P kt = some kd) : KeyAt P kt kd := by
 unfold keyKind at h
 split at h
 ·cases h; assumption
 ·cases h; assumption
 ·rename_i fs hu
  simp only [Option.map_eq_some_iff] at h
  obtain ⟨ks, h, rfl⟩ := h
  unfold aggKind at h
  split at h
  ·rename_i fs' sg z h1 h2 h3
   rw [Option.bind_eq_some_iff] at h
   obtain ⟨ks', h4, h⟩ := h
   split at h
   ·rename_i h5
    cases h
    exact ⟨fs, hu, by rw [h2, h5.1], h5.2⟩
   ·cases h
  ·cases h
 ·cases h
theorem run_checkSig {P : Program} {w : World} (em : Bool) : ∀ {k : Nat} {t : TypeId} {sg : List Bool}, sigOf P k t = some sg → keyTy P k t = true → ∀ (d : Nat), k ≤ d → ∀ (vs : List Value) (v : Value), vs.length = sg.length → IsVal P t vs v → (Instr.checkKey em d t v).run P w = .ok () w
 | 0, _, _, h => by simp [sigOf] at h
 | k + 1, t, sg, h => by
  intro hk d hkd vs v hl hv
  obtain ⟨d, rfl⟩ : ∃ e, d = e + 1 := ⟨d - 1, by omega⟩
  have hkd' : k ≤ d := by omega
  obtain ⟨D, i, h1, h2, h3, h4⟩ := sig_row h
  obtain ⟨D1, e1, hv⟩ := hv
  rw [h1] at e1
  cases e1
  unfold keyTy at hk
  rw [h1] at hk
  cases D <;> simp at hk
  ·simp [Instr.checkKey, run_underlying h1]
  ·simp [Instr.checkKey, run_underlying h1]
  ·rename_i fs
   have hv : v = .agg vs.toArray := by
    rcases hv with ⟨_, h⟩ | ⟨h, _⟩
    ·exact h
    ·simp [TypeDesc.isRow] at h
   subst hv
   rw [Instr.checkKey]
   simp only [Sem.run_bind, run_underlying h1, Result.andThen_ok]
   rw [← Array.forIn_toList]
   unfold sigOf at h
   rw [h1, h2] at h
   simp at h
   obtain ⟨_, h⟩ := h
   cases hsf : sigFs (sigOf P k) fs.toList 0 with
   | none => simp [hsf] at h
   | some sg' =>
    simp [hsf] at h
    obtain ⟨hsz, rfl⟩ := h
    have hk' : ∀ f ∈ fs.toList, keyTy P k f.type = true := fun f hf => by
     obtain ⟨i, hi, e⟩ := List.getElem_of_mem hf
     rw [← e]
     simpa using hk i (by simpa using hi)
    have hbd : 0 + sg'.length ≤ vs.length := by omega
    generalize 0 = o at hsf hbd
    clear hk hl hsz h1 h2 h3 h4
    generalize fs.toList = L at hsf hk'
    induction L generalizing o sg' with
    | nil => simp
    | cons f L ih =>
     unfold sigFs at hsf
     split at hsf
     ·rename_i hn
      split at hsf
      ·rename_i x0 sa0 hsa
       split at hsf
       ·rename_i sb hsb
        cases hsf
        obtain ⟨hn1, hn2⟩ := hn
        simp only [List.length_append] at hbd
        obtain ⟨u, p1, p2⟩ := run_part (w := w) hsa (vs := vs) (off := o) (by omega)
        have := run_checkSig (w := w) em hsa (hk' f (by simp)) d hkd' _ _ (by rw [List.length_take, List.length_drop]; omega) p2
        have ih' := ih (o := o + (x0 :: sa0).length) (sg' := sb) (by omega) hsb fun g hg => hk' g (by simp [hg])
        simp only [List.forIn_cons, Sem.run_bind, hn1, ne_eq, not_false_eq_true, if_true, hn2, Result.andThen_ok, p1, this, Sem.run_pure]
        exact ih'
       ·cases hsf
      ·cases hsf
     ·cases hsf
theorem key_check {P : Program} {kt : TypeId} {kd : KK} {a : AV} {w : World} (hK : KeyAt P kt kd) (hof : kd.of a = true) (em : Bool) : (Instr.checkKey em 10000 kt (kv a)).run P w = .ok () w := by
 cases kd <;> cases a <;> simp [KK.of] at hof
 ·subst hof
  exact MapKept.run_checkKey hK (by rfl) em 9999
 ·exact MapKept.run_checkKey hK (by trivial) em 9999
 ·obtain ⟨fs, h1, h2, h3⟩ := hK
  refine run_checkSig em h2 h3 10000 (by decide) _ _ ?_ ⟨_, h1, .inl ⟨rfl, rfl⟩⟩
  simp [okInts_len hof]
theorem key_stays {P : Program} {kd : KK} {a : AV} {w : World} (hof : kd.of a = true) : (Instr.keyThatStays (kv a) (kv a)).run P w = .ok (kv a) w := by
 cases kd <;> cases a <;> simp [KK.of] at hof
 ·exact MapKept.run_keyThatStays (d := .int _) rfl
 ·exact MapKept.run_keyThatStays (d := .string) trivial
 ·rename_i ks l
  have hs : Instr.sameBits 10000 (kv (.agg l)) (kv (.agg l)) = true := by
   show Instr.sameBits (9999 + 1) (.agg (l.map kvc).toArray) (.agg (l.map kvc).toArray) = true
   simp only [Instr.sameBits, beq_self_eq_true, Bool.true_and, List.all_eq_true]
   intro p hp
   obtain ⟨i, hi, e⟩ := List.getElem_of_mem hp
   rw [List.getElem_zip] at e
   rw [← e]
   have hi' : i < (l.map kvc).length := by simp at hi ⊢; omega
   obtain ⟨k, n, hkn⟩ := kvc_one hof ((l.map kvc)[i]) (List.getElem_mem hi')
   simp only [hkn]
   simp [Instr.sameBits]
  simp [Instr.keyThatStays, hs]
theorem ba_beq (a b : ByteArray) : (a == b) = decide (a = b) := by
 cases a with
 | mk x => cases b with
  | mk y =>
   show (x == y) = _
   rw [Bool.eq_iff_iff]
   simp
theorem same_kv {kd : KK} {a b : AV} (ha : kd.of a = true) (hb : kd.of b = true) (hn : ∀ ks, kd ≠ .agg ks) : Instr.sameNow kd.td (kv a) (kv b) = some (keyEq a b) := by
 cases kd <;> cases a <;> simp [KK.of] at ha <;> cases b <;> simp [KK.of] at hb
 ·subst ha; subst hb; simp [Instr.sameNow, KK.td, kv, keyEq]; rw [Bool.eq_iff_iff]; simp
 ·simp [Instr.sameNow, KK.td, kv, keyEq, ba_beq]
 ·exact absurd rfl (hn _)
theorem eq_kv {kd : KK} {a b : AV} (ha : kd.of a = true) (hb : kd.of b = true) (h : keyEq a b = true) : a = b := by
 cases kd <;> cases a <;> simp [KK.of] at ha <;> cases b <;> simp [KK.of] at hb <;> simp [keyEq] at h
 ·subst ha; subst hb; rw [h]
 ·rw [h]
 ·rw [(okInts_eq ha hb).2 h]
theorem mkeys_two {kd : KK} {a b : AV} {r : List AV} (h : mkeys kd (a :: b :: r) = true) : kd.of a = true ∧ mkeys kd r = true := by
 simpa [mkeys] using h
theorem find_is [Globs] {M : Mp} {kd : KK} {n : AV} (hof : kd.of n = true) (hna : ∀ ks, kd ≠ .agg ks) : ∀ {es : List MapEntry} {l : List AV} (i : Nat), RVs M l (mfl es).toArray → mkeys kd l = true →
  (mfind n l = none ∧ Instr.findNow kd.td (kv n) es i = some none ∧ ∀ (v : AV) (u : Value) (c : Nat), RV M v u → RVs M (mput n v l) (mfl (es ++ [⟨kv n, u, c⟩])).toArray) ∨
  ∃ j e y, mfind n l = some y ∧ Instr.findNow kd.td (kv n) es i = some (some (i + j, e.val)) ∧ es[j]? = some e ∧ e.key = kv n ∧ RV M y e.val ∧ ∀ (v : AV) (u : Value), RV M v u → RVs M (mput n v l) (mfl (es.set j { e with val := u })).toArray
 | [], l, i, h, hk => by
  obtain rfl := rvs_nil0 h
  refine .inl ⟨rfl, rfl, fun v u c hv => ?_⟩
  exact rvs_cons2 (e := ⟨kv n, u, c⟩) (es := []) (kv_rv hof) hv (RVs.nil M)
 | e :: es, l, i, h, hk => by
  obtain ⟨a, b, r, rfl, h1, h2, h3⟩ := rvs_two h
  obtain ⟨ha, hk2⟩ := mkeys_two hk
  have hke := rv_key h1 ha
  have hs : Instr.sameNow kd.td (kv n) e.key = some (keyEq n a) := by rw [hke]; exact same_kv hof ha hna
  by_cases hn : keyEq n a = true
  ·obtain rfl := eq_kv hof ha hn
   rw [hn] at hs
   refine .inr ⟨0, e, b, by simp [mfind, hn], ?_, rfl, hke, h2, fun v u hv => ?_⟩
   ·simp [Instr.findNow, hs]
   ·simp only [mput, hn, if_true, List.set_cons_zero]
    exact rvs_cons2 (e := { e with val := u }) h1 hv h3
  ·rw [Bool.not_eq_true] at hn
   rw [hn] at hs
   have hm : mfind n (a :: b :: r) = mfind n r := by simp [mfind, hn]
   have hp : ∀ v, mput n v (a :: b :: r) = a :: b :: mput n v r := fun v => by simp [mput, hn]
   rcases find_is hof hna (i + 1) h3 hk2 with ⟨g1, g2, g3⟩ | ⟨j, e', y, g1, g2, g3, g4, g5, g6⟩
   ·refine .inl ⟨hm.trans g1, by simp [Instr.findNow, hs, g2], fun v u c hv => ?_⟩
    rw [hp]
    exact rvs_cons2 (e := e) (es := es ++ [_]) h1 h2 (g3 v u c hv)
   ·refine .inr ⟨j + 1, e', y, hm.trans g1, ?_, by simpa using g3, g4, g5, fun v u hv => ?_⟩
    ·simp only [Instr.findNow, hs, g2]
     rw [show i + 1 + j = i + (j + 1) by omega]
    ·rw [hp, List.set_cons_succ]
     exact rvs_cons2 (e := e) h1 h2 (g6 v u hv)
theorem ask_is [Globs] {P : Program} {M : Mp} {w : World} {kt : TypeId} {ks : List IntKind} {n : AV} (hof : KK.of (.agg ks) n = true) (hK : KeyAt P kt (.agg ks)) : ∀ {es : List MapEntry} {l : List AV} (i : Nat), RVs M l (mfl es).toArray → mkeys (.agg ks) l = true →
  (mfind n l = none ∧ (Instr.findAsking kt (kv n) es i).run P w = .ok none w ∧ ∀ (v : AV) (u : Value) (c : Nat), RV M v u → RVs M (mput n v l) (mfl (es ++ [⟨kv n, u, c⟩])).toArray) ∨
  ∃ j e y, mfind n l = some y ∧ (Instr.findAsking kt (kv n) es i).run P w = .ok (some (i + j, e.val)) w ∧ es[j]? = some e ∧ e.key = kv n ∧ RV M y e.val ∧ ∀ (v : AV) (u : Value), RV M v u → RVs M (mput n v l) (mfl (es.set j { e with val := u })).toArray
 | [], l, i, h, hk => by
  obtain rfl := rvs_nil0 h
  refine .inl ⟨rfl, by simp [Instr.findAsking], fun v u c hv => ?_⟩
  exact rvs_cons2 (e := ⟨kv n, u, c⟩) (es := []) (kv_rv hof) hv (RVs.nil M)
 | e :: es, l, i, h, hk => by
  obtain ⟨a, b, r, rfl, h1, h2, h3⟩ := rvs_two h
  obtain ⟨ha, hk2⟩ := mkeys_two hk
  have hke := rv_key h1 ha
  have hs : (Op.equal kt (kv n) e.key).run P w = .ok (keyEq n a) w := by
   rw [hke]
   cases n <;> simp [KK.of] at hof
   cases a <;> simp [KK.of] at ha
   obtain ⟨fs, k1, k2, k3⟩ := hK
   have r1 := okInts_rvs (M := M) hof
   have r2 := okInts_rvs (M := M) ha
   exact run_eq (w := w) k2 10000 (by decide) _ _ _ _ _ _ _ r1 r2 (okInts_eq hof ha).1 ⟨_, k1, .inl ⟨rfl, rfl⟩⟩ ⟨_, k1, .inl ⟨rfl, rfl⟩⟩
  by_cases hn : keyEq n a = true
  ·obtain rfl := eq_kv hof ha hn
   rw [hn] at hs
   refine .inr ⟨0, e, b, by simp [mfind, hn], ?_, rfl, hke, h2, fun v u hv => ?_⟩
   ·simp [Instr.findAsking, hs]
   ·simp only [mput, hn, if_true, List.set_cons_zero]
    exact rvs_cons2 (e := { e with val := u }) h1 hv h3
  ·rw [Bool.not_eq_true] at hn
   rw [hn] at hs
   have hm : mfind n (a :: b :: r) = mfind n r := by simp [mfind, hn]
   have hp : ∀ v, mput n v (a :: b :: r) = a :: b :: mput n v r := fun v => by simp [mput, hn]
   rcases ask_is (w := w) hof hK (i + 1) h3 hk2 with ⟨g1, g2, g3⟩ | ⟨j, e', y, g1, g2, g3, g4, g5, g6⟩
   ·refine .inl ⟨hm.trans g1, by simp [Instr.findAsking, hs, g2], fun v u c hv => ?_⟩
    rw [hp]
    exact rvs_cons2 (e := e) (es := es ++ [_]) h1 h2 (g3 v u c hv)
   ·refine .inr ⟨j + 1, e', y, hm.trans g1, ?_, by simpa using g3, g4, g5, fun v u hv => ?_⟩
    ·simp only [Instr.findAsking, Sem.run_bind, hs, Result.andThen_ok, Bool.false_eq_true, if_false, g2]
     rw [show i + 1 + j = i + (j + 1) by omega]
    ·rw [hp, List.set_cons_succ]
     exact rvs_cons2 (e := e) h1 h2 (g6 v u hv)
theorem findKey_ask {P : Program} {w : World} {kt : TypeId} {fs : Array Field} (hu : P.underlying kt = some (.struct fs)) (k : Value) (es : List MapEntry) : (Instr.findKey kt k es).run P w = (Instr.findAsking kt k es).run P w := by
 cases es with
 | nil => simp [Instr.findKey, run_underlying hu, Result.andThen, Instr.findNow, Instr.findAsking]
 | cons e es => simp [Instr.findKey, run_underlying hu, Result.andThen, Instr.findNow, Instr.sameNow]
theorem find_run [Globs] {P : Program} {M : Mp} {w : World} {kt : TypeId} {kd : KK} {n : AV} (hof : kd.of n = true) (hK : KeyAt P kt kd) {es : List MapEntry} {l : List AV} (h : RVs M l (mfl es).toArray) (hk : mkeys kd l = true) :
  (mfind n l = none ∧ (Instr.findKey kt (kv n) es).run P w = .ok none w ∧ ∀ (v : AV) (u : Value) (c : Nat), RV M v u → RVs M (mput n v l) (mfl (es ++ [⟨kv n, u, c⟩])).toArray) ∨
  ∃ j e y, mfind n l = some y ∧ (Instr.findKey kt (kv n) es).run P w = .ok (some (j, e.val)) w ∧ es[j]? = some e ∧ e.key = kv n ∧ RV M y e.val ∧ ∀ (v : AV) (u : Value), RV M v u → RVs M (mput n v l) (mfl (es.set j { e with val := u })).toArray := by
 by_cases hna : ∃ ks, kd = .agg ks
 ·obtain ⟨ks, rfl⟩ := hna
  have hK' := hK
  obtain ⟨fs, hu, _⟩ := hK'
  rw [findKey_ask hu]
  rcases ask_is (w := w) hof hK 0 h hk with g | ⟨j, e, y, g1, g2, g3⟩
  ·exact .inl g
  ·exact .inr ⟨j, e, y, g1, by rw [g2, Nat.zero_add], g3⟩
 ·have hna : ∀ ks, kd ≠ .agg ks := fun ks e => hna ⟨ks, e⟩
  have hu : P.underlying kt = some kd.td := by cases kd with | int k => exact hK | str => exact hK | agg ks => exact absurd rfl (hna ks)
  rcases find_is hof hna 0 h hk with ⟨g1, g2, g3⟩ | ⟨j, e, y, g1, g2, g3⟩
  ·exact .inl ⟨g1, MapKept.run_findKey hu g2, g3⟩
  ·rw [Nat.zero_add] at g2
   exact .inr ⟨j, e, y, g1, MapKept.run_findKey hu g2, g3⟩
theorem HL.noblk [Globs] {M : Mp} {w : World} {l : Nat} {r : ALoop} (h : HL P M w l r) {id : Nat} {b : Blk} {lc : Loc} (hB : HB M w id b lc) : lc.blk ≠ l := by
 rintro rfl
 have := hB.obj
 rcases h.is with ⟨q, hq⟩ | ⟨es, c, hq⟩ <;> simp [World.shape?, hq] at this
theorem putAt [Globs] {M : Mp} {H : Hp} {L : List (Option ALoop)} {w : World} (h : Holds P M H L w) {k l : Nat} {r : ALoop} (hk : L[k]? = some (some r)) (hl : M.lp k = some l) (q' : Obj) (hc : ∀ c e f, q' ≠ .cells c e f)
  (hls : ∀ q, w.heap[l]? = some (.loop q) → ∃ q2, q' = .loop q2) (x : Option ALoop) (hx : ∀ r', x = some r' → ∀ w' : World, w'.heap[l]? = some q' → HL P M w' l r') :
  Holds P M H (L.set k x) (w.putObj l q') ∧ Fr M H L w M H (L.set k x) (w.putObj l q') := by
 obtain ⟨l0, h1, h2⟩ := h.lp k r hk
 rw [hl] at h1
 cases h1
 have hlt : l < w.heap.size := h2.lt
 have hklt : k < L.length := (List.getElem?_eq_some_iff.1 hk).1
 have hoth : ∀ b, b ≠ l → (w.putObj l q').heap[b]? = w.heap[b]? := fun b hb => World.putObj_heap_other hb
 have hnc : ∀ {b o : Nat} {v : Value}, w.cell? ⟨b, o, none⟩ = some v → b ≠ l := fun hc => h2.ne (by rw [hc]; rfl)
 have hfz : ∀ a, (w.putObj l q').frozen? a = w.frozen? a := by
  rcases h2.is with ⟨q, hq⟩ | ⟨es, c, hq⟩
  ·exact putObj_froz hq (by simp) hc
  ·exact putObj_froz hq (by simp) hc
 have hbl : ∀ id b lc, HB M w id b lc → lc.blk ≠ l := fun id b lc hB => h2.noblk hB
 have hget : ∀ (i : Nat) (r' : ALoop), (L.set k x)[i]? = some (some r') → (i = k ∧ x = some r') ∨ (i ≠ k ∧ L[i]? = some (some r')) := by
  intro i r' hi
  rw [List.getElem?_set] at hi
  split at hi
  ·rename_i e; subst e; simp at hi; exact .inl ⟨rfl, hi⟩
  ·rename_i e; exact .inr ⟨Ne.symm e, hi⟩
 refine ⟨⟨?_, ?_, h.sep, h.inj, h.gen, ?_, ?_⟩, ?_⟩
 ·intro b o v hv
  have h0 := h.imm b o v hv
  rw [World.cell?_of_block (w := w) (hoth b (hnc h0))]
  exact h0
 ·intro id b hb
  obtain ⟨lc, hB⟩ := h.blk id b hb
  exact ⟨lc, hB.kept (Mp.le.refl M) (hoth _ (hbl id b lc hB)) (by simp)⟩
 ·intro i r' hi
  rcases hget i r' hi with ⟨rfl, rfl⟩ | ⟨hne, hi⟩
  ·exact ⟨l, hl, hx r' rfl _ (World.putObj_heap_same hlt)⟩
  ·obtain ⟨l1, g1, g2⟩ := h.lp i r' hi
   refine ⟨l1, g1, g2.kept (Mp.le.refl M) (hoth l1 ?_)⟩
   rintro rfl
   exact hne (h.lpi i k r' r l1 hi hk g1 hl)
 ·intro i i' r1 r2 l1 h1 h2' h3 h4
  have key : ∀ (i : Nat) (r' : ALoop), (L.set k x)[i]? = some (some r') → ∃ r'', L[i]? = some (some r'') := by
   intro i r' hi
   rcases hget i r' hi with ⟨rfl, _⟩ | ⟨_, hi⟩
   ·exact ⟨r, hk⟩
   ·exact ⟨r', hi⟩
  obtain ⟨a1, b1⟩ := key i r1 h1
  obtain ⟨a2, b2⟩ := key i' r2 h2'
  exact h.lpi i i' a1 a2 l1 b1 b2 h3 h4
 ·refine { os := rfl, output := rfl, size := by simp, froz := hfz, keep := ?_, old := fun id bl lc a b _ => ⟨bl, lc, a, b, rfl⟩, oldl := ?_, hlen := Nat.le_refl _, llen := by simp, le := Mp.le.refl M, only := ?_, live := fun id b hb => ⟨b, hb⟩, imm := fun _ _ _ => rfl, onlyl := ?_, lstay := ?_ }
  ·intro b _ _ h2'
   exact hoth b (fun e => h2' k r hk (e ▸ hl))
  ·intro i r' l1 hi hl1 _
   rcases hget i r' hi with ⟨rfl, _⟩ | ⟨_, hi⟩
   ·exact ⟨r, hk, hl1⟩
   ·exact ⟨r', hi, hl1⟩
  ·intro id g lc h1 h0; rw [h1] at h0; cases h0
  ·intro i l1 h1 h0; rw [h1] at h0; cases h0
  ·intro l1 q1 hq1
   by_cases e : l1 = l
   ·subst e
    obtain ⟨q2, e2⟩ := hls q1 hq1
    exact ⟨q2, by rw [← e2]; exact World.putObj_heap_same hlt⟩
   ·exact ⟨q1, (hoth l1 e).trans hq1⟩
theorem cOp_map [Globs] {o : Op} {io : IOp} (h : cOp P o = some io) (hc : isCall io = true) :
    (∃ f args, io = .call f args) ∨ (∃ t, o = .makeMap t none ∧ io = .makeMap) ∨
    (∃ t kt e kd x k v x' k' v', (o = .mapUpdate t x k v ∨ o = .insert t x k v) ∧ P.underlying t = some (.map kt e) ∧ KeyAt P kt kd ∧ cOpd x = some x' ∧ cOpd k = some k' ∧ cOpd v = some v' ∧ io = .mapSet kd x' k' v') ∨
    (∃ t kt e kd x k ok x' k' z, o = .lookup t x k ok ∧ P.underlying t = some (.map kt e) ∧ KeyAt P kt kd ∧ cOpd x = some x' ∧ cOpd k = some k' ∧ zeroVal P e = some z ∧ io = .mapGet kd ok z x' k') ∨
    (∃ c t kt e x x', o = .call c ∧ c.callee = .builtin .len ∧ c.argTypes.toList = [t] ∧ c.args.toList = [x] ∧ P.underlying t = some (.map kt e) ∧ cOpd x = some x' ∧ io = .lenM x') := by
  have upd : ∀ {t x k v}, (match P.underlying t, cOpd x, cOpd k, cOpd v with
    | some (.map kt _), some x, some k, some v => (keyKind P kt).map fun kd => IOp.mapSet kd x k v
    | _, _, _, _ => none) = some io → ∃ kt e kd x' k' v', P.underlying t = some (.map kt e) ∧ KeyAt P kt kd ∧ cOpd x = some x' ∧ cOpd k = some k' ∧ cOpd v = some v' ∧ io = .mapSet kd x' k' v' := by
    intro t x k v h
    split at h
    · rename_i kt e x' k' v' h1 h2 h3 h4
      simp only [Option.map_eq_some_iff] at h
      obtain ⟨kd, h5, rfl⟩ := h
      exact ⟨kt, e, kd, x', k', v', h1, keyKind_at h5, h2, h3, h4, rfl⟩
    · cases h
  cases o with
  | makeMap t r =>
    cases r with
    | some r => simp [cOp] at h
    | none =>
      simp only [cOp] at h
      split at h
      · cases h; exact .inr (.inl ⟨t, rfl, rfl⟩)
      · cases h
  | mapUpdate t x k v =>
    simp only [cOp] at h
    obtain ⟨kt, e, kd, x', k', v', hh⟩ := upd h
    exact .inr (.inr (.inl ⟨t, kt, e, kd, x, k, v, x', k', v', .inl rfl, hh⟩))
  | insert t x k v =>
    simp only [cOp] at h
    obtain ⟨kt, e, kd, x', k', v', hh⟩ := upd h
    exact .inr (.inr (.inl ⟨t, kt, e, kd, x, k, v, x', k', v', .inr rfl, hh⟩))
  | lookup t x k ok =>
    simp only [cOp] at h
    split at h
    · rename_i kt e x' k' h1 h2 h3
      split at h
      · rename_i kd z h5 h6
        cases h
        exact .inr (.inr (.inr (.inl ⟨t, kt, e, kd, x, k, ok, x', k', z, rfl, h1, keyKind_at h5, h2, h3, h6, rfl⟩)))
      · cases h
    · cases h
  | call c =>
    simp only [cOp] at h
    split at h
    · split at h
      · rename_i f' a' h1 h2
        cases h
        exact .inl ⟨_, _, rfl⟩
      · cases h
    · rename_i b hb
      generalize hA : c.args.toList = args at h
      generalize hT : c.argTypes.toList = tys at h
      unfold cBuiltin at h
      split at h
      · rename_i t y
        split at h
        · simp at h; obtain ⟨z, _, rfl⟩ := h; simp [isCall] at hc
        · cases h; simp [isCall] at hc
        · rename_i kt e hu
          simp at h
          obtain ⟨z, hz, rfl⟩ := h
          exact .inr (.inr (.inr (.inr ⟨c, t, kt, e, y, z, rfl, hb, hT, hA, hu, hz, rfl⟩)))
        · simp at h; obtain ⟨z, _, rfl⟩ := h; simp [isCall] at hc
        · cases h
      all_goals
        repeat' split at h
        all_goals first | (cases h; done) | (cases h; simp [isCall] at hc; done) | (simp at h; obtain ⟨z, _, rfl⟩ := h; simp [isCall] at hc; done)
    · cases h
  | makeFunc fn first cap =>
    cases fn <;> simp only [cOp] at h
    · split at h
      · cases h; simp [isCall] at hc
      · cases h
    all_goals cases h
  | build t parts =>
    exfalso
    simp only [cOp] at h
    repeat' split at h
    all_goals first | (cases h; done) | (simp at h; done) | (simp only [Option.map_eq_some_iff] at h; obtain ⟨z, _, rfl⟩ := h; simp [isCall] at hc; done) | (rw [Option.bind_eq_some_iff] at h; obtain ⟨_, _, h⟩ := h; cases h; simp [isCall] at hc; done)
  | fieldAddr t x k =>
    exfalso
    simp only [cOp] at h
    split at h
    · rw [Option.bind_eq_some_iff] at h
      obtain ⟨_, _, h⟩ := h
      split at h <;> cases h
      simp [isCall] at hc
    · cases h
  | field t x k =>
    exfalso
    simp only [cOp] at h
    split at h
    · rw [Option.bind_eq_some_iff] at h
      obtain ⟨_, _, h⟩ := h
      split at h <;> cases h
      simp [isCall] at hc
    · cases h
  | _ =>
    exfalso
    first
    | (simp [cOp] at h; done)
    | (simp only [cOp] at h
       repeat' split at h
       all_goals first | (cases h; done) | (cases h; simp [isCall] at hc; done) | (simp at h; done) | (simp only [Option.map_eq_some_iff] at h; obtain ⟨z, _, rfl⟩ := h; simp [isCall] at hc; done))
theorem map_sound [Globs] {M : Mp} {m m' : Mem} {w : World} (h : Holds P M m.heap m.loops w) (hf : Fresh M m.heap m.loops) {T : List AV} {a : Act} (hT : RT M T a)
  {o : Oper} {io : IOp} (hc : cOp P o.op = some io) (hcall : isCall io = true) (hno : ∀ f args, io ≠ .call f args) {call : AV → List AV → Mem → Option (AV × Mem)} {x : AV} (he : evOp call T m io = some (x, m')) :
  OpGives P M m m' w (execOp a.eval o) x := by
 have lp : ∀ {i : Nat} {r : ALoop}, m.loops[i]? = some (some r) → isMap r = true → ∀ {v : Value}, RV M (.mref i) v → ∃ (l : Nat) (es : Array MapEntry) (c : Nat), v = .map (some l) ∧ M.lp i = some l ∧ w.heap[l]? = some (.map es c) ∧ RVs M r.tmps (mfl es.toList).toArray := by
  intro i r hi hm v hv
  cases hv with
  | mref _ l hl =>
   obtain ⟨l0, g1, g2⟩ := h.lp i r hi
   rw [hl] at g1
   cases g1
   obtain ⟨es, c, g3, g4⟩ := g2.mobj hm
   exact ⟨l, es, c, rfl, hl, g3, g4⟩
 rcases cOp_map hc hcall with ⟨f, args, e⟩ | ⟨t, ho, rfl⟩ | ⟨t, kt, e, kd, x0, k0, v0, x', k', v', ho, hu, hk, hx, hkk, hv, rfl⟩ | ⟨t, kt, e, kd, x0, k0, ok, x', k', z, ho, hu, hk, hx, hkk, hz, rfl⟩ | ⟨c, t, kt, e, x0, x', ho, hcl, hty, har, hu, hx, rfl⟩
 ·exact absurd e (hno f args)
 ·simp only [evOp, Option.some.injEq, Prod.mk.injEq] at he
  obtain ⟨rfl, rfl⟩ := he
  obtain ⟨g1, g2, g3⟩ := enterL (w' := w.alloc (.map #[] 0)) (r := mapObj []) (l := w.heap.size) h hf (by show w.heap.size ≤ (w.heap.push _).size; simp) (fun b hb => (MapKept.heap_alloc w _).2 b hb) (fun b hb c e f => by
   by_cases e0 : b = w.heap.size
   ·rw [e0, (MapKept.heap_alloc w _).1]; simp
   ·have : (w.alloc (.map #[] 0)).heap[b]? = none := by
     have : (w.alloc (.map #[] 0)).heap = w.heap.push (.map #[] 0) := rfl
     rw [this]
     exact Array.getElem?_eq_none (by simp; omega)
    rw [this]; simp) (Nat.le_refl _) rfl rfl (fun M' _ => ⟨fun _ => ⟨#[], 0, (MapKept.heap_alloc w _).1, RVs.nil M'⟩, fun hm => by cases hm⟩)
  exact ⟨.map (some w.heap.size), _, _, .inl (by simp [execOp, ho, Instr.makeMap]), .mref _ _ g3, g1, g2⟩
 ·have hx1 := rv_opd hT hx
  have hk1 := rv_opd hT hkk
  have hv1 := rv_opd hT hv
  simp only [evOp] at he
  split at he
  ·rename_i i hxe
   split at he
   ·rename_i r hr
    split at he
    ·rename_i hcond
     obtain ⟨hm, hof, hkeys⟩ := hcond
     simp only [Option.some.injEq, Prod.mk.injEq] at he
     obtain ⟨rfl, rfl⟩ := he
     rw [hxe] at hx1
     obtain ⟨l, es, c, e1, hl, hw, hes⟩ := lp hr hm hx1
     have e2 := rv_key hk1 hof
     have hrun : ∀ (q' : Obj), (Instr.mapUpdate t (a.eval x0) (a.eval k0) (a.eval v0)).run P w = .ok () (w.putObj l q') → (execOp a.eval o).run P w = .ok .skip (w.putObj l q') := by
      intro q' hq
      rcases ho with ho | ho <;> simp [execOp, ho, hq]
     have hck := key_check (P := P) (w := w) hk hof false
     rcases find_run (P := P) (w := w) hof hk hes hkeys with ⟨g1, g2, g3⟩ | ⟨j, e', y, g1, g2, g3, g4, g5, g6⟩
     ·obtain ⟨q1, q2⟩ := putAt h hr hl (.map (es.push ⟨kv (k'.ev T), a.eval v0, c⟩) (c + 1)) (by simp) (fun q hq => by rw [hw] at hq; cases hq) (some (mapObj (mput (k'.ev T) (v'.ev T) r.tmps))) (fun r' hr' w' hw' => by
       cases hr'
       refine ⟨fun _ => ⟨_, _, hw', ?_⟩, fun hm => by cases hm⟩
       show RVs M (mput (k'.ev T) (v'.ev T) r.tmps) (mfl (es.push _).toList).toArray
       rw [Array.toList_push]
       exact g3 _ _ c hv1)
      refine ⟨undef, _, M, .inr ⟨hrun _ ?_, rfl⟩, .tup0, q1, q2⟩
      rw [e1, e2]
      simp [Instr.mapUpdate, run_underlying hu, MapKept.run_getObj_map hw, hck, g2, MapKept.run_setObj_map _ hw, Result.andThen]
      rfl
     ·have hj : es[j]? = some e' := by simpa using g3
      obtain ⟨q1, q2⟩ := putAt h hr hl (.map (es.modify j fun e => { e with key := kv (k'.ev T), val := a.eval v0 }) c) (by simp) (fun q hq => by rw [hw] at hq; cases hq) (some (mapObj (mput (k'.ev T) (v'.ev T) r.tmps))) (fun r' hr' w' hw' => by
       cases hr'
       refine ⟨fun _ => ⟨_, _, hw', ?_⟩, fun hm => by cases hm⟩
       show RVs M (mput (k'.ev T) (v'.ev T) r.tmps) (mfl (es.modify j _).toList).toArray
       have : (es.modify j fun e => { e with key := kv (k'.ev T), val := a.eval v0 }).toList = es.toList.set j { e' with val := a.eval v0 } := by
        apply List.ext_getElem?
        intro i
        simp only [Array.getElem?_toList, Array.getElem?_modify, List.getElem?_set]
        by_cases hij : j = i
        ·subst hij
         have hlt := (Array.getElem?_eq_some_iff.1 hj).1
         have he := (Array.getElem?_eq_some_iff.1 hj).2
         simp [hlt, he, ← g4]
        ·simp [hij]
       rw [this]
       exact g6 _ _ hv1)
      refine ⟨undef, _, M, .inr ⟨hrun _ ?_, rfl⟩, .tup0, q1, q2⟩
      rw [e1, e2]
      simp [Instr.mapUpdate, run_underlying hu, MapKept.run_getObj_map hw, hck, g2, hj, g4, key_stays (P := P) (w := w) hof, MapKept.run_setObj_map _ hw, Result.andThen]
      rfl
    ·cases he
   ·cases he
  ·cases he
 ·have hx1 := rv_opd hT hx
  have hk1 := rv_opd hT hkk
  simp only [evOp] at he
  split at he
  ·rename_i i hxe
   split at he
   ·rename_i r hr
    split at he
    ·rename_i hcond
     obtain ⟨hm, hof, hkeys⟩ := hcond
     simp only [Option.some.injEq, Prod.mk.injEq] at he
     obtain ⟨rfl, rfl⟩ := he
     rw [hxe] at hx1
     obtain ⟨l, es, c, e1, hl, hw, hes⟩ := lp hr hm hx1
     have e2 := rv_key hk1 hof
     have hck := key_check (P := P) (w := w) hk hof es.isEmpty
     simp only [zeroVal, Option.bind_eq_some_iff] at hz
     obtain ⟨inf, hi, zv, hzv, hz⟩ := hz
     have hz1 : RV M z zv := rv_val hz
     rcases find_run (P := P) (w := w) hof hk hes hkeys with ⟨g1, g2, g3⟩ | ⟨j, e', y, g1, g2, g3, g4, g5, g6⟩
     ·refine ⟨if ok then .tuple #[zv, .bool false] else zv, w, M, .inl ?_, ?_, h, Fr.refl _ _ _ _⟩
      ·simp [execOp, ho, e1, e2, Instr.lookup, run_underlying hu, MapKept.run_getObj_map hw, hck, g2, zeroValue, typeInfo, hi, hzv, Result.andThen]
      ·rw [g1]
       cases ok
       ·exact hz1
       ·refine .tuple _ _ rfl fun i => ?_
        match i with
        | 0 => simpa [gt, ag] using hz1
        | 1 => simpa [gt, ag] using RV.bool false
        | n + 2 => simp [gt, ag]; exact .tup0
     ·refine ⟨if ok then .tuple #[e'.val, .bool true] else e'.val, w, M, .inl ?_, ?_, h, Fr.refl _ _ _ _⟩
      ·simp [execOp, ho, e1, e2, Instr.lookup, run_underlying hu, MapKept.run_getObj_map hw, hck, g2, Result.andThen]
      ·rw [g1]
       cases ok
       ·exact g5
       ·refine .tuple _ _ rfl fun i => ?_
        match i with
        | 0 => simpa [gt, ag] using g5
        | 1 => simpa [gt, ag] using RV.bool true
        | n + 2 => simp [gt, ag]; exact .tup0
    ·cases he
   ·cases he
  ·cases he
 ·have hx1 := rv_opd hT hx
  simp only [evOp] at he
  split at he
  ·rename_i i hxe
   split at he
   ·rename_i r hr
    split at he
    ·rename_i hm
     simp only [Option.some.injEq, Prod.mk.injEq] at he
     obtain ⟨rfl, rfl⟩ := he
     rw [hxe] at hx1
     obtain ⟨l, es, c', e1, hl, hw, hes⟩ := lp hr hm hx1
     have hlen : r.tmps.length / 2 = es.size := by
      have := hes.len
      simp only [List.size_toArray, mfl_len, Array.length_toList] at this
      omega
     refine ⟨.int .i64 es.size, w, M, .inl ?_, ?_, h, Fr.refl _ _ _ _⟩
     ·rw [run_builtin ho hcl]
      have ha : c.args = #[x0] := by rw [← Array.toArray_toList (xs := c.args), har]
      have hb : c.argTypes = #[t] := by rw [← Array.toArray_toList (xs := c.argTypes), hty]
      simp [builtin, ha, hb, Builtin.len_, run_underlying hu, e1, MapKept.run_getObj_map hw, goInt]
     ·rw [hlen]; exact .int _ _
    ·cases he
   ·cases he
  ·cases he
end
end Go.Zz

