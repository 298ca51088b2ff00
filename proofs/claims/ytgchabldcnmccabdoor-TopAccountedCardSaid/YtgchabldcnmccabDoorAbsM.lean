import Derived.Test.YtgchabldcnmccabDoorAbsC
import Derived.RangeFuncNested
import Derived.MapKept

namespace Go.Zz
section
variable {P : Program}
theorem zel {w : World} {r : Nat} {o : Obj} {q : Obj} (hr : w.heap[r]? = some q) (hq : ∀ c e f, q ≠ .cells c e f) (ho : ∀ c e f, o ≠ .cells c e f) (a : Addr) : (w.putObj r o).frozen? a = w.frozen? a := by
 have hlt := (Array.getElem?_eq_some_iff.1 hr).1
 by_cases e : a.block = r
 ·simp only [World.frozen?, e, World.putObj_heap_same hlt, hr]
  cases o <;> cases q <;> simp_all
 ·exact World.frozen?_of_block (World.putObj_heap_other e)
theorem zql [Globs] {M : Mp} {H : Hp} {L : List (Option ALoop)} {w w' : World} (h : Holds P M H L w) (hf : Fresh M H L) {l : Nat} {r : ALoop} (hsz : w.heap.size <= w'.heap.size) (hold : ∀ b, b < w.heap.size -> w'.heap[b]? = w.heap[b]?)
  (hnew : ∀ b, w.heap.size <= b -> ∀ c e f, w'.heap[b]? ≠ some (.cells c e f)) (hlw : w.heap.size <= l) (hos : w'.os = w.os) (hout : w'.output = w.output)
  (hr : ∀ M', M.le M' -> HL P M' w' l r) :
  let M' : Mp := { M with lp := fun k => if k = L.length then some l else M.lp k }
  Holds P M' H (L ++ [some r]) w' /\ Fr M H L w M' H (L ++ [some r]) w' /\ M'.lp L.length = some l := by
 intro M'
 have hle : M.le M' := ⟨fun _ _ _ h => h, fun _ _ _ h => h, fun k l' hk => by
  simp only [M']
  split
  ·rename_i e; rw [e, hf.lp L.length (Nat.le_refl _)] at hk; cases hk
  ·exact hk⟩
 have hget : ∀ (i : Nat) (r' : ALoop), (L ++ [some r])[i]? = some (some r') -> (i < L.length /\ L[i]? = some (some r')) \/ (i = L.length /\ r' = r) := by
  intro i r' hi;rw [List.getElem?_append] at hi
  split at hi
  ·rename_i hlt; exact .inl ⟨hlt, hi⟩
  ·rename_i hge
   by_cases e0 : i = L.length
   ·subst e0; simp at hi; exact .inr ⟨rfl, hi.symm⟩
   ·cases hd : i - L.length with
    | zero => omega
    | succ n => simp [hd] at hi
 have hlp : ∀ k, k < L.length -> M'.lp k = M.lp k := fun k hk => by simp only [M']; rw [if_neg (by omega)]
 have hsame : M'.lp L.length = some l := by simp [M']
 have hllt : ∀ k r' l', L[k]? = some (some r') -> M.lp k = some l' -> l' < w.heap.size := fun k r' l' hk hl => by
  obtain ⟨l1, g1, g2⟩ := h.lp k r' hk;rw [hl] at g1
  cases g1
  exact g2.lt
 refine ⟨⟨?_, ?_, ?_, ?_, h.gen, ?_, ?_⟩, ?_, hsame⟩
 ·intro b o v hv;have h0 := h.imm b o v hv;rw [World.cell?_of_block (w := w) (hold b (zcR h0))];exact h0
 ·intro id b hb;obtain ⟨lc, hB⟩ := h.blk id b hb;exact ⟨lc, hB.kept hle (hold _ hB.lt) hsz⟩
 ·exact h.sep
 ·exact h.inj
 ·intro k r' hk
  rcases hget k r' hk with ⟨hlt, hk⟩ | ⟨rfl, rfl⟩
  ·obtain ⟨l', g1, g2⟩ := h.lp k r' hk;exact ⟨l', by rw [hlp k hlt]; exact g1, g2.kept hle (hold l' g2.lt)⟩
  ·exact ⟨l, hsame, hr M' hle⟩
 ·intro k k' r1 r2 l' h1 h2 h3 h4
  rcases hget k r1 h1 with ⟨hlt, g1⟩ | ⟨e1, _⟩ <;> rcases hget k' r2 h2 with ⟨hlt', g2⟩ | ⟨e2, _⟩
  ·rw [hlp k hlt] at h3;rw [hlp k' hlt'] at h4;exact h.lpi k k' r1 r2 l' g1 g2 h3 h4
  ·rw [hlp k hlt] at h3;rw [e2, hsame] at h4
   cases h4
   have := hllt k r1 l g1 h3;omega
  ·rw [hlp k' hlt'] at h4;rw [e1, hsame] at h3
   cases h3
   have := hllt k' r2 l g2 h4;omega
  ·rw [e1, e2]
 ·refine { os := hos, output := hout, size := hsz, froz := ?_, keep := fun b hb _ _ => hold b hb, old := fun id bl lc a b _ => ⟨bl, lc, a, b, rfl⟩, oldl := ?_, hlen := Nat.le_refl _, llen := by simp, le := hle, only := ?_, live := fun id b hb => ⟨b, hb⟩, imm := fun _ _ _ => rfl, onlyl := ?_, lstay := fun l1 q1 h1 => ⟨q1, (hold l1 (Array.getElem?_eq_some_iff.1 h1).1).trans h1⟩ }
  ·intro a
   by_cases hlt : a.block < w.heap.size
   ·exact World.frozen?_of_block (hold _ hlt)
   ·have e1 : w.heap[a.block]? = none := by simpa using hlt
    have := hnew a.block (by omega);simp only [World.frozen?, e1]
    cases hw : w'.heap[a.block]? with
    | none => rfl
    | some o => cases o <;> first | rfl | exact absurd hw (this _ _ _)
  ·intro k r' l' hk hl' hlt
   rcases hget k r' hk with ⟨hk1, hk⟩ | ⟨rfl, rfl⟩
   ·rw [hlp k hk1] at hl'; exact ⟨r', hk, hl'⟩
   ·rw [hsame] at hl'; cases hl'; omega
  ·intro id g lc h1 h0; rw [show M'.loc id g = M.loc id g from rfl, h0] at h1; cases h1
  ·intro k l' h1 h0
   by_cases e : k = L.length
   ·simp [e]
   ·rw [show M'.lp k = M.lp k by simp [M', e], h0] at h1; cases h1
theorem zom : ∀ es : List MapEntry, (mfl es).length = 2 * es.length
 | [] => rfl
 | e :: r => by simp only [mfl, List.length_cons, zom r]; omega
theorem zq0 [Globs] {M : Mp} {l : List AV} {e : MapEntry} {es : List MapEntry} (h : RVs M l (mfl (e :: es)).toArray) : ∃ x y r, l = x :: y :: r /\ RV M x e.key /\ RV M y e.val /\ RVs M r (mfl es).toArray := by
 have hl := h.len;simp only [mfl, List.size_toArray, List.length_cons] at hl
 cases l with
 | nil => simp at hl
 | cons x l =>
  cases l with
  | nil => simp at hl
  | cons y r =>
   refine ⟨x, y, r, rfl, ?_, ?_, ?_⟩
   ·have := h.rel 0; simpa [gt, ag, mfl] using this
   ·have := h.rel 1; simpa [gt, ag, mfl] using this
   ·have := RVs.drop h 2; simpa [mfl] using this
theorem zeQ [Globs] {M : Mp} {x y : AV} {r : List AV} {e : MapEntry} {es : List MapEntry} (hx : RV M x e.key) (hy : RV M y e.val) (hr : RVs M r (mfl es).toArray) : RVs M (x :: y :: r) (mfl (e :: es)).toArray := by
 have h1 : RVs M [x, y] ([e.key, e.val] : List Value).toArray := ⟨rfl, fun i => by
  match i with
  | 0 => simpa [gt, ag] using hx
  | 1 => simpa [gt, ag] using hy
  | n + 2 => simp [gt, ag]; exact .tup0⟩
 have := h1.append hr;simpa [mfl] using this
theorem zoH [Globs] {M : Mp} {l : List AV} (h : RVs M l (mfl []).toArray) : l = [] := List.eq_nil_of_length_eq_zero (by simpa [mfl] using h.len)
def KK.td : KK -> TypeDesc
 | .int k => .int k
 | .str => .string
def kv : AV -> Value
 | .int k n => .int k n
 | .str s => .string s
 | _ => undef
theorem znv [Globs] {M : Mp} {kd : KK} {a : AV} {v : Value} (h : RV M a v) (hk : kd.of a = true) : v = kv a := by
 cases kd <;> cases a <;> simp [KK.of] at hk <;> cases h <;> rfl
theorem kv_rv [Globs] {M : Mp} {kd : KK} {a : AV} (hk : kd.of a = true) : RV M a (kv a) := by
 cases kd <;> cases a <;> simp [KK.of] at hk
 ·exact .int _ _
 ·exact .str _
theorem zri {kd : KK} {a : AV} (hk : kd.of a = true) : MapKept.IsKey kd.td (kv a) := by
 cases kd <;> cases a <;> simp [KK.of] at hk
 ·exact hk
 ·trivial
theorem zt7 (a b : ByteArray) : (a == b) = decide (a = b) := by
 cases a with
 | mk x => cases b with
  | mk y =>
   show (x == y) = _
   rw [Bool.eq_iff_iff];simp
theorem zrN {kd : KK} {a b : AV} (ha : kd.of a = true) (hb : kd.of b = true) : Instr.sameNow kd.td (kv a) (kv b) = some (zg4 a b) := by
 cases kd <;> cases a <;> simp [KK.of] at ha <;> cases b <;> simp [KK.of] at hb
 ·subst ha; subst hb; simp [Instr.sameNow, KK.td, kv, zg4]; rw [Bool.eq_iff_iff]; simp
 ·simp [Instr.sameNow, KK.td, kv, zg4, zt7]
theorem eq_kv {kd : KK} {a b : AV} (ha : kd.of a = true) (hb : kd.of b = true) (h : zg4 a b = true) : a = b := by
 cases kd <;> cases a <;> simp [KK.of] at ha <;> cases b <;> simp [KK.of] at hb <;> simp [zg4] at h
 ·subst ha; subst hb; rw [h]
 ·rw [h]
theorem zmD {kd : KK} {a b : AV} {r : List AV} (h : zc2 kd (a :: b :: r) = true) : kd.of a = true /\ zc2 kd r = true := by
 simpa [zc2] using h
theorem zke [Globs] {M : Mp} {kd : KK} {n : AV} (hof : kd.of n = true) : ∀ {es : List MapEntry} {l : List AV} (i : Nat), RVs M l (mfl es).toArray -> zc2 kd l = true ->
  (zhq n l = none /\ Instr.findNow kd.td (kv n) es i = some none /\ ∀ (v : AV) (u : Value) (c : Nat), RV M v u -> RVs M (zff n v l) (mfl (es ++ [⟨kv n, u, c⟩])).toArray) \/
  ∃ j e y, zhq n l = some y /\ Instr.findNow kd.td (kv n) es i = some (some (i + j, e.val)) /\ es[j]? = some e /\ e.key = kv n /\ RV M y e.val /\ ∀ (v : AV) (u : Value), RV M v u -> RVs M (zff n v l) (mfl (es.set j { e with val := u })).toArray
 | [], l, i, h, hk => by
  obtain rfl := zoH h;refine .inl ⟨rfl, rfl, fun v u c hv => ?_⟩
  exact zeQ (e := ⟨kv n, u, c⟩) (es := []) (kv_rv hof) hv (RVs.nil M)
 | e :: es, l, i, h, hk => by
  obtain ⟨a, b, r, rfl, h1, h2, h3⟩ := zq0 h;obtain ⟨ha, hk2⟩ := zmD hk;have hke := znv h1 ha
  have hs : Instr.sameNow kd.td (kv n) e.key = some (zg4 n a) := by rw [hke]; exact zrN hof ha
  by_cases hn : zg4 n a = true
  ·obtain rfl := eq_kv hof ha hn;rw [hn] at hs;refine .inr ⟨0, e, b, by simp [zhq, hn], ?_, rfl, hke, h2, fun v u hv => ?_⟩
   ·simp [Instr.findNow, hs]
   ·simp only [zff, hn, if_true, List.set_cons_zero];exact zeQ (e := { e with val := u }) h1 hv h3
  ·rw [Bool.not_eq_true] at hn;rw [hn] at hs
   have hm : zhq n (a :: b :: r) = zhq n r := by simp [zhq, hn]
   have hp : ∀ v, zff n v (a :: b :: r) = a :: b :: zff n v r := fun v => by simp [zff, hn]
   rcases zke hof (i + 1) h3 hk2 with ⟨g1, g2, g3⟩ | ⟨j, e', y, g1, g2, g3, g4, g5, g6⟩
   ·refine .inl ⟨hm.trans g1, by simp [Instr.findNow, hs, g2], fun v u c hv => ?_⟩;rw [hp];exact zeQ (e := e) (es := es ++ [_]) h1 h2 (g3 v u c hv)
   ·refine .inr ⟨j + 1, e', y, hm.trans g1, ?_, by simpa using g3, g4, g5, fun v u hv => ?_⟩
    ·simp only [Instr.findNow, hs, g2];rw [show i + 1 + j = i + (j + 1) by omega]
    ·rw [hp, List.set_cons_succ];exact zeQ (e := e) h1 h2 (g6 v u hv)
theorem HL.noblk [Globs] {M : Mp} {w : World} {l : Nat} {r : ALoop} (h : HL P M w l r) {id : Nat} {b : Blk} {lc : Loc} (hB : HB M w id b lc) : lc.blk ≠ l := by
 rintro rfl;have := hB.obj
 rcases h.is with ⟨q, hq⟩ | ⟨es, c, hq⟩ <;> simp [World.shape?, hq] at this
theorem zq9 [Globs] {M : Mp} {H : Hp} {L : List (Option ALoop)} {w : World} (h : Holds P M H L w) {k l : Nat} {r : ALoop} (hk : L[k]? = some (some r)) (hl : M.lp k = some l) (q' : Obj) (hc : ∀ c e f, q' ≠ .cells c e f)
  (hls : ∀ q, w.heap[l]? = some (.loop q) -> ∃ q2, q' = .loop q2) (x : Option ALoop) (hx : ∀ r', x = some r' -> ∀ w' : World, w'.heap[l]? = some q' -> HL P M w' l r') :
  Holds P M H (L.set k x) (w.putObj l q') /\ Fr M H L w M H (L.set k x) (w.putObj l q') := by
 obtain ⟨l0, h1, h2⟩ := h.lp k r hk;rw [hl] at h1
 cases h1
 have hlt : l < w.heap.size := h2.lt;have hklt : k < L.length := (List.getElem?_eq_some_iff.1 hk).1
 have hoth : ∀ b, b ≠ l -> (w.putObj l q').heap[b]? = w.heap[b]? := fun b hb => World.putObj_heap_other hb
 have hnc : ∀ {b o : Nat} {v : Value}, w.cell? ⟨b, o, none⟩ = some v -> b ≠ l := fun hc => h2.ne (by rw [hc]; rfl)
 have hfz : ∀ a, (w.putObj l q').frozen? a = w.frozen? a := by
  rcases h2.is with ⟨q, hq⟩ | ⟨es, c, hq⟩
  ·exact zel hq (by simp) hc
  ·exact zel hq (by simp) hc
 have hbl : ∀ id b lc, HB M w id b lc -> lc.blk ≠ l := fun id b lc hB => h2.noblk hB
 have hget : ∀ (i : Nat) (r' : ALoop), (L.set k x)[i]? = some (some r') -> (i = k /\ x = some r') \/ (i ≠ k /\ L[i]? = some (some r')) := by
  intro i r' hi;rw [List.getElem?_set] at hi
  split at hi
  ·rename_i e; subst e; simp at hi; exact .inl ⟨rfl, hi⟩
  ·rename_i e; exact .inr ⟨Ne.symm e, hi⟩
 refine ⟨⟨?_, ?_, h.sep, h.inj, h.gen, ?_, ?_⟩, ?_⟩
 ·intro b o v hv;have h0 := h.imm b o v hv;rw [World.cell?_of_block (w := w) (hoth b (hnc h0))];exact h0
 ·intro id b hb;obtain ⟨lc, hB⟩ := h.blk id b hb;exact ⟨lc, hB.kept (Mp.le.refl M) (hoth _ (hbl id b lc hB)) (by simp)⟩
 ·intro i r' hi
  rcases hget i r' hi with ⟨rfl, rfl⟩ | ⟨hne, hi⟩
  ·exact ⟨l, hl, hx r' rfl _ (World.putObj_heap_same hlt)⟩
  ·obtain ⟨l1, g1, g2⟩ := h.lp i r' hi;refine ⟨l1, g1, g2.kept (Mp.le.refl M) (hoth l1 ?_)⟩;rintro rfl;exact hne (h.lpi i k r' r l1 hi hk g1 hl)
 ·intro i i' r1 r2 l1 h1 h2' h3 h4
  have key : ∀ (i : Nat) (r' : ALoop), (L.set k x)[i]? = some (some r') -> ∃ r'', L[i]? = some (some r'') := by
   intro i r' hi
   rcases hget i r' hi with ⟨rfl, _⟩ | ⟨_, hi⟩
   ·exact ⟨r, hk⟩
   ·exact ⟨r', hi⟩
  obtain ⟨a1, b1⟩ := key i r1 h1;obtain ⟨a2, b2⟩ := key i' r2 h2';exact h.lpi i i' a1 a2 l1 b1 b2 h3 h4
 ·refine { os := rfl, output := rfl, size := by simp, froz := hfz, keep := ?_, old := fun id bl lc a b _ => ⟨bl, lc, a, b, rfl⟩, oldl := ?_, hlen := Nat.le_refl _, llen := by simp, le := Mp.le.refl M, only := ?_, live := fun id b hb => ⟨b, hb⟩, imm := fun _ _ _ => rfl, onlyl := ?_, lstay := ?_ }
  ·intro b _ _ h2';exact hoth b (fun e => h2' k r hk (e ▸ hl))
  ·intro i r' l1 hi hl1 _
   rcases hget i r' hi with ⟨rfl, _⟩ | ⟨_, hi⟩
   ·exact ⟨r, hk, hl1⟩
   ·exact ⟨r', hi, hl1⟩
  ·intro id g lc h1 h0; rw [h1] at h0; cases h0
  ·intro i l1 h1 h0; rw [h1] at h0; cases h0
  ·intro l1 q1 hq1
   by_cases e : l1 = l
   ·subst e;obtain ⟨q2, e2⟩ := hls q1 hq1;exact ⟨q2, by rw [<- e2]; exact World.putObj_heap_same hlt⟩
   ·exact ⟨q1, (hoth l1 e).trans hq1⟩
theorem zrQ [Globs] {o : Op} {io : IOp} (h : cOp P o = some io) (hc : za5 io = true) :
    (∃ f args, io = .call f args) \/ (∃ t, o = .makeMap t none /\ io = .makeMap) \/
    (∃ t kt e kd x k v x' k' v', (o = .mapUpdate t x k v \/ o = .insert t x k v) /\ P.underlying t = some (.map kt e) /\ P.underlying kt = some kd.td /\ zbI x = some x' /\ zbI k = some k' /\ zbI v = some v' /\ io = .mapSet kd x' k' v') \/
    (∃ t kt e kd x k ok x' k' z, o = .lookup t x k ok /\ P.underlying t = some (.map kt e) /\ P.underlying kt = some kd.td /\ zbI x = some x' /\ zbI k = some k' /\ zjS P e = some z /\ io = .mapGet kd ok z x' k') \/
    (∃ c t kt e x x', o = .call c /\ c.callee = .builtin .len /\ c.argTypes.toList = [t] /\ c.args.toList = [x] /\ P.underlying t = some (.map kt e) /\ zbI x = some x' /\ io = .lenM x') := by
  have upd : ∀ {t x k v}, (match P.underlying t, zbI x, zbI k, zbI v with
    | some (.map kt _), some x, some k, some v => match P.underlying kt with
      | some (.int kd) => some (IOp.mapSet (.int kd) x k v)
      | some .string => some (IOp.mapSet .str x k v)
      | _ => none
    | _, _, _, _ => none) = some io -> ∃ kt e kd x' k' v', P.underlying t = some (.map kt e) /\ P.underlying kt = some kd.td /\ zbI x = some x' /\ zbI k = some k' /\ zbI v = some v' /\ io = .mapSet kd x' k' v' := by
    intro t x k v h
    split at h
    · rename_i kt e x' k' v' h1 h2 h3 h4
      split at h
      · rename_i kd h5
        cases h
        exact ⟨kt, e, .int kd, x', k', v', h1, h5, h2, h3, h4, rfl⟩
      · rename_i h5
        cases h
        exact ⟨kt, e, .str, x', k', v', h1, h5, h2, h3, h4, rfl⟩
      · cases h
    · cases h
  cases o with
  | makeMap t r =>
    cases r with
    | some r => simp [cOp] at h
    | none =>
      simp only [cOp] at h
      split at h
      · cases h; exact .inr (.inl ⟨t, rfl, rfl⟩)
      · cases h
  | mapUpdate t x k v =>
    simp only [cOp] at h;obtain ⟨kt, e, kd, x', k', v', hh⟩ := upd h
    exact .inr (.inr (.inl ⟨t, kt, e, kd, x, k, v, x', k', v', .inl rfl, hh⟩))
  | insert t x k v =>
    simp only [cOp] at h;obtain ⟨kt, e, kd, x', k', v', hh⟩ := upd h
    exact .inr (.inr (.inl ⟨t, kt, e, kd, x, k, v, x', k', v', .inr rfl, hh⟩))
  | lookup t x k ok =>
    simp only [cOp] at h
    split at h
    · rename_i kt e x' k' h1 h2 h3
      split at h
      · rename_i kd z h5 h6
        cases h
        exact .inr (.inr (.inr (.inl ⟨t, kt, e, .int kd, x, k, ok, x', k', z, rfl, h1, h5, h2, h3, h6, rfl⟩)))
      · rename_i z h5 h6
        cases h
        exact .inr (.inr (.inr (.inl ⟨t, kt, e, .str, x, k, ok, x', k', z, rfl, h1, h5, h2, h3, h6, rfl⟩)))
      · cases h
    · cases h
  | call c =>
    simp only [cOp] at h
    split at h
    · split at h
      · rename_i f' a' h1 h2
        cases h
        exact .inl ⟨_, _, rfl⟩
      · cases h
    · rename_i b hb
      generalize hA : c.args.toList = args at h;generalize hT : c.argTypes.toList = tys at h;unfold zgd at h
      split at h
      · rename_i t y
        split at h
        · simp at h; obtain ⟨z, _, rfl⟩ := h; simp [za5] at hc
        · cases h; simp [za5] at hc
        · rename_i kt e hu
          simp at h;obtain ⟨z, hz, rfl⟩ := h;exact .inr (.inr (.inr (.inr ⟨c, t, kt, e, y, z, rfl, hb, hT, hA, hu, hz, rfl⟩)))
        · simp at h; obtain ⟨z, _, rfl⟩ := h; simp [za5] at hc
        · cases h
      all_goals
        repeat' split at h
        all_goals first | (cases h; done) | (cases h; simp [za5] at hc; done) | (simp at h; obtain ⟨z, _, rfl⟩ := h; simp [za5] at hc; done)
    · cases h
  | makeFunc fn first cap =>
    cases fn <;> simp only [cOp] at h
    · split at h
      · cases h; simp [za5] at hc
      · cases h
    all_goals cases h
  | build t parts =>
    exfalso;simp only [cOp] at h
    repeat' split at h
    all_goals first | (cases h; done) | (simp at h; done) | (simp only [Option.map_eq_some_iff] at h; obtain ⟨z, _, rfl⟩ := h; simp [za5] at hc; done) | (rw [Option.bind_eq_some_iff] at h; obtain ⟨_, _, h⟩ := h; cases h; simp [za5] at hc; done)
  | fieldAddr t x k =>
    exfalso;simp only [cOp] at h
    split at h
    · rw [Option.bind_eq_some_iff] at h
      obtain ⟨_, _, h⟩ := h
      split at h <;> cases h
      simp [za5] at hc
    · cases h
  | field t x k =>
    exfalso;simp only [cOp] at h
    split at h
    · rw [Option.bind_eq_some_iff] at h
      obtain ⟨_, _, h⟩ := h
      split at h <;> cases h
      simp [za5] at hc
    · cases h
  | _ =>
    exfalso
    first
    | (simp [cOp] at h; done)
    | (simp only [cOp] at h
       repeat' split at h
       all_goals first | (cases h; done) | (cases h; simp [za5] at hc; done) | (simp at h; done) | (simp only [Option.map_eq_some_iff] at h; obtain ⟨z, _, rfl⟩ := h; simp [za5] at hc; done))
theorem zmX [Globs] {M : Mp} {m m' : Mem} {w : World} (h : Holds P M m.heap m.loops w) (hf : Fresh M m.heap m.loops) {T : List AV} {a : Act} (hT : RT M T a)
  {o : Oper} {io : IOp} (hc : cOp P o.op = some io) (hcall : za5 io = true) (hno : ∀ f args, io ≠ .call f args) {call : AV -> List AV -> Mem -> Option (AV × Mem)} {x : AV} (he : zaW call T m io = some (x, m')) :
  zex P M m m' w (execOp a.eval o) x := by
 have lp : ∀ {i : Nat} {r : ALoop}, m.loops[i]? = some (some r) -> zcO r = true -> ∀ {v : Value}, RV M (.mref i) v -> ∃ (l : Nat) (es : Array MapEntry) (c : Nat), v = .map (some l) /\ M.lp i = some l /\ w.heap[l]? = some (.map es c) /\ RVs M r.tmps (mfl es.toList).toArray := by
  intro i r hi hm v hv
  cases hv with
  | mref _ l hl =>
   obtain ⟨l0, g1, g2⟩ := h.lp i r hi;rw [hl] at g1
   cases g1
   obtain ⟨es, c, g3, g4⟩ := g2.mobj hm;exact ⟨l, es, c, rfl, hl, g3, g4⟩
 rcases zrQ hc hcall with ⟨f, args, e⟩ | ⟨t, ho, rfl⟩ | ⟨t, kt, e, kd, x0, k0, v0, x', k', v', ho, hu, hk, hx, hkk, hv, rfl⟩ | ⟨t, kt, e, kd, x0, k0, ok, x', k', z, ho, hu, hk, hx, hkk, hz, rfl⟩ | ⟨c, t, kt, e, x0, x', ho, hcl, hty, har, hu, hx, rfl⟩
 ·exact absurd e (hno f args)
 ·simp only [zaW, Option.some.injEq, Prod.mk.injEq] at he;obtain ⟨rfl, rfl⟩ := he
  obtain ⟨g1, g2, g3⟩ := zql (w' := w.alloc (.map #[] 0)) (r := zb3 []) (l := w.heap.size) h hf (by show w.heap.size <= (w.heap.push _).size; simp) (fun b hb => (MapKept.heap_alloc w _).2 b hb) (fun b hb c e f => by
   by_cases e0 : b = w.heap.size
   ·rw [e0, (MapKept.heap_alloc w _).1]; simp
   ·have : (w.alloc (.map #[] 0)).heap[b]? = none := by
     have : (w.alloc (.map #[] 0)).heap = w.heap.push (.map #[] 0) := rfl;rw [this];exact Array.getElem?_eq_none (by simp; omega)
    rw [this]; simp) (Nat.le_refl _) rfl rfl (fun M' _ => ⟨fun _ => ⟨#[], 0, (MapKept.heap_alloc w _).1, RVs.nil M'⟩, fun hm => by cases hm⟩)
  exact ⟨.map (some w.heap.size), _, _, .inl (by simp [execOp, ho, Instr.makeMap]), .mref _ _ g3, g1, g2⟩
 ·have hx1 := zaE hT hx;have hk1 := zaE hT hkk;have hv1 := zaE hT hv;simp only [zaW] at he
  split at he
  ·rename_i i hxe
   split at he
   ·rename_i r hr
    split at he
    ·rename_i hcond;obtain ⟨hm, hof, hkeys⟩ := hcond;simp only [Option.some.injEq, Prod.mk.injEq] at he;obtain ⟨rfl, rfl⟩ := he;rw [hxe] at hx1;obtain ⟨l, es, c, e1, hl, hw, hes⟩ := lp hr hm hx1;have e2 := znv hk1 hof
     have hrun : ∀ (q' : Obj), (Instr.mapUpdate t (a.eval x0) (a.eval k0) (a.eval v0)).run P w = .ok () (w.putObj l q') -> (execOp a.eval o).run P w = .ok .skip (w.putObj l q') := by
      intro q' hq
      rcases ho with ho | ho <;> simp [execOp, ho, hq]
     have hck := MapKept.run_checkKey (P := P) (w := w) (d := kd.td) (k := kv (k'.ev T)) hk (zri hof) false 9999
     rcases zke hof 0 hes hkeys with ⟨g1, g2, g3⟩ | ⟨j, e', y, g1, g2, g3, g4, g5, g6⟩
     ·obtain ⟨q1, q2⟩ := zq9 h hr hl (.map (es.push ⟨kv (k'.ev T), a.eval v0, c⟩) (c + 1)) (by simp) (fun q hq => by rw [hw] at hq; cases hq) (some (zb3 (zff (k'.ev T) (v'.ev T) r.tmps))) (fun r' hr' w' hw' => by
       cases hr'
       refine ⟨fun _ => ⟨_, _, hw', ?_⟩, fun hm => by cases hm⟩
       show RVs M (zff (k'.ev T) (v'.ev T) r.tmps) (mfl (es.push _).toList).toArray
       rw [Array.toList_push]
       exact g3 _ _ c hv1)
      refine ⟨undef, _, M, .inr ⟨hrun _ ?_, rfl⟩, .tup0, q1, q2⟩;rw [e1, e2];simp [Instr.mapUpdate, run_underlying hu, MapKept.run_getObj_map hw, hck, MapKept.run_findKey hk g2, MapKept.run_setObj_map _ hw, Result.andThen];rfl
     ·have hj : es[j]? = some e' := by simpa using g3
      obtain ⟨q1, q2⟩ := zq9 h hr hl (.map (es.modify j fun e => { e with key := kv (k'.ev T), val := a.eval v0 }) c) (by simp) (fun q hq => by rw [hw] at hq; cases hq) (some (zb3 (zff (k'.ev T) (v'.ev T) r.tmps))) (fun r' hr' w' hw' => by
       cases hr'
       refine ⟨fun _ => ⟨_, _, hw', ?_⟩, fun hm => by cases hm⟩
       show RVs M (zff (k'.ev T) (v'.ev T) r.tmps) (mfl (es.modify j _).toList).toArray
       have : (es.modify j fun e => { e with key := kv (k'.ev T), val := a.eval v0 }).toList = es.toList.set j { e' with val := a.eval v0 } := by
        apply List.ext_getElem?;intro i;simp only [Array.getElem?_toList, Array.getElem?_modify, List.getElem?_set]
        by_cases hij : j = i
        ·subst hij;have hlt := (Array.getElem?_eq_some_iff.1 hj).1;have he := (Array.getElem?_eq_some_iff.1 hj).2;simp [hlt, he, <- g4]
        ·simp [hij]
       rw [this]
       exact g6 _ _ hv1)
      refine ⟨undef, _, M, .inr ⟨hrun _ ?_, rfl⟩, .tup0, q1, q2⟩;rw [e1, e2];rw [Nat.zero_add] at g2;simp [Instr.mapUpdate, run_underlying hu, MapKept.run_getObj_map hw, hck, MapKept.run_findKey hk g2, hj, g4, MapKept.run_keyThatStays (P := P) (w := w) (d := kd.td) (k := kv (k'.ev T)) (zri hof), MapKept.run_setObj_map _ hw, Result.andThen];rfl
    ·cases he
   ·cases he
  ·cases he
 ·have hx1 := zaE hT hx;have hk1 := zaE hT hkk;simp only [zaW] at he
  split at he
  ·rename_i i hxe
   split at he
   ·rename_i r hr
    split at he
    ·rename_i hcond;obtain ⟨hm, hof, hkeys⟩ := hcond;simp only [Option.some.injEq, Prod.mk.injEq] at he;obtain ⟨rfl, rfl⟩ := he;rw [hxe] at hx1;obtain ⟨l, es, c, e1, hl, hw, hes⟩ := lp hr hm hx1;have e2 := znv hk1 hof;have hck := MapKept.run_checkKey (P := P) (w := w) (d := kd.td) (k := kv (k'.ev T)) hk (zri hof) es.isEmpty 9999;simp only [zjS, Option.bind_eq_some_iff] at hz;obtain ⟨inf, hi, zv, hzv, hz⟩ := hz;have hz1 : RV M z zv := zqd hz
     rcases zke hof 0 hes hkeys with ⟨g1, g2, g3⟩ | ⟨j, e', y, g1, g2, g3, g4, g5, g6⟩
     ·refine ⟨if ok then .tuple #[zv, .bool false] else zv, w, M, .inl ?_, ?_, h, Fr.refl _ _ _ _⟩
      ·simp [execOp, ho, e1, e2, Instr.lookup, run_underlying hu, MapKept.run_getObj_map hw, hck, MapKept.run_findKey hk g2, zeroValue, typeInfo, hi, hzv, Result.andThen]
      ·rw [g1]
       cases ok
       ·exact hz1
       ·refine .tuple _ _ rfl fun i => ?_
        match i with
        | 0 => simpa [gt, ag] using hz1
        | 1 => simpa [gt, ag] using RV.bool false
        | n + 2 => simp [gt, ag]; exact .tup0
     ·refine ⟨if ok then .tuple #[e'.val, .bool true] else e'.val, w, M, .inl ?_, ?_, h, Fr.refl _ _ _ _⟩
      ·simp [execOp, ho, e1, e2, Instr.lookup, run_underlying hu, MapKept.run_getObj_map hw, hck, MapKept.run_findKey hk g2, Result.andThen]
      ·rw [g1]
       cases ok
       ·exact g5
       ·refine .tuple _ _ rfl fun i => ?_
        match i with
        | 0 => simpa [gt, ag] using g5
        | 1 => simpa [gt, ag] using RV.bool true
        | n + 2 => simp [gt, ag]; exact .tup0
    ·cases he
   ·cases he
  ·cases he
 ·have hx1 := zaE hT hx;simp only [zaW] at he
  split at he
  ·rename_i i hxe
   split at he
   ·rename_i r hr
    split at he
    ·rename_i hm;simp only [Option.some.injEq, Prod.mk.injEq] at he;obtain ⟨rfl, rfl⟩ := he;rw [hxe] at hx1;obtain ⟨l, es, c', e1, hl, hw, hes⟩ := lp hr hm hx1
     have hlen : r.tmps.length / 2 = es.size := by
      have := hes.len;simp only [List.size_toArray, zom, Array.length_toList] at this;omega
     refine ⟨.int .i64 es.size, w, M, .inl ?_, ?_, h, Fr.refl _ _ _ _⟩
     ·rw [zgR ho hcl]
      have ha : c.args = #[x0] := by rw [<- Array.toArray_toList (xs := c.args), har]
      have hb : c.argTypes = #[t] := by rw [<- Array.toArray_toList (xs := c.argTypes), hty]
      simp [builtin, ha, hb, Builtin.len_, run_underlying hu, e1, MapKept.run_getObj_map hw, goInt]
     ·rw [hlen]; exact .int _ _
    ·cases he
   ·cases he
  ·cases he
end
end Go.Zz

