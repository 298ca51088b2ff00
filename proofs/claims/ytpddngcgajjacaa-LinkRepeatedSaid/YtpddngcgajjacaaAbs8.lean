/-
  One operation. Part 3: slice expressions, indexes, lengths, append, copy, clear.
-/
import Derived.Test.YtpddngcgajjacaaAbs7
namespace Go.Zz

theorem RV.sval_sub {M : Mp} {b o : Nat} {l : List AV} {f : Nat → Value} (hi : ∀ i, i < l.length → M.imm b (o + i) = some (f i)) (hr : ∀ i, i < l.length → RV M (gt l i) (f i)) (h1 : ∀ i, i < l.length → (f i).oneCell' = true)
    (k n : Nat) (full : Bool) (len cap : Nat) (hc : len ≤ cap) (hf : full = true → cap = len) (b' o' : Nat) (ho : (l.drop k).take n = [] ∨ (b' = b ∧ o' = o + k)) :
    RV M (.sval full len ((l.drop k).take n)) (.slice (some ⟨b', o', none⟩) len cap) := by
  have key : ∀ i, i < ((l.drop k).take n).length → k + i < l.length ∧ gt ((l.drop k).take n) i = gt l (k + i) := by
    intro i hlt
    simp only [List.length_take, List.length_drop] at hlt
    refine ⟨by omega, ?_⟩
    simp only [gt_eq, List.getD, List.getElem?_take, List.getElem?_drop]
    rw [if_pos (by omega)]
  refine .sval full len _ b' o' cap (fun i => f (k + i)) hc hf (fun i hlt => ?_) (fun i hlt => ?_) (fun i hlt => ?_)
  · obtain ⟨a1, _⟩ := key i hlt
    rcases ho with e | ⟨rfl, rfl⟩
    · rw [e] at hlt; simp at hlt
    · rw [Nat.add_assoc]; exact hi _ a1
  · obtain ⟨a1, a2⟩ := key i hlt
    rw [a2]; exact hr _ a1
  · exact h1 _ (key i hlt).1

theorem gives_slice {P : Program} {M : Mp} {m : Mem} {w : World} (h : Holds P M m.heap m.loops w) {T : List AV} {a : Act} (hT : RT M T a) {t e : TypeId} {sz : Nat} (hu : P.underlying t = some (.slice e)) (hs : szOf P e = some sz)
    {lo hi mx : Option Operand} {lo' hi' mx' : Option Opd} (h1 : cOpdO lo = some lo') (h2 : cOpdO hi = some hi') (h3 : cOpdO mx = some mx') {x z : AV} {v : Value} (hv : RV M x v)
    (hz : sliceAV m.heap sz x (lo'.map (·.ev T)) (hi'.map (·.ev T)) (mx'.map (·.ev T)) = some z) :
    Gives P M m m w (Instr.sliceAt t v (lo.map a.eval) (hi.map a.eval) (mx.map a.eval)) z := by
  obtain ⟨i, hinfo, hsz, hpos⟩ := szOf_eq hs
  have hat : ∀ v, (Instr.sliceAt t v (lo.map a.eval) (hi.map a.eval) (mx.map a.eval)).run P w = (Instr.slice t v (lo.map a.eval) (hi.map a.eval) (mx.map a.eval)).run P w := fun v => by
    simp [Instr.sliceAt, run_underlying hu]
  have hsl : ∀ (ad : Option Addr) len cap l hh mm, (Instr.sliceBounds true len cap (lo.map a.eval) (hi.map a.eval) (mx.map a.eval)).run P w = .ok (l, hh, mm) w →
      (Instr.slice t (.slice ad len cap) (lo.map a.eval) (hi.map a.eval) (mx.map a.eval)).run P w = .ok (.slice (if mm = l then ad else ad.map (·.add (l * sz))) (hh - l) (mm - l)) w := fun ad len cap l hh mm hb => by
    simp [Instr.slice, run_underlying hu, hb, sizeOf, typeInfo, hinfo, hsz]
  unfold sliceAV at hz
  cases hv with
  | snil =>
    simp only at hz
    cases hb : bnds 0 (some 0) (lo'.map (·.ev T)) (hi'.map (·.ev T)) (mx'.map (·.ev T)) with
    | none => simp [hb] at hz
    | some r =>
      obtain ⟨l, hh, mm⟩ := r
      simp [hb] at hz
      subst hz
      obtain ⟨m', g1, g2, g3, g4, _⟩ := run_bnds (P := P) (w := w) hT h1 h2 h3 true 0 0 (some 0) (fun k e => by cases e; rfl) (Nat.le_refl _) hb
      have e1 : m' = 0 := by omega
      have e2 : hh = 0 := by omega
      have e3 : l = 0 := by omega
      subst e1; subst e2; subst e3
      exact Gives.same h ((hat _).trans (by rw [hsl none 0 0 0 0 0 g1]; simp)) .snil
  | sval full len l b o cap f hc hf hi0 hr h10 =>
    simp only at hz
    split at hz
    · rename_i hlen
      cases hb : bnds len (if full then some len else none) (lo'.map (·.ev T)) (hi'.map (·.ev T)) (mx'.map (·.ev T)) with
      | none => simp [hb] at hz
      | some r =>
        obtain ⟨p, hh, mm⟩ := r
        simp [hb] at hz
        subst hz
        obtain ⟨m', g1, g2, g3, g4, g5, g6⟩ := run_bnds (P := P) (w := w) hT h1 h2 h3 true len cap (if full then some len else none) (fun k e => by
          split at e
          · rename_i hfull; cases e; exact hf hfull
          · cases e) hc hb
        refine Gives.same h ((hat _).trans (hsl _ _ _ _ _ _ g1)) ?_
        have hbo : ∀ q : Addr, (if m' = p then some (⟨b, o, none⟩ : Addr) else (some (⟨b, o, none⟩ : Addr)).map (·.add (p * sz))) = some q → q = (if m' = p then ⟨b, o, none⟩ else ⟨b, o + p * sz, none⟩) := by
          intro q hq
          split at hq
          · cases hq; simp [*]
          · simp at hq; rw [← hq, Addr.add_mid]; simp [*]
        by_cases hmp : m' = p
        · rw [if_pos hmp]
          refine RV.sval_sub hi0 hr h10 _ _ _ _ _ (by omega) (fun _ => by omega) b o (.inl ?_)
          have : hh - p = 0 := by omega
          simp [this]
        · rw [if_neg hmp]
          simp only [Option.map_some, Addr.add_mid]
          refine RV.sval_sub hi0 hr h10 _ _ _ _ _ (by omega) (fun e => ?_) b _ (.inr ⟨rfl, rfl⟩)
          cases mm with
          | none => simp at e
          | some c => simp at e; have := g5 c rfl; omega
    · cases hz
  | sref id g off sz' len cap lc ccap hl hc hr he ho =>
    simp only at hz
    split at hz
    · rename_i esz
      subst esz
      generalize hL : (if cap.isNone && (hi'.map (·.ev T)).isSome then kcap m.heap sz' id g off len else len) = L at hz
      have hLc : L ≤ ccap := by
        rw [← hL]
        split
        · rename_i hcond
          simp only [Bool.and_eq_true, Option.isNone_iff_eq_none] at hcond
          unfold kcap
          split
          · rename_i cells hk
            obtain ⟨lc0, hB⟩ := h.blk id _ (look_eq hk)
            have e0 : lc0 = lc := by have := hB.loc; simp only at this; rw [hl] at this; exact (Option.some.inj this).symm
            subst e0
            have h1 := hB.len
            have h2 := ho hcond.1
            simp only at h1
            refine Nat.max_le.2 ⟨hc, Nat.div_le_of_le_mul ?_⟩
            rw [Nat.mul_comm]
            omega
          · exact hc
        · exact hc
      have hLe : (Instr.sliceBounds true L ccap (lo.map a.eval) (hi.map a.eval) (mx.map a.eval)) = (Instr.sliceBounds true len ccap (lo.map a.eval) (hi.map a.eval) (mx.map a.eval)) := by
        rw [← hL]
        split
        · rename_i hcond
          simp only [Bool.and_eq_true, Option.isSome_map] at hcond
          cases hi with
          | none => simp [cOpdO] at h2; subst h2; simp at hcond
          | some x => cases mx <;> rfl
        · rfl
      cases hb : bnds L cap (lo'.map (·.ev T)) (hi'.map (·.ev T)) (mx'.map (·.ev T)) with
      | none => simp [hb] at hz
      | some r =>
        obtain ⟨p, hh, mm⟩ := r
        simp only [hb, Option.bind_some] at hz
        obtain ⟨m', g1, g2, g3, g4, g5, g6⟩ := run_bnds (P := P) (w := w) hT h1 h2 h3 true L ccap cap (fun k e => he k e) hLc hb
        rw [hLe] at g1
        have hmul : m' * sz' ≤ ccap * sz' := Nat.mul_le_mul_right _ g4
        have hsub : p * sz' + (m' - p) * sz' = m' * sz' := by rw [← Nat.add_mul]; congr 1; omega
        cases mm with
        | some c =>
          simp at hz
          subst hz
          have ec := g5 c rfl
          subst ec
          refine Gives.same h ((hat _).trans (hsl _ _ _ _ _ _ g1)) ?_
          by_cases hmp : m' = p
          · rw [if_pos hmp, if_pos hmp]
            have h0 : m' - p = 0 := by omega
            rw [h0]
            exact .sref _ _ _ _ _ _ lc _ hl (by omega) (by omega) (fun k e => by cases e; rfl) (fun e => by cases e)
          · rw [if_neg hmp, if_neg hmp]
            simp only [Option.map_some, Addr.add_mid, Nat.add_assoc]
            exact .sref _ _ _ _ _ _ lc _ hl (by omega) (by omega) (fun k e => by cases e; rfl) (fun e => by cases e)
        | none =>
          obtain ⟨e1, e2, e3⟩ := g6 rfl
          subst e1
          subst e3
          have hroom := ho rfl
          simp only at hz
          refine Gives.same h ((hat _).trans (hsl _ _ _ _ _ _ g1)) ?_
          split at hz
          · rename_i hp0
            subst hp0
            cases hz
            have : (if m' = 0 then some (⟨lc.blk, lc.base + off, none⟩ : Addr) else (some (⟨lc.blk, lc.base + off, none⟩ : Addr)).map (·.add (0 * sz'))) = some ⟨lc.blk, lc.base + off, none⟩ := by
              split
              · rfl
              · simp [Addr.add]
            rw [this]
            exact .sref _ _ _ _ _ _ lc _ hl (by omega) (by simpa using hr) (fun k e => by cases e) (fun _ => by simpa using hroom)
          · split at hz
            · rename_i h0
              cases hz
              rw [h0]
              by_cases hmp : m' = p
              · rw [if_pos hmp]
                exact .sval _ _ _ _ _ _ (fun _ => undef) (by omega) (fun e => by cases e) (fun i hi => by simp at hi) (fun i hi => by simp at hi) (fun i hi => by simp at hi)
              · rw [if_neg hmp]
                simp only [Option.map_some, Addr.add_mid]
                exact .sval _ _ _ _ _ _ (fun _ => undef) (by omega) (fun e => by cases e) (fun i hi => by simp at hi) (fun i hi => by simp at hi) (fun i hi => by simp at hi)
            · rename_i h0
              cases hz
              have hmp : m' ≠ p := by omega
              rw [if_neg hmp]
              simp only [Option.map_some, Addr.add_mid, Nat.add_assoc]
              exact .sref _ _ _ _ _ _ lc _ hl (by omega) (by omega) (fun k e => by cases e) (fun _ => by omega)
    · cases hz
  | _ => simp at hz

theorem gives_sliceArr {P : Program} {M : Mp} {m : Mem} {w : World} (h : Holds P M m.heap m.loops w) {T : List AV} {a : Act} (hT : RT M T a) {t e : TypeId} {n sz : Nat} (hu : P.underlying t = some (.array n e)) (hs : szOf P e = some sz)
    {lo hi mx : Option Operand} {lo' hi' mx' : Option Opd} (h1 : cOpdO lo = some lo') (h2 : cOpdO hi = some hi') (h3 : cOpdO mx = some mx') {x z : AV} {v : Value} (hv : RV M x v)
    (hz : sliceArrAV m.heap n sz x (lo'.map (·.ev T)) (hi'.map (·.ev T)) (mx'.map (·.ev T)) = some z) :
    Gives P M m m w (Instr.sliceAt t v (lo.map a.eval) (hi.map a.eval) (mx.map a.eval)) z := by
  obtain ⟨i, hinfo, hsz, hpos⟩ := szOf_eq hs
  have hsl : ∀ (ad : Addr) l hh mm, (Instr.sliceBounds false n n (lo.map a.eval) (hi.map a.eval) (mx.map a.eval)).run P w = .ok (l, hh, mm) w →
      (Instr.sliceAt t (.pointer (some ad)) (lo.map a.eval) (hi.map a.eval) (mx.map a.eval)).run P w = .ok (.slice (some (if mm = l then ad else ad.add (l * sz))) (hh - l) (mm - l)) w := fun ad l hh mm hb => by
    simp [Instr.sliceAt, Instr.sureAddr, run_underlying hu, hb, sizeOf, typeInfo, hinfo, hsz]
  unfold sliceArrAV at hz
  cases hv with
  | pref id g off lc hl =>
    simp only at hz
    cases hk : look m.heap id g with
    | none => simp [hk] at hz
    | some cells =>
      simp only [hk, Option.bind_some] at hz
      split at hz
      · rename_i hin
        obtain ⟨lc0, hB⟩ := h.blk id _ (look_eq hk)
        have e0 : lc0 = lc := by have := hB.loc; simp only at this; rw [hl] at this; exact (Option.some.inj this).symm
        subst e0
        have hroom := hB.room
        simp only at hroom
        cases hb : bnds n (some n) (lo'.map (·.ev T)) (hi'.map (·.ev T)) (mx'.map (·.ev T)) with
        | none => simp [hb] at hz
        | some r =>
          obtain ⟨p, hh, mm⟩ := r
          simp only [hb, Option.bind_some] at hz
          obtain ⟨m', g1, g2, g3, g4, g5, g6⟩ := run_bnds (P := P) (w := w) hT h1 h2 h3 false n n (some n) (fun k e => by cases e; rfl) (Nat.le_refl _) hb
          cases mm with
          | none => cases hz
          | some c =>
            simp at hz
            subst hz
            have ec := g5 c rfl
            subst ec
            have hmul : m' * sz ≤ n * sz := Nat.mul_le_mul_right _ g4
            have hsub : p * sz + (m' - p) * sz = m' * sz := by rw [← Nat.add_mul]; congr 1; omega
            refine Gives.same h (hsl _ _ _ _ g1) ?_
            by_cases hmp : m' = p
            · rw [if_pos hmp, if_pos hmp]
              have h0 : m' - p = 0 := by omega
              rw [h0]
              exact .sref _ _ _ _ _ _ lc0 _ hl (by omega) (by omega) (fun k e => by cases e; rfl) (fun e => by cases e)
            · rw [if_neg hmp, if_neg hmp]
              simp only [Addr.add_mid, Nat.add_assoc]
              exact .sref _ _ _ _ _ _ lc0 _ hl (by omega) (by omega) (fun k e => by cases e; rfl) (fun e => by cases e)
      · cases hz
  | pval l b o f hi0 hr h10 =>
    simp only at hz
    split at hz
    · rename_i hin
      cases hb : bnds n (some n) (lo'.map (·.ev T)) (hi'.map (·.ev T)) (mx'.map (·.ev T)) with
      | none => simp [hb] at hz
      | some r =>
        obtain ⟨p, hh, mm⟩ := r
        simp only [hb, Option.bind_some] at hz
        obtain ⟨m', g1, g2, g3, g4, g5, g6⟩ := run_bnds (P := P) (w := w) hT h1 h2 h3 false n n (some n) (fun k e => by cases e; rfl) (Nat.le_refl _) hb
        cases mm with
        | none => cases hz
        | some c =>
          simp at hz
          subst hz
          have ec := g5 c rfl
          subst ec
          refine Gives.same h (hsl _ _ _ _ g1) ?_
          by_cases hmp : m' = p
          · rw [if_pos hmp]
            refine RV.sval_sub hi0 hr h10 _ _ _ _ _ (by omega) (fun e => by simp at e; omega) b o (.inl ?_)
            have : hh - p = 0 := by omega
            simp [this]
          · rw [if_neg hmp]
            simp only [Addr.add_mid]
            exact RV.sval_sub hi0 hr h10 _ _ _ _ _ (by omega) (fun e => by simp at e; omega) b _ (.inr ⟨rfl, rfl⟩)
    · cases hz
  | _ => simp at hz

/-! ### Addresses, parts -/

theorem RV.pval_drop {M : Mp} {b o : Nat} {l : List AV} {f : Nat → Value} (hi : ∀ i, i < l.length → M.imm b (o + i) = some (f i)) (hr : ∀ i, i < l.length → RV M (gt l i) (f i)) (h1 : ∀ i, i < l.length → (f i).oneCell' = true) (k : Nat) :
    RV M (.pval (l.drop k)) (.pointer (some ⟨b, o + k, none⟩)) := by
  refine .pval _ b (o + k) (fun i => f (k + i)) (fun i hlt => ?_) (fun i hlt => ?_) (fun i hlt => ?_) <;> simp only [List.length_drop] at hlt
  · rw [Nat.add_assoc]; exact hi _ (by omega)
  · have := hr (k + i) (by omega)
    simp only [gt_eq, List.getD, List.getElem?_drop] at this ⊢
    exact this
  · exact h1 _ (by omega)

theorem ptrAdd_rv {M : Mp} {x z : AV} {v : Value} (hv : RV M x v) {off : Nat} (h : ptrAdd off x = some z) : ∃ b o, v = .pointer (some ⟨b, o, none⟩) ∧ RV M z (.pointer (some ⟨b, o + off, none⟩)) := by
  unfold ptrAdd at h
  cases hv with
  | pref id g o lc hl => simp at h; subst h; exact ⟨_, _, rfl, by rw [Nat.add_assoc]; exact .pref _ _ _ lc hl⟩
  | pval l b o f hi hr h1 => simp at h; subst h; exact ⟨_, _, rfl, .pval_drop hi hr h1 off⟩
  | _ => simp at h

theorem gives_fieldAddr {P : Program} {M : Mp} {m : Mem} {w : World} (h : Holds P M m.heap m.loops w) {t : TypeId} {fs : Array Field} {k : Nat} {fl : Field} {s : Nat} (hu : P.underlying t = some (.struct fs)) (hf : fs[k]? = some fl) (hs : szOf P fl.type = some s)
    {x z : AV} {v : Value} (hv : RV M x v) (hz : ptrAdd fl.offset x = some z) : Gives P M m m w (Instr.fieldAt t v k) z := by
  obtain ⟨i, hinfo, hsz, hpos⟩ := szOf_eq hs
  obtain ⟨b, o, rfl, hr⟩ := ptrAdd_rv hv hz
  refine Gives.same h ?_ hr
  have h0 : ¬ i.size = 0 := by omega
  simp [Instr.fieldAt, run_underlying hu, hf, Instr.sureAddr, fieldPlace, sizeOf, typeInfo, hinfo, h0, Addr.add_mid]

theorem idx_int {M : Mp} {x : AV} {v : Value} (hv : RV M x v) {n j : Nat} (h : idx x n = some j) : ∃ k i, v = .int k i ∧ 0 ≤ i ∧ i < (n : Int) ∧ i.toNat = j := by
  unfold idx at h
  cases hv with
  | int k i =>
    simp only at h
    split at h
    · rename_i hh; cases h; exact ⟨k, i, rfl, hh.1, hh.2, rfl⟩
    · cases h
  | _ => simp at h

theorem gives_indexAddr {P : Program} {M : Mp} {m : Mem} {w : World} (h : Holds P M m.heap m.loops w) {t e : TypeId} {sz : Nat} (hu : P.underlying t = some (.slice e)) (hs : szOf P e = some sz)
    {x y z : AV} {v u : Value} (hv : RV M x v) (hy : RV M y u) (hz : indexAddrAV sz x y = some z) : Gives P M m m w (Instr.indexAt t v u) z := by
  obtain ⟨i, hinfo, hsz, hpos⟩ := szOf_eq hs
  unfold indexAddrAV at hz
  cases hv with
  | sval full len l b o cap f hc hf hi hr h1 =>
    simp only at hz
    cases hj : idx y len with
    | none => simp [hj] at hz
    | some j =>
      simp [hj] at hz
      subst hz
      obtain ⟨k, n, rfl, g1, g2, rfl⟩ := idx_int hy hj
      refine Gives.same h ?_ (RV.pval_drop hi hr h1 (n.toNat * sz))
      simp [Instr.indexAt, asIntOf, run_underlying hu, g1, g2, sizeOf, typeInfo, hinfo, hsz, Addr.add_mid]
  | sref id g off sz' len cap lc ccap hl hc hr he ho =>
    simp only at hz
    split at hz
    · rename_i e1
      subst e1
      cases hj : idx y len with
      | none => simp [hj] at hz
      | some j =>
        simp [hj] at hz
        subst hz
        obtain ⟨k, n, rfl, g1, g2, rfl⟩ := idx_int hy hj
        refine Gives.same h ?_ (.pref id g (off + n.toNat * sz') lc hl)
        simp [Instr.indexAt, asIntOf, run_underlying hu, g1, g2, sizeOf, typeInfo, hinfo, hsz, Addr.add_mid, Nat.add_assoc]
    · cases hz
  | _ => simp at hz

theorem gives_indexAddrArr {P : Program} {M : Mp} {m : Mem} {w : World} (h : Holds P M m.heap m.loops w) {t e : TypeId} {n sz : Nat} (hu : P.underlying t = some (.array n e)) (hs : szOf P e = some sz)
    {x y z : AV} {v u : Value} (hv : RV M x v) (hy : RV M y u) {j : Nat} (hj : idx y n = some j) (hz : ptrAdd (j * sz) x = some z) : Gives P M m m w (Instr.indexAt t v u) z := by
  obtain ⟨i, hinfo, hsz, hpos⟩ := szOf_eq hs
  obtain ⟨b, o, rfl, hr⟩ := ptrAdd_rv hv hz
  obtain ⟨k, q, rfl, g1, g2, rfl⟩ := idx_int hy hj
  refine Gives.same h ?_ hr
  simp [Instr.indexAt, Instr.sureAddr, asIntOf, run_underlying hu, g1, g2, sizeOf, typeInfo, hinfo, hsz, Addr.add_mid]

theorem run_partAV {P : Program} {M : Mp} {w : World} {t : TypeId} {g : Bool} {s : Nat} (hg : aggOf P t = some g) (hs : szOf P t = some s) {l : List AV} {c : Array Value} (hl : RVs M l c) (h1 : ∀ v ∈ c.toList, v.oneCell' = true)
    {off : Nat} {x : AV} (hx : loadCs g s l off = some x) : ∃ v, (part t c off).run P w = .ok v w ∧ RV M x v := by
  obtain ⟨d, hd, rfl⟩ := aggOf_eq hg
  obtain ⟨i, hi, hsz, hpos⟩ := szOf_eq hs
  unfold loadCs at hx
  split at hx
  · rename_i hrow
    cases hcut : cut l off s with
    | none => simp [hcut] at hx
    | some l' =>
      simp [hcut] at hx
      subst hx
      obtain ⟨rfl, hin⟩ := cut_eq hcut
      have hl' : RVs M l c.toList.toArray := by simpa using hl
      have r := (hl'.drop off).take s
      refine ⟨.agg ((c.toList.drop off).take s).toArray, ?_, agg_of_list r (fun v hv => h1 v (List.mem_of_mem_drop (List.mem_of_mem_take hv)))⟩
      simp only [part, Sem.run_bind, run_isAgg hd, hrow, Result.andThen_ok, if_true, sizeOf, typeInfo, run_program, hi, Sem.run_pure, hsz]
      congr 2
      apply Array.ext'
      simp [List.take_drop]
  · rename_i hrow
    have hlt : off < l.length := (List.getElem?_eq_some_iff.1 hx).1
    have hlt' : off < c.size := hl.len ▸ hlt
    obtain ⟨v, hv1, hv2⟩ := hl.at hx
    have hrow' : d.isRow = false := by simpa using hrow
    refine ⟨v, ?_, hv2⟩
    simp only [part, Sem.run_bind, run_isAgg hd, hrow', Result.andThen_ok]
    simp [hv1]

theorem gives_field {P : Program} {M : Mp} {m : Mem} {w : World} (h : Holds P M m.heap m.loops w) {t : TypeId} {fs : Array Field} {k : Nat} {fl : Field} {g : Bool} {s : Nat} (hu : P.underlying t = some (.struct fs)) (hf : fs[k]? = some fl)
    (hg : aggOf P fl.type = some g) (hs : szOf P fl.type = some s) {l : List AV} {x : AV} {v : Value} (hv : RV M (.agg l) v) (hx : loadCs g s l fl.offset = some x) : Gives P M m m w (Instr.field t v k) x := by
  cases hv with
  | agg l c hlen hr h1 =>
    obtain ⟨u, g1, g2⟩ := run_partAV (P := P) (w := w) hg hs ⟨hlen, hr⟩ h1 hx
    exact Gives.same h (by simp [Instr.field, run_underlying hu, hf, asAgg, g1]) g2

theorem gives_index {P : Program} {M : Mp} {m : Mem} {w : World} (h : Holds P M m.heap m.loops w) {t e : TypeId} {n : Nat} {g : Bool} {s : Nat} (hu : P.underlying t = some (.array n e))
    (hg : aggOf P e = some g) (hs : szOf P e = some s) {l : List AV} {x y : AV} {v u : Value} (hv : RV M (.agg l) v) (hy : RV M y u) {j : Nat} (hj : idx y n = some j) (hx : loadCs g s l (j * s) = some x) : Gives P M m m w (Instr.index t v u) x := by
  obtain ⟨i, hinfo, hsz, hpos⟩ := szOf_eq hs
  cases hv with
  | agg l c hlen hr h1 =>
    obtain ⟨k, q, rfl, g1, g2, rfl⟩ := idx_int hy hj
    obtain ⟨u, p1, p2⟩ := run_partAV (P := P) (w := w) hg hs ⟨hlen, hr⟩ h1 hx
    exact Gives.same h (by simp [Instr.index, asIntOf, run_underlying hu, g1, g2, sizeOf, typeInfo, hinfo, hsz, p1]) p2

theorem gives_extract {P : Program} {M : Mp} {m : Mem} {w : World} (h : Holds P M m.heap m.loops w) {l : List AV} {k : Nat} {x : AV} {v : Value} (hv : RV M (.tuple l) v) (hx : l[k]? = some x) : Gives P M m m w (Instr.extract v k) x := by
  cases hv with
  | tup0 => simp at hx
  | tuple l c hlen hr =>
    obtain ⟨u, p1, p2⟩ := (RVs.mk hlen hr).at hx
    exact Gives.same h (by simp [Instr.extract, p1]) p2

/-! ### Lengths, least and greatest -/

theorem gives_len {P : Program} {M : Mp} {m : Mem} {w : World} (h : Holds P M m.heap m.loops w) {t e ty : TypeId} (hu : P.underlying t = some (.slice e)) {x : AV} {v : Value} (hv : RV M x v) {n : Nat} (hn : slen x = some n) :
    Gives P M m m w (Builtin.len_ #[t] ty #[v]) (.int .i64 n) := by
  cases hv <;> simp [slen] at hn <;> subst hn <;> exact Gives.same h (by simp [Builtin.len_, run_underlying hu, goInt]) (.int _ _)

theorem gives_lenC {P : Program} {M : Mp} {m : Mem} {w : World} (h : Holds P M m.heap m.loops w) {t e ty : TypeId} {n : Nat} (hu : P.underlying t = some (.array n e)) (v : Value) :
    Gives P M m m w (Builtin.len_ #[t] ty #[v]) (.int .i64 n) :=
  Gives.same h (v := .int .i64 n) (by simp [Builtin.len_, run_underlying hu, goInt]) (.int _ _)

theorem gives_cap {P : Program} {M : Mp} {m : Mem} {w : World} (h : Holds P M m.heap m.loops w) {t e ty : TypeId} (hu : P.underlying t = some (.slice e)) {x : AV} {v : Value} (hv : RV M x v) {z : AV}
    (hz : capAV x = some z) :
    Gives P M m m w (Builtin.cap_ #[t] ty #[v]) z := by
  cases hv with
  | snil => simp [capAV] at hz; subst hz; exact Gives.same h (v := .int .i64 0) (by simp [Builtin.cap_, run_underlying hu, goInt]) (.int _ _)
  | sval full len l b o cap f hc hf hi hr h1 =>
    cases full with
    | false => simp [capAV] at hz
    | true =>
      simp [capAV] at hz
      subst hz
      rw [hf rfl]
      exact Gives.same h (v := .int .i64 len) (by simp [Builtin.cap_, run_underlying hu, goInt]) (.int _ _)
  | sref id g off sz' len cap lc ccap hl hc hr he ho =>
    cases cap with
    | none => simp [capAV] at hz
    | some c =>
      simp [capAV] at hz
      subst hz
      rw [he c rfl]
      exact Gives.same h (v := .int .i64 c) (by simp [Builtin.cap_, run_underlying hu, goInt]) (.int _ _)
  | _ => simp [capAV] at hz

theorem run_mm {P : Program} {M : Mp} {w : World} (mx : Bool) : ∀ {l : List AV} {vs : List Value} {k : IntKind} {a : Int} {z : AV}, RVs M l vs.toArray → mmGo mx k a l = some z →
    ∃ r, (vs.foldlM (if mx then Builtin.max2 else Builtin.min2) (.int k a)).run P w = .ok r w ∧ RV M z r
  | [], vs, k, a, z, hr, h => by
    have : vs = [] := List.eq_nil_of_length_eq_zero (by have := hr.len; simpa using this.symm)
    subst this
    simp [mmGo] at h
    subst h
    exact ⟨_, by simp, .int _ _⟩
  | x :: l, vs, k, a, z, hr, h => by
    cases vs with
    | nil => have := hr.len; simp at this
    | cons v vs =>
      have hx := hr.rel 0
      simp [gt, ag] at hx
      have hrest : RVs M l vs.toArray := by have := hr.drop 1; simpa using this
      cases x <;> simp only [mmGo] at h <;> try (cases h; done)
      rename_i k' b
      split at h
      · rename_i ek
        subst ek
        cases hx
        obtain ⟨r, h1, h2⟩ := run_mm mx hrest h
        refine ⟨r, ?_, h2⟩
        rw [List.foldlM_cons, Sem.run_bind]
        cases mx
        · simpa [Builtin.min2] using h1
        · simpa [Builtin.max2] using h1
      · cases h

theorem gives_minmax {P : Program} {M : Mp} {m : Mem} {w : World} (h : Holds P M m.heap m.loops w) (mx : Bool) {l : List AV} {vs : List Value} {z : AV} (hr : RVs M l vs.toArray) (hz : minmaxAV mx l = some z) (tys : Array TypeId) (ty : TypeId) :
    Gives P M m m w ((if mx then Builtin.max_ else Builtin.min_) tys ty vs.toArray) z := by
  unfold minmaxAV at hz
  split at hz
  · rename_i k a l
    cases vs with
    | nil => have := hr.len; simp at this
    | cons v vs =>
      have hx := hr.rel 0
      simp [gt, ag] at hx
      cases hx
      have hrest : RVs M l vs.toArray := by have := hr.drop 1; simpa using this
      obtain ⟨r, h1, h2⟩ := run_mm (P := P) (w := w) mx hrest hz
      refine Gives.same h ?_ h2
      cases mx
      · simpa [Builtin.min_] using h1
      · simpa [Builtin.max_] using h1
  · cases hz

end Go.Zz
