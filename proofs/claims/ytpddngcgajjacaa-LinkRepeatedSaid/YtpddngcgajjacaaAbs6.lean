/-
  One operation: what it does in the model, out of what it does in the small code. Part 1: pieces.
-/
import Derived.Test.YtpddngcgajjacaaAbs5
namespace Go.Zz

theorem zeroOf_eq {P : Program} {t : TypeId} {l : List AV} (h : zeroOf P t = some l) : ∃ i z, P.info? t = some i ∧ i.zero = some z ∧ cCells z.cells.toList = some l ∧ l.length = i.size ∧ 0 < i.size := by
  unfold zeroOf at h
  cases hi : P.info? t with
  | none => simp [hi] at h
  | some i =>
    simp only [hi, Option.bind_some] at h
    cases hz : i.zero with
    | none => simp [hz] at h
    | some z =>
      simp only [hz] at h
      cases hc : cCells z.cells.toList with
      | none => simp [hc] at h
      | some l' =>
        simp [hc] at h
        obtain ⟨⟨h1, h2⟩, rfl⟩ := h
        exact ⟨i, z, rfl, hz, hc, h1, h2⟩

theorem rv_one {M : Mp} {x : AV} {v : Value} (h : RV M x v) (h1 : ∀ l, x ≠ .agg l) (h2 : ∀ l, x ≠ .tuple l) : v.oneCell' = true ∧ v.cells = #[v] := by
  cases h <;> first | exact ⟨rfl, rfl⟩ | exact absurd rfl (h1 _) | exact absurd rfl (h2 _)

theorem cells_rv {M : Mp} {x : AV} {v : Value} (h : RV M x v) {l : List AV} (hl : x.cells = some l) : RVs M l v.cells ∧ ∀ u ∈ v.cells.toList, u.oneCell' = true := by
  unfold AV.cells at hl
  split at hl
  · cases hl
    cases h with
    | agg l c hlen hr h1 => exact ⟨⟨hlen, hr⟩, h1⟩
  · cases hl
  · rename_i h1 h2
    cases hl
    obtain ⟨a, b⟩ := rv_one h h1 (fun l e => h2 l e)
    rw [b]
    refine ⟨⟨rfl, fun i => ?_⟩, by simp [a]⟩
    cases i with
    | zero => simpa [gt, ag] using h
    | succ i => simp [gt, ag]; exact .tup0

theorem ag_foldl (off : Nat) : ∀ (vs : List Value) (k : Nat) (C : Array Value) (i : Nat), off + k + vs.length ≤ C.size →
    ag ((vs.zipIdx k).foldl (fun cs (c, j) => cs.setIfInBounds (off + j) c) C) i = (if off + k ≤ i ∧ i < off + k + vs.length then ag vs.toArray (i - (off + k)) else ag C i) ∧
    ((vs.zipIdx k).foldl (fun cs (c, j) => cs.setIfInBounds (off + j) c) C).size = C.size
  | [], k, C, i, _ => by simp; omega
  | v :: vs, k, C, i, h => by
    simp only [List.length_cons] at h
    have ih := ag_foldl off vs (k + 1) (C.setIfInBounds (off + k) v) i (by simp; omega)
    simp only [List.zipIdx_cons, List.foldl_cons, List.length_cons]
    refine ⟨?_, by rw [ih.2]; simp⟩
    rw [ih.1, ag_put]
    by_cases h1 : i = off + k
    · rw [if_neg (by omega), if_pos ⟨h1, by omega⟩, if_pos (by omega), h1]
      simp [ag]
    · by_cases h2 : off + (k + 1) ≤ i ∧ i < off + (k + 1) + vs.length
      · rw [if_pos h2, if_pos (by omega)]
        obtain ⟨j, hj⟩ : ∃ j, i - (off + k) = j + 1 := ⟨i - (off + k) - 1, by omega⟩
        rw [hj, show i - (off + (k + 1)) = j by omega]
        simp [ag]
      · rw [if_neg h2, if_neg (fun e => h1 e.1), if_neg (by omega)]

theorem cParts_nil {place : Nat → Option (Nat × Nat)} {ps : List (Nat × Nat × Opd)} (h : cParts place [] = some ps) : ps = [] := by cases h; rfl

theorem fill_sound {M : Mp} {T : List AV} {a : Act} (hT : RT M T a) (place : Nat → Option (Nat × Nat)) : ∀ (parts : List (Nat × Operand)) (ps : List (Nat × Nat × Opd)), cParts place parts = some ps →
    ∀ (cs out : List AV) (C : Array Value), fillP T cs ps = some out → RVs M cs C → (∀ v ∈ C.toList, v.oneCell' = true) →
    ∃ C', Instr.fill place C (parts.map fun p => (p.1, a.eval p.2)) = some C' ∧ RVs M out C' ∧ (∀ v ∈ C'.toList, v.oneCell' = true) ∧ out.length = cs.length
  | [], ps, hp => by
    intro cs out C hf hC h1
    rw [cParts_nil hp] at hf
    cases hf
    exact ⟨C, rfl, hC, h1, rfl⟩
  | (i, x) :: parts, ps, hp => by
    intro cs out C hf hC h1
    unfold cParts at hp
    split at hp
    · rename_i o s y l hpl hy hl
      cases hp
      simp only [fillP] at hf
      cases hc : (y.ev T).cells with
      | none => simp [hc] at hf
      | some c =>
        simp only [hc, Option.bind_eq_bind, Option.bind_some] at hf
        split at hf
        · rename_i hsz
          cases ho : over cs o c with
          | none => simp [ho] at hf
          | some cs' =>
            simp only [ho, Option.bind_some] at hf
            obtain ⟨r1, r2⟩ := cells_rv (rv_opd hT hy) hc
            obtain ⟨l1, l2⟩ := over_len ho
            have hcl : c.length = (a.eval x).cells.size := r1.len
            have hfold := fun i => ag_foldl o (a.eval x).cells.toList 0 C i (by have := hC.len; simp; omega)
            simp only [Nat.add_zero] at hfold
            have hC' : RVs M cs' (((a.eval x).cells.toList.zipIdx).foldl (fun cs (c, j) => cs.setIfInBounds (o + j) c) C) := by
              refine ⟨by rw [(hfold 0).2, l1, hC.len], fun i => ?_⟩
              rw [(hfold i).1, gt_over ho i]
              simp only [Array.length_toList, Array.toArray_toList, hcl]
              split
              · exact r1.rel _
              · exact hC.rel i
            have h1' : ∀ v ∈ (((a.eval x).cells.toList.zipIdx).foldl (fun cs (c, j) => cs.setIfInBounds (o + j) c) C).toList, v.oneCell' = true := by
              intro v hv
              obtain ⟨j, hj, rfl⟩ := List.getElem_of_mem hv
              have hjs : j < C.size := by rw [Array.length_toList, (hfold 0).2] at hj; exact hj
              have e := (hfold j).1
              rw [ag_of_lt (by rw [(hfold 0).2]; exact hjs)] at e
              rw [Array.getElem_toList, e]
              split
              · rename_i hr
                rw [Array.toArray_toList, ag_of_lt (by simp at hr; omega)]
                exact r2 _ (by simp)
              · rw [ag_of_lt hjs]; exact h1 _ (by simp)
            obtain ⟨C', g1, g2, g3, g4⟩ := fill_sound hT place parts l hl cs' out _ hf hC' h1'
            refine ⟨C', ?_, g2, g3, by rw [g4, l1]⟩
            simp only [List.map_cons, Instr.fill, hpl]
            have hx : ¬ ((decide ((a.eval x).cells.size ≠ s) || decide (o + (a.eval x).cells.size > C.size)) = true) := by
              have := hC.len
              simp
              omega
            rw [if_neg hx, ← g1]
            congr 1
            rw [← Array.foldl_toList, Array.toList_zipIdx]
        · cases hf
    · cases hp

theorem zeros_len (z : List AV) (n : Nat) : (zeros z n).length = n * z.length := by
  induction n with
  | zero => simp [zeros]
  | succ n ih => simp [zeros, ih, Nat.add_mul]; omega

theorem gt_append (l r : List AV) (i : Nat) : gt (l ++ r) i = if i < l.length then gt l i else gt r (i - l.length) := by
  simp only [gt_eq, List.getD, List.getElem?_append]
  split <;> rfl

theorem gt_zeros (z : List AV) (hz : 0 < z.length) : ∀ (n i : Nat), i < n * z.length → gt (zeros z n) i = gt z (i % z.length)
  | 0, i, h => by simp at h
  | n + 1, i, h => by
    simp only [zeros]
    rw [gt_append]
    split
    · rename_i hlt; rw [Nat.mod_eq_of_lt hlt]
    · rename_i hge
      rw [gt_zeros z hz n (i - z.length) (by rw [Nat.add_mul] at h; omega)]
      congr 1
      rw [← Nat.mod_eq_sub_mod (by omega)]

/-- Cells repeated: the model's way and ours. -/
theorem rvs_zeros {M : Mp} {z : List AV} {Z : Array Value} (h : RVs M z Z) (h1 : ∀ v ∈ Z.toList, v.oneCell' = true) (hz : 0 < z.length) (n N : Nat) (hN : N = n * z.length) :
    RVs M (zeros z n) ((Array.range N).map (Z[· % Z.size]!)) ∧ ∀ v ∈ ((Array.range N).map (Z[· % Z.size]!)).toList, v.oneCell' = true := by
  subst hN
  have hlen := h.len
  refine ⟨RVs.of_lt (by rw [zeros_len]; simp) fun i h2 h3 => ?_, ?_⟩
  · rw [zeros_len] at h2
    have e := gt_zeros z hz n i h2
    rw [gt_of_lt (by rw [zeros_len]; exact h2)] at e
    rw [e]
    have hm : i % z.length < z.length := Nat.mod_lt _ hz
    have := h.rel (i % z.length)
    rw [ag_of_lt (by omega)] at this
    have e2 : ((Array.range (n * z.length)).map (Z[· % Z.size]!))[i] = Z[i % z.length] := by
      simp [hlen]
      rw [getElem!_pos]
    rw [e2]
    exact this
  · intro v hv
    simp only [Array.toList_map, List.mem_map] at hv
    obtain ⟨i, _, rfl⟩ := hv
    have hm : i % Z.size < Z.size := Nat.mod_lt _ (by omega)
    rw [getElem!_pos Z _ hm]
    exact h1 _ (by simp)

theorem ag_range {Z : Array Value} {N : Nat} : (Builtin.zeroCells Z N) = (Array.range (N * Z.size)).map (Z[· % Z.size]!) := rfl

/-! ### New blocks -/

/-- The outcome of an operation that gives a value. -/
def Gives (P : Program) (M : Mp) (m m' : Mem) (w : World) (s : Sem Value) (x : AV) : Prop :=
  ∃ v w' M', s.run P w = .ok v w' ∧ RV M' x v ∧ Holds P M' m'.heap m'.loops w' ∧ Fr M m.heap m.loops w M' m'.heap m'.loops w'

theorem Gives.same {P : Program} {M : Mp} {m : Mem} {w : World} (h : Holds P M m.heap m.loops w) {s : Sem Value} {x : AV} {v : Value} (hr : s.run P w = .ok v w) (hv : RV M x v) : Gives P M m m w s x :=
  ⟨v, w, M, hr, hv, h, Fr.refl _ _ _ _⟩

/-- A new block is laid: a pointer to it. -/
theorem madePtr {P : Program} {M : Mp} {m : Mem} {w : World} (h : Holds P M m.heap m.loops w) (hf : ∀ g, M.loc m.heap.length g = none) {s : Sem Value} (e : TypeId) {l : List AV} {c : Array Value}
    (hr : s.run P w = .ok (.pointer (some ⟨w.heap.size, 0, none⟩)) (w.alloc (.cells c e))) (hc : RVs M l c) (h1 : ∀ v ∈ c.toList, v.oneCell' = true) :
    Gives P M m (newBlk m l) w s (.pref m.heap.length 0 0) := by
  obtain ⟨a1, a2, a3⟩ := made (w' := w.alloc (.cells c e)) h hf l c e rfl rfl rfl (by rw [hc.len]; exact Nat.le_refl _)
    (fun i hi => ⟨hc.rel i, by have : i < c.size := hc.len ▸ hi; rw [ag_of_lt this]; exact h1 _ (by simp)⟩)
  exact ⟨_, _, _, hr, .pref _ _ _ _ a3, a1, a2⟩

/-- A new block is laid: a slice of it. -/
theorem madeSl {P : Program} {M : Mp} {m : Mem} {w w' : World} (h : Holds P M m.heap m.loops w) (hf : ∀ g, M.loc m.heap.length g = none) {s : Sem Value} (e : TypeId) {l : List AV} {c : Array Value} (sz len ccap : Nat) (cap : Option Nat)
    (hw : w'.heap = w.heap.push (.cells c e)) (hos : w'.os = w.os) (hout : w'.output = w.output)
    (hr : s.run P w = .ok (.slice (some ⟨w.heap.size, 0, none⟩) len ccap) w') (hc : ∀ i, i < l.length → RV M (gt l i) (ag c i) ∧ (ag c i).oneCell' = true) (hl : l.length ≤ c.size)
    (hlen : len ≤ ccap) (hroom : ccap * sz ≤ c.size) (hcap : ∀ k, cap = some k → ccap = k) (hopen : cap = none → l.length ≤ ccap * sz) :
    Gives P M m (newBlk m l) w s (.sref m.heap.length 0 0 sz len cap) := by
  obtain ⟨a1, a2, a3⟩ := made (w' := w') h hf l c e hw hos hout hl hc
  exact ⟨_, _, _, hr, .sref _ _ _ _ _ _ _ _ a3 hlen (by simpa using hroom) hcap (by simpa using hopen), a1, a2⟩

theorem run_newRow {P : Program} (w : World) (e : TypeId) (c : Array Value) : (newRow e c).run P w = .ok ⟨w.heap.size, 0, none⟩ (w.alloc (.cells c e)) := by
  rfl

theorem gives_alloc {P : Program} {M : Mp} {m : Mem} {w : World} (h : Holds P M m.heap m.loops w) (hf : ∀ g, M.loc m.heap.length g = none) {e : TypeId} {z : List AV} (hz : zeroOf P e = some z) :
    Gives P M m (newBlk m z) w (Instr.alloc e true (.tuple #[])) (.pref m.heap.length 0 0) := by
  obtain ⟨i, zv, hi, hzv, hc, _, _⟩ := zeroOf_eq hz
  obtain ⟨r1, r2⟩ := rv_cells (M := M) hc
  refine madePtr h hf e (c := zv.cells) ?_ (by simpa using r1) (by simpa using r2)
  simp [Instr.alloc, zeroValue, typeInfo, hi, hzv, newVar, run_newRow]

theorem gives_box {P : Program} {M : Mp} {m : Mem} {w : World} (h : Holds P M m.heap m.loops w) (hf : ∀ g, M.loc m.heap.length g = none) (e : TypeId) {x : AV} {v : Value} (hv : RV M x v) {c : List AV} (hc : x.cells = some c) :
    Gives P M m (newBlk m c) w (Instr.box e v) (.pref m.heap.length 0 0) := by
  obtain ⟨r1, r2⟩ := cells_rv hv hc
  refine madePtr h hf e (c := v.cells) ?_ r1 r2
  simp [Instr.box, newVar, run_newRow]

theorem gives_build {P : Program} {M : Mp} {m : Mem} {w : World} (h : Holds P M m.heap m.loops w) {T : List AV} {a : Act} (hT : RT M T a) {t : TypeId} {parts : Array (Nat × Operand)} {z : List AV} {ps : List (Nat × Nat × Opd)}
    (hc : cOp P (.build t parts) = some (.build z ps)) {out : List AV} (hf : fillP T z ps = some out) :
    Gives P M m m w (Instr.build t (parts.map fun (i, x) => (i, a.eval x))) (.agg out) := by
  have hlist : (parts.map fun (i, x) => (i, a.eval x)).toList = parts.toList.map fun p => (p.1, a.eval p.2) := by simp
  have key : ∃ C, P.built t ((parts.map fun (i, x) => (i, a.eval x)).toList) = some C ∧ RVs M out C ∧ ∀ v ∈ C.toList, v.oneCell' = true := by
    rw [hlist]
    unfold cOp at hc
    simp only at hc
    split at hc
    · rename_i z' fs hz hu
      cases hp : cParts (fun i => (fs[i]?).bind fun (f : Field) => (szOf P f.type).map fun s => (f.offset, s)) parts.toList with
      | none => simp [hp] at hc
      | some ps' =>
        simp only [hp, Option.bind_some] at hc
        split at hc
        · rename_i hall
          simp at hc
          obtain ⟨rfl, rfl⟩ := hc
          obtain ⟨i, zv, hi, hzv, hcc, _, _⟩ := zeroOf_eq hz
          obtain ⟨r1, r2⟩ := rv_cells (M := M) hcc
          have hinfo : ∀ f ∈ fs.toList, ∃ j, P.info? f.type = some j := by
            intro f hfm
            have := List.all_eq_true.1 hall f hfm
            exact Option.isSome_iff_exists.1 this
          obtain ⟨places, hpl⟩ : ∃ places, fs.toList.mapM (fun f => (P.info? f.type).map fun i => (f.offset, i.size)) = some places := by
            clear hp hall hu
            generalize fs.toList = F at hinfo
            induction F with
            | nil => exact ⟨[], rfl⟩
            | cons f F ih =>
              obtain ⟨j, hj⟩ := hinfo f (by simp)
              obtain ⟨pl, hpl⟩ := ih (fun g hg => hinfo g (by simp [hg]))
              exact ⟨(f.offset, j.size) :: pl, by simp [List.mapM_cons, hj, hpl]⟩
          have hplace : ∀ (i : Nat) p, ((fs[i]?).bind fun (f : Field) => (szOf P f.type).map fun s => (f.offset, s)) = some p → places[i]? = some p := by
            have hlen : ∀ (F : List Field) (pl : List (Nat × Nat)), F.mapM (fun f => (P.info? f.type).map fun i => (f.offset, i.size)) = some pl → ∀ (i : Nat) (f : Field), F[i]? = some f → ∀ p, (szOf P f.type).map (fun s => (f.offset, s)) = some p → pl[i]? = some p := by
              intro F
              induction F with
              | nil => intro pl _ i f hf; simp at hf
              | cons g F ih =>
                intro pl hm i f hf p hp
                simp only [List.mapM_cons, Option.bind_eq_bind, Option.pure_def] at hm
                cases hg : P.info? g.type with
                | none => simp [hg] at hm
                | some j =>
                  cases hr : F.mapM (fun f => (P.info? f.type).map fun i => (f.offset, i.size)) with
                  | none => simp [hg, hr] at hm
                  | some rest =>
                    simp [hg, hr] at hm
                    subst hm
                    cases i with
                    | zero =>
                      simp at hf
                      subst hf
                      cases hs : szOf P g.type with
                      | none => simp [hs] at hp
                      | some s =>
                        simp [hs] at hp
                        obtain ⟨j', hj', hs', _⟩ := szOf_eq hs
                        rw [hg] at hj'
                        cases hj'
                        simp [← hp, hs']
                    | succ i => simpa using ih rest hr i f (by simpa using hf) p hp
            intro i p hp
            cases hfi : fs[i]? with
            | none => simp [hfi] at hp
            | some f => exact hlen fs.toList places hpl i f (by simpa using hfi) p (by simpa [hfi] using hp)
          have hp2 : cParts (places.toArray[·]?) parts.toList = some ps' := by
            clear hf
            generalize parts.toList = Q at hp
            induction Q generalizing ps' with
            | nil => exact hp
            | cons q Q ih =>
              obtain ⟨i, x⟩ := q
              unfold cParts at hp
              split at hp
              · rename_i o s y l h1 h2 h3
                cases hp
                have : places.toArray[i]? = some (o, s) := by simpa using hplace i (o, s) h1
                simp only [cParts, this, h2]
                rw [ih l h3]
              · cases hp
          obtain ⟨C, g1, g2, g3, _⟩ := fill_sound hT (places.toArray[·]?) parts.toList ps' hp2 z' out zv.cells hf (by simpa using r1) (by simpa using r2)
          refine ⟨C, ?_, g2, g3⟩
          simp only [Program.built, hi, hu, hzv, hpl]
          exact g1
        · cases hc
    · rename_i z' n e hz hu
      split at hc
      · rename_i s hs
        cases hp : cParts (fun i => some (i * s, s)) parts.toList with
        | none => simp [hp] at hc
        | some ps' =>
          simp [hp] at hc
          obtain ⟨rfl, rfl⟩ := hc
          obtain ⟨i, zv, hi, hzv, hcc, _, _⟩ := zeroOf_eq hz
          obtain ⟨r1, r2⟩ := rv_cells (M := M) hcc
          obtain ⟨ie, hie, hse, _⟩ := szOf_eq hs
          obtain ⟨C, g1, g2, g3, _⟩ := fill_sound hT _ parts.toList ps' hp z' out zv.cells hf (by simpa using r1) (by simpa using r2)
          refine ⟨C, ?_, g2, g3⟩
          simp only [Program.built, hi, hu, hzv, hie, hse]
          exact g1
      · cases hc
    · cases hc
  obtain ⟨C, g1, g2, g3⟩ := key
  exact Gives.same h (run_build w t _ C g1) (.agg out C g2.len g2.rel g3)

theorem gives_buildSlice {P : Program} {M : Mp} {m : Mem} {w : World} (h : Holds P M m.heap m.loops w) (hfr : ∀ g, M.loc m.heap.length g = none) {T : List AV} {a : Act} (hT : RT M T a) {t : TypeId} {len n' : Nat} {parts : Array (Nat × Operand)} {sz : Nat} {z : List AV} {ps : List (Nat × Nat × Opd)}
    (hc : cOp P (.buildSlice t len parts) = some (.buildSlice n' sz z ps)) {out : List AV} (hf : fillP T (zeros z n') ps = some out) :
    Gives P M m (newBlk m out) w (Instr.buildSlice t len (parts.map fun (i, x) => (i, a.eval x))) (.sref m.heap.length 0 0 sz n' (some n')) := by
  have hlist : (parts.map fun (i, x) => (i, a.eval x)).toList = parts.toList.map fun p => (p.1, a.eval p.2) := by simp
  unfold cOp at hc
  simp only at hc
  split at hc
  · rename_i e hu
    split at hc
    · rename_i s z' hs hz
      split at hc
      · rename_i hbig
        cases hp : cParts (fun i => some (i * s, s)) parts.toList with
        | none => simp [hp] at hc
        | some ps' =>
          simp [hp] at hc
          obtain ⟨rfl, rfl, rfl, rfl⟩ := hc
          obtain ⟨i, zv, hi, hzv, hcc, hzl, _⟩ := zeroOf_eq hz
          obtain ⟨r1, r2⟩ := rv_cells (M := M) hcc
          obtain ⟨ie, hie, hse, hpos⟩ := szOf_eq hs
          rw [hi] at hie
          cases hie
          have hzs : zv.cells.size = s := by have := r1.len; simp at this; omega
          obtain ⟨q1, q2⟩ := rvs_zeros (by simpa using r1 : RVs M z' zv.cells) (by simpa using r2) (by omega) len (len * s) (by rw [hzl, hse])
          obtain ⟨C, g1, g2, g3, g4⟩ := fill_sound hT _ parts.toList ps' hp (zeros z' len) out _ hf q1 q2
          have hol : out.length = len * s := by rw [g4, zeros_len, hzl, hse]
          have hCs : C.size = len * s := by rw [← g2.len, hol]
          refine madeSl h hfr (w' := w.alloc (.cells C e)) e s len len (some len) rfl rfl rfl ?_ (fun j hj => ⟨g2.rel j, ?_⟩) (by rw [g2.len]; exact Nat.le_refl _) (Nat.le_refl _) (by rw [hCs]; exact Nat.le_refl _) (fun k hk => by cases hk; rfl) (fun hk => by cases hk)
          · have hb : ¬ (len * s > 2 ^ 24) := by omega
            simp only [Instr.buildSlice, Sem.run_bind, run_underlying hu, Result.andThen_ok, sizeOf, typeInfo, run_program, hi, Sem.run_pure, hse, hb, if_false]
            by_cases h0 : len * s = 0
            · have hz0 : ∀ f : Nat → Value, (Array.range 0).map f = #[] := fun f => by simp
              rw [h0, hz0] at g1
              simp only [h0, if_true, Sem.run_pure, Result.andThen_ok, hz0, hlist, g1, Sem.run_bind, run_newRow]
            · simp only [h0, if_false, Sem.run_bind, zeroValue, typeInfo, run_program, hi, hzv, Sem.run_pure, Result.andThen_ok, hlist]
              simp [g1, run_newRow]
          · have : j < C.size := by rw [← g2.len]; exact hj
            rw [ag_of_lt this]
            exact g3 _ (by simp)
      · cases hc
    · cases hc
  · cases hc

end Go.Zz
