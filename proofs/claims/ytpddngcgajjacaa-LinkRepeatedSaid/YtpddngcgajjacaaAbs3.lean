/-
  How abstract memory lies in the model's world.
-/
import Derived.Test.YtpddngcgajjacaaAbs2
import Derived.ArgAppend
import Derived.Deep.MidRow
import Derived.Laws.StructEq
import Derived.ChangeKeysEq
import Derived.Laws.MakeOwn
import Derived.Laws.Slices
import Derived.Laws.Tables
namespace Go.Zz

structure Loc where
  blk : Nat
  base : Nat
  len : Nat
  room : Nat

structure Mp where
  imm : Nat → Nat → Option Value
  loc : Nat → Nat → Option Loc
  lp : Nat → Option Nat

structure Mp.le (M M' : Mp) : Prop where
  imm : ∀ b o v, M.imm b o = some v → M'.imm b o = some v
  loc : ∀ i g l, M.loc i g = some l → M'.loc i g = some l
  lp : ∀ k l, M.lp k = some l → M'.lp k = some l

theorem Mp.le.refl (M : Mp) : M.le M := ⟨fun _ _ _ h => h, fun _ _ _ h => h, fun _ _ h => h⟩
theorem Mp.le.trans {M M' M'' : Mp} (h : M.le M') (k : M'.le M'') : M.le M'' :=
  ⟨fun b o v x => k.imm b o v (h.imm b o v x), fun i g l x => k.loc i g l (h.loc i g l x), fun a l x => k.lp a l (h.lp a l x)⟩

/-- The value at a place of an array. -/
def ag (c : Array Value) (i : Nat) : Value := c.getD i undef

inductive RV (M : Mp) : AV → Value → Prop
  | int (k : IntKind) (n : Int) : RV M (.int k n) (.int k n)
  | bool (b : Bool) : RV M (.bool b) (.bool b)
  | agg (l : List AV) (c : Array Value) (hl : l.length = c.size) (h : ∀ i, RV M (gt l i) (ag c i)) (h1 : ∀ v ∈ c.toList, v.oneCell' = true) : RV M (.agg l) (.agg c)
  | tup0 : RV M (.tuple []) (.tuple #[])
  | tuple (l : List AV) (c : Array Value) (hl : l.length = c.size) (h : ∀ i, RV M (gt l i) (ag c i)) : RV M (.tuple l) (.tuple c)
  | snil : RV M .snil (.slice none 0 0)
  | sval (full : Bool) (len : Nat) (l : List AV) (b o cap : Nat) (f : Nat → Value) (hc : len ≤ cap) (hf : full = true → cap = len)
      (hi : ∀ i, i < l.length → M.imm b (o + i) = some (f i)) (h : ∀ i, i < l.length → RV M (gt l i) (f i)) (h1 : ∀ i, i < l.length → (f i).oneCell' = true) :
      RV M (.sval full len l) (.slice (some ⟨b, o, none⟩) len cap)
  | sref (id g off sz len : Nat) (cap : Option Nat) (lc : Loc) (ccap : Nat) (hl : M.loc id g = some lc) (hc : len ≤ ccap) (hr : off + ccap * sz ≤ lc.room)
      (he : ∀ c, cap = some c → ccap = c) (ho : cap = none → lc.len ≤ off + ccap * sz) : RV M (.sref id g off sz len cap) (.slice (some ⟨lc.blk, lc.base + off, none⟩) len ccap)
  | pnil : RV M .pnil (.pointer none)
  | pref (id g off : Nat) (lc : Loc) (hl : M.loc id g = some lc) : RV M (.pref id g off) (.pointer (some ⟨lc.blk, lc.base + off, none⟩))
  | pval (l : List AV) (b o : Nat) (f : Nat → Value)
      (hi : ∀ i, i < l.length → M.imm b (o + i) = some (f i)) (h : ∀ i, i < l.length → RV M (gt l i) (f i)) (h1 : ∀ i, i < l.length → (f i).oneCell' = true) :
      RV M (.pval l) (.pointer (some ⟨b, o, none⟩))
  | func (f : Nat) (first cap : List AV) (a b : Array Value) (ha : first.length = a.size) (hb : cap.length = b.size) (h1 : ∀ i, RV M (gt first i) (ag a i)) (h2 : ∀ i, RV M (gt cap i) (ag b i)) :
      RV M (.func f first cap) (.func (.func f) a b)
  | yield (k l : Nat) (h : M.lp k = some l) : RV M (.yield k) (.func (.yield l) #[] #[])
  | nilFunc : RV M .nilFunc .nilFunc

theorem RV.mono {M M' : Mp} (h : M.le M') {x : AV} {v : Value} (r : RV M x v) : RV M' x v := by
  induction r with
  | int k n => exact .int k n
  | bool b => exact .bool b
  | agg l c hl _ h1 ih => exact .agg l c hl ih h1
  | tup0 => exact .tup0
  | tuple l c hl _ ih => exact .tuple l c hl ih
  | snil => exact .snil
  | sval full len l b o cap f hc hf hi _ h1 ih => exact .sval full len l b o cap f hc hf (fun i hl => h.imm _ _ _ (hi i hl)) ih h1
  | sref id g off sz len cap lc ccap hl hc hr he ho => exact .sref id g off sz len cap lc ccap (h.loc _ _ _ hl) hc hr he ho
  | pnil => exact .pnil
  | pref id g off lc hl => exact .pref id g off lc (h.loc _ _ _ hl)
  | pval l b o f hi _ h1 ih => exact .pval l b o f (fun i hl => h.imm _ _ _ (hi i hl)) ih h1
  | func f first cap a b ha hb _ _ ih1 ih2 => exact .func f first cap a b ha hb ih1 ih2
  | yield k l hk => exact .yield k l (h.lp _ _ hk)
  | nilFunc => exact .nilFunc

/-! ### Lists of values -/

theorem gt_eq (l : List AV) (i : Nat) : gt l i = l.getD i und := by
  induction l generalizing i with
  | nil => simp [gt]
  | cons x l ih => cases i with
    | zero => simp [gt]
    | succ i => simp [gt, ih, List.getD]

theorem gt_of_lt {l : List AV} {i : Nat} (h : i < l.length) : gt l i = l[i] := by
  rw [gt_eq, List.getD, List.getElem?_eq_getElem h]; rfl
theorem gt_of_ge {l : List AV} {i : Nat} (h : l.length ≤ i) : gt l i = und := by
  rw [gt_eq, List.getD, List.getElem?_eq_none h]; rfl
theorem gt_of_some {l : List AV} {i : Nat} {x : AV} (h : l[i]? = some x) : gt l i = x := by
  rw [gt_eq, List.getD, h]; rfl
theorem pt_length (l : List AV) (d : Nat) (v : AV) : (pt l d v).length = l.length := by
  induction l generalizing d with
  | nil => simp [pt]
  | cons x l ih => cases d <;> simp [pt, ih]
theorem gt_pt (l : List AV) (d : Nat) (v : AV) (t : Nat) : gt (pt l d v) t = if t = d ∧ d < l.length then v else gt l t := by
  induction l generalizing d t with
  | nil => simp [pt, gt]
  | cons x l ih =>
    cases d with
    | zero => cases t <;> simp [pt, gt]
    | succ d => cases t with
      | zero => simp [pt, gt]
      | succ t => simp [pt, gt, ih]

theorem ag_of_lt {c : Array Value} {i : Nat} (h : i < c.size) : ag c i = c[i] := by simp [ag, h]
theorem ag_of_ge {c : Array Value} {i : Nat} (h : c.size ≤ i) : ag c i = undef := by simp [ag, h]
theorem ag_of_some {c : Array Value} {i : Nat} {x : Value} (h : c[i]? = some x) : ag c i = x := by simp [ag, h]
theorem ag_put (c : Array Value) (d : Nat) (v : Value) (t : Nat) : ag (c.setIfInBounds d v) t = if t = d ∧ d < c.size then v else ag c t := by
  unfold ag
  by_cases h : t = d
  · subst h
    by_cases hs : t < c.size <;> simp [hs]
  · simp [h, Array.getElem?_setIfInBounds_ne (Ne.symm h)]

/-- Lists of values, place by place. -/
structure RVs (M : Mp) (l : List AV) (c : Array Value) : Prop where
  len : l.length = c.size
  rel : ∀ i, RV M (gt l i) (ag c i)

theorem RVs.mono {M M' : Mp} (h : M.le M') {l : List AV} {c : Array Value} (r : RVs M l c) : RVs M' l c := ⟨r.len, fun i => (r.rel i).mono h⟩
theorem RVs.nil (M : Mp) : RVs M [] #[] := ⟨rfl, fun i => by simp [gt, ag]; exact .tup0⟩
theorem RVs.of_lt {M : Mp} {l : List AV} {c : Array Value} (hl : l.length = c.size) (h : ∀ i (h1 : i < l.length) (h2 : i < c.size), RV M l[i] c[i]) : RVs M l c :=
  ⟨hl, fun i => by
    by_cases hi : i < l.length
    · rw [gt_of_lt hi, ag_of_lt (hl ▸ hi)]; exact h i hi _
    · rw [gt_of_ge (by omega), ag_of_ge (by omega)]; exact .tup0⟩
theorem RVs.at {M : Mp} {l : List AV} {c : Array Value} (h : RVs M l c) {i : Nat} {x : AV} (hx : l[i]? = some x) : ∃ v, c[i]? = some v ∧ RV M x v := by
  have hi : i < l.length := (List.getElem?_eq_some_iff.1 hx).1
  have h2 : i < c.size := h.len ▸ hi
  refine ⟨c[i], Array.getElem?_eq_getElem h2, ?_⟩
  have := h.rel i
  rw [gt_of_some hx, ag_of_lt h2] at this
  exact this
theorem RVs.append {M : Mp} {l l' : List AV} {c c' : Array Value} (h : RVs M l c) (h' : RVs M l' c') : RVs M (l ++ l') (c ++ c') := by
  refine RVs.of_lt (by simp [h.len, h'.len]) fun i h1 h2 => ?_
  rw [List.getElem_append, Array.getElem_append]
  by_cases hi : i < l.length
  · have hi' : i < c.size := h.len ▸ hi
    rw [dif_pos hi, dif_pos hi']
    have := h.rel i
    rwa [gt_of_lt hi, ag_of_lt hi'] at this
  · have hi' : ¬ i < c.size := by rw [← h.len]; exact hi
    rw [dif_neg hi, dif_neg hi']
    have := h'.rel (i - l.length)
    simp only [List.length_append] at h1
    rw [gt_of_lt (by omega), ag_of_lt (by rw [← h'.len]; omega)] at this
    have e : c.size = l.length := h.len.symm
    simpa [e] using this
theorem RVs.put {M : Mp} {l : List AV} {c : Array Value} (h : RVs M l c) {d : Nat} {x : AV} {v : Value} (hv : RV M x v) : RVs M (pt l d x) (c.setIfInBounds d v) := by
  refine ⟨by rw [pt_length]; simp [h.len], fun i => ?_⟩
  rw [gt_pt, ag_put, h.len]
  split
  · exact hv
  · exact h.rel i

/-- The slots of an activation. -/
abbrev RT (M : Mp) (T : List AV) (a : Act) : Prop := RVs M T a.tmps

theorem RT.put {M : Mp} {T : List AV} {a : Act} (h : RT M T a) {d : Option Nat} {x : AV} {v : Value} (hv : RV M x v) :
    RT M (match d with | some d => pt T d x | none => T) (a.put d v) := by
  cases d with
  | none => exact h
  | some d => exact RVs.put h hv

/-! ### Constants and operands -/

theorem rv_scalar {M : Mp} {v : Value} {x : AV} (h : cScalar v = some x) : RV M x v := by
  unfold cScalar at h
  split at h <;> first | (cases h; constructor) | cases h

theorem one_scalar {v : Value} {x : AV} (h : cScalar v = some x) : v.oneCell' = true := by
  unfold cScalar at h
  split at h <;> first | rfl | cases h

theorem rv_cells {M : Mp} : ∀ {vs : List Value} {l : List AV}, cCells vs = some l → RVs M l vs.toArray ∧ ∀ v ∈ vs, v.oneCell' = true
  | [], l, h => by cases h; exact ⟨RVs.nil M, by simp⟩
  | v :: r, l, h => by
    unfold cCells at h
    split at h
    · rename_i a l' ha hl'
      cases h
      obtain ⟨ih1, ih2⟩ := rv_cells (M := M) hl'
      refine ⟨?_, by
        intro u hu
        cases hu with
        | head => exact one_scalar ha
        | tail _ hu => exact ih2 u hu⟩
      refine ⟨by have := ih1.len; simp at this; simp [this], fun i => ?_⟩
      cases i with
      | zero => simp [gt, ag]; exact rv_scalar ha
      | succ i => have := ih1.rel i; simpa [gt, ag] using this
    · cases h

theorem rv_val {M : Mp} {v : Value} {x : AV} (h : cVal v = some x) : RV M x v := by
  unfold cVal at h
  split at h
  · rename_i cs
    cases hc : cCells cs.toList with
    | none => simp [hc] at h
    | some l =>
      simp [hc] at h
      subst h
      obtain ⟨h1, h2⟩ := rv_cells (M := M) hc
      have h1' : RVs M l cs := by simpa using h1
      exact .agg l cs h1'.len h1'.rel h2
  · exact rv_scalar h

theorem rv_opd {M : Mp} {T : List AV} {a : Act} (hT : RT M T a) {x : Operand} {y : Opd} (h : cOpd x = some y) : RV M (y.ev T) (a.eval x) := by
  cases x with
  | tmp t => simp [cOpd] at h; subst h; exact hT.rel t
  | const v =>
    simp [cOpd] at h
    obtain ⟨z, hz, rfl⟩ := h
    exact rv_val hz
  | func f =>
    simp [cOpd] at h
    subst h
    refine .func f [] [] #[] #[] rfl rfl (fun i => ?_) (fun i => ?_) <;> (simp [gt, ag]; exact .tup0)
  | global g => simp [cOpd] at h

theorem rv_opds {M : Mp} {T : List AV} {a : Act} (hT : RT M T a) : ∀ {xs : List Operand} {ys : List Opd}, cOpds xs = some ys → RVs M (ys.map (·.ev T)) (xs.map a.eval).toArray
  | [], ys, h => by cases h; exact RVs.nil M
  | x :: r, ys, h => by
    unfold cOpds at h
    split at h
    · rename_i y l hy hl
      cases h
      have ih := rv_opds hT hl
      have hx := rv_opd hT hy
      refine ⟨by have := ih.len; simp at this; simp [this], fun i => ?_⟩
      cases i with
      | zero => simpa [gt, ag] using hx
      | succ i => have := ih.rel i; simpa [gt, ag] using this
    · cases h

end Go.Zz
