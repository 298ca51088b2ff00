import Derived.Test.YtnilimjkibimcaaDoorDMD
import Derived.Test.YtnilimjkibimcaaDoorDMA
import Derived.Test.YtnilimjkibimcaaDoorAbsI
set_option linter.unusedSimpArgs false
set_option linter.unusedVariables false

namespace Go.Proofs.YtnilimjkibimcaaDoor
open Go.Zz
def vecOf (rows : List (List Int)) (js : List Nat) (i : Nat) : List Int := js.map (ent rows i)
def addRows (rows : List (List Int)) (js : List Nat) (d : Int) : Nat → List (List Int)
  | 0 => multF js.length js.length d
  | i + 1 => (addI js.length (addRows rows js d i) (vecOf rows js i) d js.length).1
def sumE (rows : List (List Int)) (s : Fr) (x : List Int) (j k : Nat) : Int := psumF (fun k => x.getD k 0 * minorF (ent rows) s.is (s.js.set k j)) k
def outE (rows : List (List Int)) (s : Fr) (x : List Int) (j : Nat) : Int := (sumE rows s x j s.js.length).tdiv s.d
def outR (rows : List (List Int)) (s : Fr) (x : List Int) : List Int := (List.range 6).map (outE rows s x)
def hermX (rows : List (List Int)) (s : Fr) : List (List Int) := redI s.js.length (addRows rows s.js (absI s.d) rows.length) (absI s.d) s.js.length
def fwdF (rows : List (List Int)) : Fr := frame rows [0, 1, 2, 3, 4, 5] 6
def hermF (rows : List (List Int)) : List (List Int) := (hermX rows (fwdF rows)).map (outR rows (fwdF rows))
def hermR (rows : List (List Int)) : List (List Int) := if VM rows then hermF rows else []
def errC (rows : List (List Int)) : Int := if VM rows then 0 else 1
structure FrB (rows : List (List Int)) (s : Fr) : Prop where
  d : s.d = minorF (ent rows) s.is s.js
  ne : s.d ≠ 0
  bd : -1000000000 ≤ s.d ∧ s.d ≤ 1000000000
  i : okI rows s.is
  j : okJ s.js
  nd : s.is.Nodup
  len : s.is.length = s.js.length
  six : s.js.length ≤ 6
theorem FrOk.toB {rows : List (List Int)} {ord : List Nat} {k : Nat} {s : Fr} (h : FrOk rows ord k s) (hv : VM rows) (h6 : ∀ i, i < rows.length → (rw_ rows i).length = 6) (ho : okJ ord) (hol : ord.length ≤ 6) : FrB rows s := by
  have hs := h.sub.trans (List.take_sublist _ _)
  have hj := ho.sub hs
  have hb := (minor_bnd (rows := rows) (c := 1) (by decide) h.i (hj.toW h6)).1
  rw [← h.d] at hb
  have := prodB_vol hv h.nodup h.i
  exact ⟨h.d, h.ne, ⟨by omega, by omega⟩, h.i, hj, h.nodup, h.len, Nat.le_trans hs.length_le hol⟩
theorem FrB.abs {rows : List (List Int)} {s : Fr} (h : FrB rows s) : 0 < absI s.d ∧ absI s.d ≤ 1000000000 := by
  have := h.ne
  have := h.bd
  unfold absI
  split <;> omega
theorem tdiv_bd {a b M : Int} (hb : b ≠ 0) (h : -M ≤ a ∧ a ≤ M) : -M ≤ a.tdiv b ∧ a.tdiv b ≤ M := by
  have h1 : (a.tdiv b).natAbs ≤ a.natAbs := by
    rw [Int.natAbs_tdiv]
    exact Nat.div_le_self _ _
  omega
def flatR (rows : List (List Int)) : List AV := (rows.map icells).flatten
theorem flatR_len {rows : List (List Int)} (h6 : ∀ r ∈ rows, r.length = 6) : (flatR rows).length = rows.length * 6 := by
  induction rows with
  | nil => rfl
  | cons r rows ih =>
    have h1 := h6 r (by simp)
    have h2 := ih fun r hr => h6 r (by simp [hr])
    unfold flatR at h2 ⊢
    rw [List.map_cons, List.flatten_cons, List.length_append, h2, icells_len, h1, List.length_cons]
    omega
theorem flatR_app (a : List (List Int)) (r : List Int) : flatR (a ++ [r]) = flatR a ++ icells r := by simp [flatR]
theorem flatR_flat (rows : List (List Int)) : (flatR rows).all flatAV = true := by
  induction rows with
  | nil => rfl
  | cons r rows ih =>
    have h1 : (icells r).all flatAV = true := flat_ints _
    unfold flatR at ih ⊢
    rw [List.map_cons, List.flatten_cons, List.all_append, h1, ih]
    rfl
theorem icells_at {r : List Int} {j : Nat} (h : j < r.length) : (icells r)[j]? = some (.int .i64 (r.getD j 0)) := by
  simp [icells, h]
theorem icells_over {r : List Int} {j : Nat} (h : j < r.length) (x : Int) : Zz.over (icells r) j [.int .i64 x] = some (icells (r.set j x)) := by
  rw [over_one (by rw [icells_len]; exact h), icells_set]
theorem icells_cut {r : List Int} (h : r.length = 6) : Zz.cut (icells r) 0 6 = some (icells r) := cut_row0 h
theorem icells_over6 {r : List Int} (h : r.length = 6) {x0 x1 x2 x3 x4 x5 : AV} : Zz.over [x0, x1, x2, x3, x4, x5] 0 (icells r) = some (icells r) := over_row h
theorem rowPush {G : Hp} {L : List (Option ALoop)} {v : AV} {q : Nat} {rows : List (List Int)} {r : List Int} (h : GS 6 G v q (flatR rows)) (h6 : ∀ r ∈ rows, r.length = 6) (hr : r.length = 6) (hl : rows.length < 1000000) (X : Hp) {id : Nat} (hid : Zz.look (G ++ X) id 0 = some (icells r)) :
    ∃ v' q' H', appendAV 6 48 ⟨G ++ X, L⟩ v (.sref id 0 0 6 1 (some 1)) = some (v', ⟨H', L⟩) ∧ GS 6 H' v' q' (flatR (rows ++ [r])) ∧ (q' = q ∨ q' = G.length + X.length) ∧ G.length + X.length ≤ H'.length ∧ ∀ j, j < G.length + X.length → j ≠ q → H'[j]? = (G ++ X)[j]? := by
  have hfl := flatR_len h6
  obtain ⟨v', q', H', a1, a2, a3, a4, a5⟩ := (h.more X).append (L := L) (bytes := 48) (n := 1) (cap := some 1) hid (by rw [icells_len, hr]) Nat.one_pos (by decide) ⟨by rw [hfl]; omega, by rw [hfl]; omega⟩
  rw [List.length_append] at a3 a4 a5
  exact ⟨v', q', H', a1, by rw [flatR_app]; exact a2, a3, a4, a5⟩
theorem GS.rows {H : Hp} {v : AV} {q : Nat} {rows : List (List Int)} (h : GS 6 H v q (flatR rows)) (h6 : ∀ r ∈ rows, r.length = 6) : ∃ x, RwL x rows ∧ Zz.resC H v = some x := by
  have hl := flatR_len h6
  have hc : ∀ c ∈ rows.map icells, c.length = 6 := fun c hc => by
    obtain ⟨r, hr, rfl⟩ := List.mem_map.1 hc
    rw [icells_len]
    exact h6 r hr
  rcases h with ⟨rfl, h1⟩ | ⟨g, rfl, h1, h2⟩ | ⟨g, n, rfl, h1, h2, h3⟩
  · rw [h1] at hl
    have : rows = [] := List.length_eq_zero_iff.1 (by simp at hl; omega)
    subst this
    exact ⟨.snil, ⟨hc, .inl ⟨rfl, rfl⟩⟩, rfl⟩
  · rw [h1] at hl
    have : rows = [] := List.length_eq_zero_iff.1 (by simp at hl; omega)
    subst this
    exact ⟨.sval true 0 [], ⟨hc, .inr ⟨true, rfl⟩⟩, by rw [resC_flat h2 rfl rfl]; rfl⟩
  · have hn : n = rows.length := by omega
    subst hn
    exact ⟨_, ⟨hc, .inr ⟨_, by rw [List.length_map]; rfl⟩⟩, resC_flat h3 h1 (flatR_flat rows)⟩
set_option maxRecDepth 100000
set_option maxHeartbeats 8000000
theorem getD_ext {a b : List Int} (hl : a.length = b.length) (h : ∀ t, t < a.length → a.getD t 0 = b.getD t 0) : a = b := by
  apply List.ext_getElem hl
  intro i h1 h2
  have := h i h1
  rwa [List.getD_eq_getElem?_getD, List.getElem?_eq_getElem h1, List.getD_eq_getElem?_getD, List.getElem?_eq_getElem h2] at this
set_option maxRecDepth 100000
set_option maxHeartbeats 8000000
theorem GS.resA {sz : Nat} {H : Hp} {v : AV} {q : Nat} {c : List AV} (h : GS sz H v q c) : Zz.resA H v = Zz.resC H v := by
  rcases h with ⟨rfl, _⟩ | ⟨g, rfl, _⟩ | ⟨g, n, rfl, _⟩ <;> rfl
noncomputable def E17 : Env := E16
theorem E17_ok : EnvOk Tryd.prog E17 := E16_ok
def vecM (rows : List (List Int)) (js : List Nat) (d : Int) (i : Nat) : List Int := js.map fun j => ent rows i j % d
def insRows (rows : List (List Int)) (js : List Nat) (d : Int) : Nat → List (List Int)
  | 0 => multF js.length js.length d
  | i + 1 => (insI js.length (insRows rows js d i) (vecM rows js d i) d js.length).1
def hermXR (rows : List (List Int)) (s : Fr) : List (List Int) := redI s.js.length (insRows rows s.js (absI s.d) rows.length) (absI s.d) s.js.length
def hermFR (rows : List (List Int)) : List (List Int) := (hermXR rows (fwdF rows)).map (outR rows (fwdF rows))
def hermRR (rows : List (List Int)) : List (List Int) := if VM rows then hermFR rows else []
theorem icells_app (a : List Int) (x : Int) : icells (a ++ [x]) = icells a ++ [.int .i64 x] := by simp [icells]
theorem intPush {G : Hp} {L : List (Option ALoop)} {v : AV} {q : Nat} {w : List Int} (h : GS 1 G v q (icells w)) (hl : w.length < 1000000) (x : Int) (X : Hp) {id : Nat} (hid : Zz.look (G ++ X) id 0 = some [.int .i64 x]) :
    ∃ v' q' H', appendAV 1 8 ⟨G ++ X, L⟩ v (.sref id 0 0 1 1 (some 1)) = some (v', ⟨H', L⟩) ∧ GS 1 H' v' q' (icells (w ++ [x])) ∧ (q' = q ∨ q' = G.length + X.length) ∧ G.length + X.length ≤ H'.length ∧ ∀ j, j < G.length + X.length → j ≠ q → H'[j]? = (G ++ X)[j]? := by
  obtain ⟨v', q', H', a1, a2, a3, a4, a5⟩ := (h.more X).append (L := L) (bytes := 8) (n := 1) (cap := some 1) hid rfl Nat.one_pos (by decide) ⟨by rw [icells_len]; omega, by rw [icells_len]; omega⟩
  rw [List.length_append] at a3 a4 a5
  exact ⟨v', q', H', a1, by rw [icells_app]; exact a2, a3, a4, a5⟩
theorem RowM.of_gs {H : Hp} {v : AV} {q : Nat} {w : List Int} (h : GS 1 H v q (icells w)) (hw : 0 < w.length) : RowM H v q w := by
  have hl := icells_len w
  rcases h with ⟨rfl, h⟩ | ⟨g, rfl, h, _⟩ | ⟨g, n, rfl, h1, h2, h3⟩
  · rw [h] at hl; simp at hl; omega
  · rw [h] at hl; simp at hl; omega
  · have hn : n = w.length := by omega
    subst hn
    exact ⟨g, 0, none, _, rfl, h3, by omega, by rw [List.drop_zero, List.take_of_length_le (by omega)], .inl rfl⟩
noncomputable def E18 : Env := E17
theorem E18_ok : EnvOk Tryd.prog E18 := E17_ok
end Go.Proofs.YtnilimjkibimcaaDoor

