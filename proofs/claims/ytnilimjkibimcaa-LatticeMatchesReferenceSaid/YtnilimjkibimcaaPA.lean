import Derived.Test.YtnilimjkibimcaaNN

set_option linter.unusedSimpArgs false
set_option linter.unusedVariables false

namespace Go.Proofs.Ytnilimjkibimcaa
open Go.Zz
def Dep (m : Nat) (e : Nat → Nat → Int) (js : List Nat) (j t : Nat) : Prop := ∃ (D : Int) (c : Nat → Int), D ≠ 0 ∧ (∀ k, t ≤ k → c k = 0) ∧ ∀ i, i < m → D * e i j = psumF (fun k => c k * e i (js.getD k 0)) js.length
theorem psumF_one {f : Nat → Int} {n k : Nat} (hk : k < n) (h : ∀ t, t < n → t ≠ k → f t = 0) : psumF f n = f k := by
 induction n with
 | zero => omega
 | succ n ih =>
  show psumF f n + f n = _
  by_cases e : k = n
  ·subst e
   have : psumF f k = psumF (fun _ => 0) k := psumF_congr fun t ht => h t (by omega) (by omega)
   rw [this, psumF_zero, Int.zero_add]
  ·rw [ih (by omega) fun t h1 h2 => h t (by omega) h2, h n (by omega) (by omega), Int.add_zero]
theorem Dep.more {m : Nat} {e : Nat → Nat → Int} {js : List Nat} {j t : Nat} (h : Dep m e js j t) (ht : t ≤ js.length) (x : Nat) : Dep m e (js ++ [x]) j t := by
 obtain ⟨D, c, h1, h2, h3⟩ := h
 refine ⟨D, c, h1, h2, fun i hi => ?_⟩
 rw [h3 i hi, List.length_append, List.length_singleton]
 show _ = psumF _ js.length + c js.length * e i ((js ++ [x]).getD js.length 0)
 rw [h2 js.length ht, Int.zero_mul, Int.add_zero]
 exact psumF_congr fun k hk => by
  have : (js ++ [x]).getD k 0 = js.getD k 0 := by simp [List.getD_eq_getElem?_getD, List.getElem?_append_left hk]
  rw [this]
theorem Dep.last {m : Nat} {e : Nat → Nat → Int} {js : List Nat} (j : Nat) : Dep m e (js ++ [j]) j (js.length + 1) := by
 refine ⟨1, fun k => if k = js.length then 1 else 0, by decide, fun k hk => if_neg (by omega), fun i hi => ?_⟩
 rw [List.length_append, List.length_singleton, psumF_one (k := js.length) (by omega) fun t h1 h2 => by
  show (if t = js.length then (1 : Int) else 0) * _ = 0
  rw [if_neg h2, Int.zero_mul]]
 show _ = (if js.length = js.length then (1 : Int) else 0) * _
 rw [if_pos rfl]
 have : (js ++ [j]).getD js.length 0 = j := by simp [List.getD_eq_getElem?_getD]
 rw [this]
theorem Dep.of_border {m : Nat} {e : Nat → Nat → Int} {is js : List Nat} (hl : is.length = js.length) {j : Nat} (hd : minorF e is js ≠ 0) (h : ∀ i, i < m → minorF e (is ++ [i]) (js ++ [j]) = 0) : Dep m e js j js.length := by
 refine ⟨minorF e is js, fun k => if k < js.length then minorF e is (js.set k j) else 0, hd, fun k hk => if_neg (by omega), fun i hi => ?_⟩
 have h1 := border (e := e) hl i j
 rw [h i hi] at h1
 show _ = psumF (fun k => (if k < js.length then minorF e is (js.set k j) else 0) * e i (js.getD k 0)) js.length
 have h2 : psumF (fun k => (if k < js.length then minorF e is (js.set k j) else 0) * e i (js.getD k 0)) js.length = psumF (fun p => minorF e is (js.set p j) * e i (js.getD p 0)) js.length := psumF_congr fun k hk => by rw [if_pos hk]
 rw [h2]
 omega
theorem frame_dep {rows : List (List Int)} {ord : List Nat} : ∀ {k : Nat}, k ≤ ord.length → FrOk rows ord k (frame rows ord k) ∧ ∀ p, p < k → (frame rows ord (p + 1)).js <+: (frame rows ord k).js ∧ Dep rows.length (ent rows) (frame rows ord k).js (ord.getD p 0) (frame rows ord (p + 1)).js.length
 | 0, _ => ⟨FrOk.zero _ _, fun p hp => by omega⟩
 | k + 1, hk => by
  obtain ⟨ih1, ih2⟩ := frame_dep (rows := rows) (ord := ord) (k := k) (by omega)
  have hs := frame_succ (rows := rows) (ord := ord) (k := k) (by omega)
  cases hf : firstRow rows (frame rows ord k).is ((frame rows ord k).js ++ [ord.getD k 0]) with
  | some i =>
   have he := frStep_some hf
   rw [he] at hs
   have hi := (List.find?_range_eq_some.1 hf)
   have hi1 : i < rows.length := by simpa using hi.2.1
   have hi2 : tryAt rows (frame rows ord k).is ((frame rows ord k).js ++ [ord.getD k 0]) i ≠ 0 := by simpa using hi.1
   have hok := ih1.some (by omega) hi1 hi2
   rw [← hs] at hok
   have hjs : (frame rows ord (k + 1)).js = (frame rows ord k).js ++ [ord.getD k 0] := by rw [hs]
   refine ⟨hok, fun p hp => ?_⟩
   by_cases e : p = k
   ·subst e
    exact ⟨List.prefix_refl _, by rw [hjs, List.length_append]; exact Dep.last _⟩
   ·obtain ⟨h1, h2⟩ := ih2 p (by omega)
    rw [hjs]
    exact ⟨h1.trans (List.prefix_append _ _), h2.more h1.length_le _⟩
  | none =>
   have he := frStep_none hf
   rw [he] at hs
   have hz : ∀ i, i < rows.length → tryAt rows (frame rows ord k).is ((frame rows ord k).js ++ [ord.getD k 0]) i = 0 := fun i hi => by
    have := List.find?_eq_none.1 hf i (by simpa using hi)
    simpa using this
   have hok := ih1.none (by omega)
   rw [hs]
   refine ⟨hok, fun p hp => ?_⟩
   by_cases e : p = k
   ·subst e
    rw [hs]
    exact ⟨List.prefix_refl _, Dep.of_border ih1.len (by rw [← ih1.d]; exact ih1.ne) hz⟩
   ·exact ih2 p (by omega)
structure Crm (rows : List (List Int)) (S : Fr) : Prop where
 eq : ∀ i j, i < rows.length → j < 6 → S.d * ent rows i j = psumF (fun k => minorF (ent rows) S.is (S.js.set k j) * ent rows i (S.js.getD k 0)) S.js.length
theorem Dep.cramer {rows : List (List Int)} {S : Fr} (hd : S.d = minorF (ent rows) S.is S.js) (hne : S.d ≠ 0) (hi : okI rows S.is) (hl : S.is.length = S.js.length) {j t : Nat} (h : Dep rows.length (ent rows) S.js j t) :
  (∀ i, i < rows.length → S.d * ent rows i j = psumF (fun k => minorF (ent rows) S.is (S.js.set k j) * ent rows i (S.js.getD k 0)) S.js.length) ∧ ∀ k, t ≤ k → k < S.js.length → minorF (ent rows) S.is (S.js.set k j) = 0 := by
 obtain ⟨D, c, h1, h2, h3⟩ := h
 have hR : ∀ k, k < S.js.length → D * minorF (ent rows) S.is (S.js.set k j) = c k * S.d := fun k hk => by
  have hlen : S.is.length = (S.js.take k ++ j :: S.js.drop (k + 1)).length := by simp; omega
  have e1 := minor_clin (e := ent rows) (D := D) (b := j) (m := S.js.length) (c := c) (a := fun l => S.js.getD l 0) hlen fun i hii => h3 i (hi i hii)
  rw [← set_split hk] at e1
  have e2 : psumF (fun l => c l * minorF (ent rows) S.is (S.js.take k ++ S.js.getD l 0 :: S.js.drop (k + 1))) S.js.length = psumF (fun l => c l * (if k = l then S.d else 0)) S.js.length := psumF_congr fun l hll => by
   rw [← set_split hk, rep_diag hl hk hll, hd]
  rw [e1, e2, psumF_one (k := k) hk fun t _ ht => by rw [if_neg (Ne.symm ht), Int.mul_zero], if_pos rfl]
 refine ⟨fun i hii => ?_, fun k hk1 hk2 => ?_⟩
 ·have e1 : D * (S.d * ent rows i j) = D * psumF (fun k => minorF (ent rows) S.is (S.js.set k j) * ent rows i (S.js.getD k 0)) S.js.length := by
   have e2 : D * (S.d * ent rows i j) = S.d * (D * ent rows i j) := by grind
   rw [e2, h3 i hii, ← psumF_mul, ← psumF_mul]
   refine psumF_congr fun k hk => ?_
   have := hR k hk
   grind
  exact Int.eq_of_mul_eq_mul_left h1 e1
 ·have := hR k hk2
  rw [h2 k hk1, Int.zero_mul] at this
  rcases Int.mul_eq_zero.1 this with h | h
  ·exact absurd h h1
  ·exact h
theorem frame_crm {rows : List (List Int)} {ord : List Nat} (h6 : ∀ j, j < 6 → ∃ p, p < ord.length ∧ ord.getD p 0 = j) : Crm rows (frame rows ord ord.length) := by
 obtain ⟨hok, hdep⟩ := frame_dep (rows := rows) (ord := ord) (Nat.le_refl _)
 refine ⟨fun i j hi hj => ?_⟩
 obtain ⟨p, hp, rfl⟩ := h6 j hj
 exact ((hdep p hp).2.cramer hok.d hok.ne hok.i hok.len).1 i hi
theorem frame_tri {rows : List (List Int)} {ord : List Nat} (ho : ord.Nodup) {p : Nat} (hp : p < ord.length) {k : Nat} (hk : k < (frame rows ord ord.length).js.length) (hpos : ∀ q, q < ord.length → ord.getD q 0 = (frame rows ord ord.length).js.getD k 0 → p < q) :
  minorF (ent rows) (frame rows ord ord.length).is ((frame rows ord ord.length).js.set k (ord.getD p 0)) = 0 := by
 obtain ⟨hok, hdep⟩ := frame_dep (rows := rows) (ord := ord) (Nat.le_refl _)
 obtain ⟨h1, h2⟩ := hdep p hp
 refine (h2.cramer hok.d hok.ne hok.i hok.len).2 k ?_ hk
 apply Decidable.byContradiction
 intro hlt
 obtain ⟨hok2, _⟩ := frame_dep (rows := rows) (ord := ord) (k := p + 1) (by omega)
 have hlt' : k < (frame rows ord (p + 1)).js.length := by omega
 have e : (frame rows ord ord.length).js.getD k 0 = (frame rows ord (p + 1)).js.getD k 0 := by
  obtain ⟨t, ht⟩ := h1
  rw [← ht, List.getD_eq_getElem?_getD, List.getElem?_append_left hlt', ← List.getD_eq_getElem?_getD]
 have hm : (frame rows ord (p + 1)).js.getD k 0 ∈ ord.take (p + 1) := hok2.sub.subset (getD_mem hlt')
 obtain ⟨q, hq, hqe⟩ := List.mem_iff_getElem.1 hm
 rw [List.length_take] at hq
 rw [List.getElem_take] at hqe
 have := hpos q (by omega) (by rw [e, ← hqe, List.getD_eq_getElem?_getD, List.getElem?_eq_getElem (by omega)]; rfl)
 omega
theorem ord_fwd : ∀ j, j < 6 → ∃ p, p < ([0, 1, 2, 3, 4, 5] : List Nat).length ∧ ([0, 1, 2, 3, 4, 5] : List Nat).getD p 0 = j := by decide
theorem fwd_crm (rows : List (List Int)) : Crm rows (fwdF rows) := frame_crm ord_fwd
theorem fwd_at : ∀ q, q < 6 → ([0, 1, 2, 3, 4, 5] : List Nat).getD q 0 = q := by decide
theorem fwd_tri {rows : List (List Int)} {j k : Nat} (hk : k < (fwdF rows).js.length) (hj : j < (fwdF rows).js.getD k 0) (hj6 : j < 6) : minorF (ent rows) (fwdF rows).is ((fwdF rows).js.set k j) = 0 := by
 have := frame_tri (rows := rows) (ord := [0, 1, 2, 3, 4, 5]) (by decide) (p := j) hj6 hk fun q hq he => by
  rw [fwd_at q hq] at he
  have : (fwdF rows).js.getD k 0 = q := he.symm
  omega
 rwa [fwd_at j hj6] at this
theorem fwd_B {rows : List (List Int)} (hv : VM rows) (h6 : ∀ i, i < rows.length → (rw_ rows i).length = 6) : FrB rows (fwdF rows) := (frame_dep (rows := rows) (ord := [0, 1, 2, 3, 4, 5]) (k := 6) (Nat.le_refl _)).1.toB hv h6 okJ_fwd (by decide)
inductive Sp (N : Nat) (S : (Nat → Int) → Prop) : (Nat → Int) → Prop
 | gen {v : Nat → Int} : S v → Sp N S v
 | zero {v : Nat → Int} : (∀ j, j < N → v j = 0) → Sp N S v
 | add {u v w : Nat → Int} : Sp N S v → Sp N S w → (∀ j, j < N → u j = v j + w j) → Sp N S u
 | neg {u v : Nat → Int} : Sp N S v → (∀ j, j < N → u j = -v j) → Sp N S u
theorem Sp.of_eq {N : Nat} {S : (Nat → Int) → Prop} {v w : Nat → Int} (h : Sp N S v) (he : ∀ j, j < N → w j = v j) : Sp N S w := .add h (.zero (v := fun _ => 0) fun _ _ => rfl) fun j hj => by rw [he j hj, Int.add_zero]
theorem Sp.mono {N : Nat} {S S' : (Nat → Int) → Prop} (h : ∀ g, S g → Sp N S' g) {v : Nat → Int} (hv : Sp N S v) : Sp N S' v := by
 induction hv with
 | gen hg => exact h _ hg
 | zero hz => exact .zero hz
 | add _ _ he i1 i2 => exact .add i1 i2 he
 | neg _ he i1 => exact .neg i1 he
theorem Sp.sub {N : Nat} {S : (Nat → Int) → Prop} {u v w : Nat → Int} (hv : Sp N S v) (hw : Sp N S w) (he : ∀ j, j < N → u j = v j - w j) : Sp N S u :=
 .add hv (.neg (u := fun j => -w j) hw fun j _ => rfl) fun j hj => by rw [he j hj]; rfl
theorem Sp.nsmul {N : Nat} {S : (Nat → Int) → Prop} {v : Nat → Int} (hv : Sp N S v) : ∀ k : Nat, Sp N S fun j => (k : Int) * v j
 | 0 => .zero fun j _ => by simp
 | k + 1 => .add (Sp.nsmul hv k) hv fun j _ => by
  rw [Int.natCast_add, Int.add_mul]
  simp
theorem Sp.smul {N : Nat} {S : (Nat → Int) → Prop} {u v : Nat → Int} (hv : Sp N S v) (c : Int) (he : ∀ j, j < N → u j = c * v j) : Sp N S u := by
 rcases Int.le_total 0 c with h | h
 ·exact (hv.nsmul c.toNat).of_eq fun j hj => by rw [he j hj, Int.toNat_of_nonneg h]
 ·refine .neg (hv.nsmul (-c).toNat) fun j hj => ?_
  rw [he j hj, Int.toNat_of_nonneg (by omega), Int.neg_mul, Int.neg_neg]
theorem Sp.sum {N m : Nat} {S : (Nat → Int) → Prop} {f : Nat → Nat → Int} {c : Nat → Int} {u : Nat → Int} (h : ∀ i, i < m → Sp N S (f i)) (he : ∀ j, j < N → u j = psumF (fun i => c i * f i j) m) : Sp N S u := by
 have key : ∀ k, k ≤ m → Sp N S fun j => psumF (fun i => c i * f i j) k := fun k => by
  induction k with
  | zero => exact fun _ => .zero fun j _ => rfl
  | succ k ih => exact fun hk => .add (ih (by omega)) ((h k (by omega)).smul (c k) (u := fun j => c k * f k j) fun _ _ => rfl) fun j _ => rfl
 exact (key m (Nat.le_refl _)).of_eq he
def rowsP (e : Nat → Nat → Int) (m : Nat) (g : Nat → Int) : Prop := ∃ i, i < m ∧ g = e i
theorem Sp.row {N m : Nat} {e : Nat → Nat → Int} {i : Nat} (hi : i < m) : Sp N (rowsP e m) (e i) := .gen ⟨i, hi, rfl⟩
theorem Sp.coef {N m : Nat} {e : Nat → Nat → Int} {v : Nat → Int} (h : Sp N (rowsP e m) v) : ∃ c : Nat → Int, ∀ j, j < N → v j = psumF (fun i => c i * e i j) m := by
 induction h with
 | gen hg =>
  obtain ⟨i, hi, rfl⟩ := hg
  refine ⟨fun k => if k = i then 1 else 0, fun j _ => ?_⟩
  rw [psumF_one (k := i) hi fun t _ ht => by
   show (if t = i then (1 : Int) else 0) * e t j = 0
   rw [if_neg ht, Int.zero_mul]]
  show e i j = (if i = i then (1 : Int) else 0) * e i j
  rw [if_pos rfl, Int.one_mul]
 | zero hz => exact ⟨fun _ => 0, fun j hj => by rw [hz j hj]; simp only [Int.zero_mul]; exact (psumF_zero m).symm⟩
 | add _ _ he i1 i2 =>
  obtain ⟨c1, h1⟩ := i1
  obtain ⟨c2, h2⟩ := i2
  refine ⟨fun k => c1 k + c2 k, fun j hj => ?_⟩
  rw [he j hj, h1 j hj, h2 j hj, ← psumF_add]
  exact psumF_congr fun k _ => (Int.add_mul _ _ _).symm
 | neg _ he i1 =>
  obtain ⟨c1, h1⟩ := i1
  refine ⟨fun k => -c1 k, fun j hj => ?_⟩
  rw [he j hj, h1 j hj, ← psumF_neg]
  exact psumF_congr fun k _ => (Int.neg_mul _ _).symm
theorem Sp.of_coef {N m : Nat} {e : Nat → Nat → Int} {v : Nat → Int} {c : Nat → Int} (h : ∀ j, j < N → v j = psumF (fun i => c i * e i j) m) : Sp N (rowsP e m) v := Sp.sum (fun i hi => Sp.row hi) h
structure TF (N : Nat) (h : Nat → Nat → Int) (m : Nat) (p : Nat → Nat) : Prop where
 plt : ∀ i, i < m → p i < N
 up : ∀ i k, i < k → k < m → p i < p k
 pos : ∀ i, i < m → 0 < h i (p i)
 zero : ∀ i, i < m → ∀ j, j < p i → h i j = 0
structure HF (N : Nat) (h : Nat → Nat → Int) (m : Nat) (p : Nat → Nat) : Prop extends TF N h m p where
 red : ∀ i k, i < k → k < m → 0 ≤ h i (p k) ∧ h i (p k) < h k (p k)
theorem TF.lead {N m : Nat} {h : Nat → Nat → Int} {p : Nat → Nat} (hT : TF N h m p) {c : Nat → Int} {k : Nat} (hk : k < m) (hc : ∀ i, i < k → c i = 0) : psumF (fun i => c i * h i (p k)) m = c k * h k (p k) :=
 psumF_one hk fun t ht hne => by
  by_cases hlt : t < k
  ·rw [hc t hlt, Int.zero_mul]
  ·rw [hT.zero t ht (p k) (hT.up k t (by omega) ht), Int.mul_zero]
theorem TF.early {N m : Nat} {h : Nat → Nat → Int} {p : Nat → Nat} (hT : TF N h m p) {c : Nat → Int} {k j : Nat} (hj : ∀ i, k ≤ i → i < m → j < p i) (hc : ∀ i, i < k → c i = 0) : psumF (fun i => c i * h i j) m = 0 := by
 rw [← psumF_zero m]
 refine psumF_congr fun i hi => ?_
 by_cases hlt : i < k
 ·rw [hc i hlt, Int.zero_mul]
 ·rw [hT.zero i hi j (hj i (by omega) hi), Int.mul_zero]
theorem TF.coef0 {N m : Nat} {h : Nat → Nat → Int} {p : Nat → Nat} (hT : TF N h m p) {v c : Nat → Int} (hv : ∀ j, j < N → v j = psumF (fun i => c i * h i j) m) {t : Nat} (ht : ∀ i, i < t → i < m → v (p i) = 0) : ∀ i, i < t → i < m → c i = 0 := by
 intro i
 induction i using Nat.strongRecOn with
 | ind i ih =>
  intro hi him
  have h1 := ht i hi him
  rw [hv _ (hT.plt i him), hT.lead him fun k hk => ih k hk (by omega) (by omega)] at h1
  rcases Int.mul_eq_zero.1 h1 with h | h
  ·exact h
  ·have := hT.pos i him; omega
theorem TF.mono_p {N m : Nat} {h : Nat → Nat → Int} {p : Nat → Nat} (hT : TF N h m p) {i k : Nat} (hik : i ≤ k) (hk : k < m) : p i ≤ p k := by
 by_cases e : i = k
 ·subst e; exact Nat.le_refl _
 ·exact Nat.le_of_lt (hT.up i k (by omega) hk)
theorem TF.leads {N m : Nat} {h : Nat → Nat → Int} {p : Nat → Nat} (hT : TF N h m p) {v : Nat → Int} (hv : Sp N (rowsP h m) v) {q : Nat} (hq : q < N) (h0 : ∀ j, j < q → v j = 0) (hne : v q ≠ 0) : ∃ k, k < m ∧ p k = q ∧ ∃ c : Int, v q = c * h k q := by
 obtain ⟨c, hc⟩ := hv.coef
 by_cases hex : ∃ k, k < m ∧ q ≤ p k
 ·obtain ⟨k, hk, hmin⟩ : ∃ k, (k < m ∧ q ≤ p k) ∧ ∀ i, i < k → ¬ (i < m ∧ q ≤ p i) := by
   obtain ⟨k0, hk0⟩ := hex
   have key : ∀ n, (n < m ∧ q ≤ p n) → ∃ k, (k < m ∧ q ≤ p k) ∧ ∀ i, i < k → ¬ (i < m ∧ q ≤ p i) := by
    intro n
    induction n using Nat.strongRecOn with
    | ind n ih =>
     intro hn
     by_cases hs : ∃ i, i < n ∧ (i < m ∧ q ≤ p i)
     ·obtain ⟨i, h1, h2⟩ := hs
      exact ih i h1 h2
     ·exact ⟨n, hn, fun i hi hq => hs ⟨i, hi, hq⟩⟩
   exact key k0 hk0
  have hc0 := hT.coef0 hc (t := k) fun i hi him => h0 _ (by
   have := hmin i hi
   apply Decidable.byContradiction
   intro hge
   exact this ⟨him, by omega⟩)
  by_cases he : p k = q
  ·refine ⟨k, hk.1, he, c k, ?_⟩
   rw [hc q hq, ← he]
   exact hT.lead hk.1 fun i hi => hc0 i hi (by have := hk.1; omega)
  ·exfalso
   apply hne
   rw [hc q hq]
   exact hT.early (k := k) (fun i hi him => by have := hT.mono_p hi him; have := hk.2; omega) fun i hi => hc0 i hi (by have := hk.1; omega)
 ·exfalso
  apply hne
  have hc0 := hT.coef0 hc (t := m) fun i hi him => h0 _ (by
   apply Decidable.byContradiction
   intro hge
   exact hex ⟨i, him, by omega⟩)
  rw [hc q hq, ← psumF_zero m]
  exact psumF_congr fun i hi => by rw [hc0 i hi hi, Int.zero_mul]
theorem pos_dvd_eq {a b x y : Int} (ha : 0 < a) (hb : 0 < b) (h1 : a = x * b) (h2 : b = y * a) : a = b := by
 have hx : 0 < x := by
  apply Decidable.byContradiction
  intro h
  have := Int.mul_nonpos_of_nonpos_of_nonneg (show x ≤ 0 by omega) (show 0 ≤ b by omega)
  omega
 have hy : 0 < y := by
  apply Decidable.byContradiction
  intro h
  have := Int.mul_nonpos_of_nonpos_of_nonneg (show y ≤ 0 by omega) (show 0 ≤ a by omega)
  omega
 have h3 := Int.mul_le_mul_of_nonneg_right (show 1 ≤ x by omega) (show 0 ≤ b by omega)
 have h4 := Int.mul_le_mul_of_nonneg_right (show 1 ≤ y by omega) (show 0 ≤ a by omega)
 omega
theorem TF.pivots {N m m' : Nat} {h h' : Nat → Nat → Int} {p p' : Nat → Nat} (hT : TF N h m p) (hT' : TF N h' m' p') (h1 : ∀ i, i < m → Sp N (rowsP h' m') (h i)) (h2 : ∀ i, i < m' → Sp N (rowsP h m) (h' i)) : m = m' ∧ ∀ i, i < m → p i = p' i ∧ h i (p i) = h' i (p i) := by
 have e1 : ∀ k, k < m → ∃ k', k' < m' ∧ p' k' = p k := fun k hk => by
  obtain ⟨k', a1, a2, _⟩ := hT'.leads (h1 k hk) (hT.plt k hk) (hT.zero k hk) (by have := hT.pos k hk; omega)
  exact ⟨k', a1, a2⟩
 have e2 : ∀ k, k < m' → ∃ k', k' < m ∧ p k' = p' k := fun k hk => by
  obtain ⟨k', a1, a2, _⟩ := hT.leads (h2 k hk) (hT'.plt k hk) (hT'.zero k hk) (by have := hT'.pos k hk; omega)
  exact ⟨k', a1, a2⟩
 have key : ∀ k, (k < m → k < m' ∧ p k = p' k) ∧ (k < m' → k < m) := by
  intro k
  induction k using Nat.strongRecOn with
  | ind k ih =>
   have a1 : k < m → k < m' := fun hk => by
    obtain ⟨k', b1, b2⟩ := e1 k hk
    apply Decidable.byContradiction
    intro hge
    have h3 := ((ih k' (by omega)).2 b1)
    have h4 := ((ih k' (by omega)).1 h3).2
    have := hT.up k' k (by omega) hk
    omega
   have a2 : k < m' → k < m := fun hk => by
    obtain ⟨k', b1, b2⟩ := e2 k hk
    apply Decidable.byContradiction
    intro hge
    have h3 := ((ih k' (by omega)).1 b1)
    have := hT'.up k' k (by omega) hk
    omega
   refine ⟨fun hk => ⟨a1 hk, ?_⟩, a2⟩
   have hk' := a1 hk
   obtain ⟨s, b1, b2⟩ := e1 k hk
   obtain ⟨t, c1, c2⟩ := e2 k hk'
   have d1 : k ≤ s := by
    apply Decidable.byContradiction
    intro hlt
    have h4 := ((ih s (by omega)).1 ((ih s (by omega)).2 b1)).2
    have := hT.up s k (by omega) hk
    omega
   have d2 : k ≤ t := by
    apply Decidable.byContradiction
    intro hlt
    have h4 := ((ih t (by omega)).1 c1).2
    have := hT'.up t k (by omega) hk'
    omega
   have := hT'.mono_p d1 b1
   have := hT.mono_p d2 c1
   omega
 have hm : m = m' := by
  apply Nat.le_antisymm
  ·apply Decidable.byContradiction
   intro hlt
   have := ((key m').1 (by omega)).1
   omega
  ·apply Decidable.byContradiction
   intro hlt
   have := (key m).2 (by omega)
   omega
 refine ⟨hm, fun i hi => ?_⟩
 obtain ⟨hi', hp⟩ := (key i).1 hi
 refine ⟨hp, ?_⟩
 obtain ⟨s, b1, b2, x, hx⟩ := hT'.leads (h1 i hi) (hT.plt i hi) (hT.zero i hi) (by have := hT.pos i hi; omega)
 obtain ⟨t, c1, c2, y, hy⟩ := hT.leads (h2 i hi') (hT'.plt i hi') (hT'.zero i hi') (by have := hT'.pos i hi'; omega)
 have es : s = i := by
  rcases Nat.lt_trichotomy s i with h | h | h
  ·have := hT'.up s i h hi'; omega
  ·exact h
  ·have := hT'.up i s h b1; omega
 have et : t = i := by
  rcases Nat.lt_trichotomy t i with h | h | h
  ·have := hT.up t i h hi; omega
  ·exact h
  ·have := hT.up i t h c1; omega
 subst es
 subst et
 have p2 := hT'.pos t hi'
 rw [← hp] at p2 hy
 exact pos_dvd_eq (hT.pos t hi) p2 hx hy
theorem HF.unique {N m m' : Nat} {h h' : Nat → Nat → Int} {p p' : Nat → Nat} (hT : HF N h m p) (hT' : HF N h' m' p') (h1 : ∀ i, i < m → Sp N (rowsP h' m') (h i)) (h2 : ∀ i, i < m' → Sp N (rowsP h m) (h' i)) : m = m' ∧ ∀ i, i < m → p i = p' i ∧ ∀ j, j < N → h i j = h' i j := by
 obtain ⟨hm, hp⟩ := hT.toTF.pivots hT'.toTF h1 h2
 refine ⟨hm, fun i hi => ⟨(hp i hi).1, ?_⟩⟩
 have hd : Sp N (rowsP h m) fun j => h i j - h' i j := Sp.sub (Sp.row hi) (h2 i (by omega)) fun j _ => rfl
 obtain ⟨c, hc⟩ := hd.coef
 have hz : ∀ k, k < m → k ≤ i → c k = 0 := fun k hk hki => hT.toTF.coef0 hc (t := i + 1) (fun k hk' hkm => by
  show h i (p k) - h' i (p k) = 0
  by_cases e : k = i
  ·subst e
   rw [(hp k hi).2]
   omega
  ·rw [hT.zero i hi (p k) (hT.up k i (by omega) hi), hT'.zero i (by omega) (p k) (by rw [← (hp i hi).1]; exact hT.up k i (by omega) hi)]
   rfl) k (by omega) hk
 have hall : ∀ k, k < m → c k = 0 := by
  intro k
  induction k using Nat.strongRecOn with
  | ind k ih =>
   intro hk
   by_cases hki : k ≤ i
   ·exact hz k hk hki
   ·have h3 := hc (p k) (hT.plt k hk)
    rw [hT.toTF.lead hk fun s hs => ih s hs (by omega)] at h3
    have h4 := hT.red i k (by omega) hk
    have h5 := hT'.red i k (by omega) (by omega)
    rw [← (hp k hk).1, ← (hp k hk).2] at h5
    have h6 := hT.pos k hk
    have h7 : h i (p k) - h' i (p k) = c k * h k (p k) := h3
    have h8 : -(h k (p k)) < c k * h k (p k) ∧ c k * h k (p k) < h k (p k) := by omega
    rcases Int.lt_trichotomy (c k) 0 with hh | hh | hh
    ·have := Int.mul_le_mul_of_nonneg_right (show c k ≤ -1 by omega) (show 0 ≤ h k (p k) by omega)
     omega
    ·exact hh
    ·have := Int.mul_le_mul_of_nonneg_right (show 1 ≤ c k by omega) (show 0 ≤ h k (p k) by omega)
     omega
 intro j hj
 have h3 := hc j hj
 have h4 : psumF (fun i => c i * h i j) m = 0 := by
  rw [← psumF_zero m]
  exact psumF_congr fun k hk => by rw [hall k hk, Int.zero_mul]
 rw [h4] at h3
 have h5 : h i j - h' i j = 0 := h3
 omega
def unitV (d : Int) (j : Nat) : Nat → Int := fun t => if t = j then d else 0
def gtP (e : Nat → Nat → Int) (i n : Nat) (g : Nat → Int) : Prop := ∃ k, i < k ∧ k < n ∧ g = e k
def SV (e : Nat → Nat → Int) (n : Nat) (w : Nat → Int) (g : Nat → Int) : Prop := rowsP e n g ∨ g = w
def Tri (e : Nat → Nat → Int) (n : Nat) : Prop := TF n e n id
theorem Tri.mk {e : Nat → Nat → Int} {n : Nat} (h1 : ∀ i, i < n → 0 < e i i) (h2 : ∀ i j, i < n → j < i → e i j = 0) : Tri e n := ⟨fun i hi => hi, fun i k h _ => h, h1, fun i hi j hj => h2 i j hi hj⟩
def Full (e : Nat → Nat → Int) (n : Nat) (d : Int) : Prop := ∀ j, j < n → Sp n (rowsP e n) (unitV d j)
theorem Tri.gt_of {e : Nat → Nat → Int} {n i : Nat} (hT : Tri e n) {v : Nat → Int} (hv : Sp n (rowsP e n) v) (h0 : ∀ j, j ≤ i → j < n → v j = 0) : Sp n (gtP e i n) v := by
 obtain ⟨c, hc⟩ := hv.coef
 have hz := hT.coef0 hc (t := i + 1) fun k hk hkn => h0 k (by omega) hkn
 refine Sp.sum (f := fun k => if i < k then e k else fun _ => 0) (c := c) (m := n) (fun k hk => ?_) fun j hj => ?_
 ·split
  ·rename_i h
   exact .gen ⟨k, h, hk, rfl⟩
  ·exact .zero fun _ _ => rfl
 ·rw [hc j hj]
  refine psumF_congr fun k hk => ?_
  by_cases h : i < k
  ·rw [if_pos h]
  ·rw [if_neg h, hz k (by omega) hk]
   simp
theorem Full.gt {e : Nat → Nat → Int} {n i : Nat} {d : Int} (hT : Tri e n) (hF : Full e n d) {z : Nat → Int} (h0 : ∀ j, j ≤ i → j < n → z j = 0) (hz : ∀ j, i < j → j < n → ∃ y, z j = d * y) : Sp n (gtP e i n) z := by
 have hex : ∃ y : Nat → Int, ∀ j, i < j → j < n → z j = d * y j := by
  refine ⟨fun j => if h : i < j ∧ j < n then (hz j h.1 h.2).choose else 0, fun j h1 h2 => ?_⟩
  simp only [h1, h2, and_self, dite_true]
  exact (hz j h1 h2).choose_spec
 obtain ⟨y, hy⟩ := hex
 refine Sp.sum (f := fun k => if i < k then unitV d k else fun _ => 0) (c := y) (m := n) (fun k hk => ?_) fun j hj => ?_
 ·split
  ·rename_i h
   exact hT.gt_of (hF k hk) fun j h1 h2 => if_neg (by omega)
  ·exact .zero fun _ _ => rfl
 ·by_cases h : i < j
  ·rw [psumF_one (k := j) hj fun t ht hne => by
    show y t * (if i < t then unitV d t else fun _ => 0) j = 0
    split
    ·have : unitV d t j = 0 := if_neg (Ne.symm hne)
     rw [this, Int.mul_zero]
    ·exact Int.mul_zero _]
   show z j = y j * (if i < j then unitV d j else fun _ => 0) j
   rw [if_pos h, hy j h hj]
   show _ = y j * (if j = j then d else 0)
   rw [if_pos rfl, Int.mul_comm]
  ·rw [h0 j (by omega) hj]
   symm
   have : psumF (fun t => y t * (if i < t then unitV d t else fun _ => 0) j) n = psumF (fun _ => 0) n := by
    refine psumF_congr fun t ht => ?_
    split
    ·have : unitV d t j = 0 := if_neg (by omega)
     rw [this, Int.mul_zero]
    ·exact Int.mul_zero _
   rw [this, psumF_zero]
theorem gt_SV {e : Nat → Nat → Int} {n i : Nat} {w v : Nat → Int} (h : Sp n (gtP e i n) v) : Sp n (SV e n w) v := h.mono fun g ⟨k, _, hk, he⟩ => .gen (.inl ⟨k, hk, he⟩)
theorem gt_rows {e : Nat → Nat → Int} {n i : Nat} {v : Nat → Int} (h : Sp n (gtP e i n) v) : Sp n (rowsP e n) v := h.mono fun g ⟨k, _, hk, he⟩ => .gen ⟨k, hk, he⟩
theorem gt_same {e e' : Nat → Nat → Int} {n i : Nat} (hs : ∀ k, i < k → k < n → ∀ j, j < n → e' k j = e k j) {v : Nat → Int} (h : Sp n (gtP e i n) v) : Sp n (gtP e' i n) v := h.mono fun g ⟨k, h1, h2, he⟩ => by
 subst he
 exact Sp.of_eq (.gen ⟨k, h1, h2, rfl⟩) fun j hj => (hs k h1 h2 j hj).symm
theorem two_half {e e' : Nat → Nat → Int} {n i : Nat} {w w' z z' : Nat → Int} {A B C E : Int} (hi : i < n) (hs : ∀ k, k < n → k ≠ i → ∀ j, j < n → e' k j = e k j) (hh : ∀ j, j < n → e' i j = A * e i j + B * w j + z j) (hw : ∀ j, j < n → w' j = C * e i j + E * w j + z' j) (gz : Sp n (gtP e i n) z) (gz' : Sp n (gtP e i n) z') {g : Nat → Int} (hg : Sp n (SV e' n w') g) : Sp n (SV e n w) g := by
 have hr : Sp n (SV e n w) (e i) := .gen (.inl ⟨i, hi, rfl⟩)
 have hv : Sp n (SV e n w) w := .gen (.inr rfl)
 refine hg.mono fun g hg => ?_
 rcases hg with ⟨k, hk, rfl⟩ | rfl
 ·by_cases hki : k = i
  ·subst hki
   exact .add (.add (hr.smul A (u := fun j => A * e k j) fun _ _ => rfl) (hv.smul B (u := fun j => B * w j) fun _ _ => rfl) (u := fun j => A * e k j + B * w j) fun _ _ => rfl) (gt_SV gz) hh
  ·exact Sp.of_eq (.gen (.inl ⟨k, hk, rfl⟩)) fun j hj => hs k hk hki j hj
 ·exact .add (.add (hr.smul C (u := fun j => C * e i j) fun _ _ => rfl) (hv.smul E (u := fun j => E * w j) fun _ _ => rfl) (u := fun j => C * e i j + E * w j) fun _ _ => rfl) (gt_SV gz') hw
theorem two_step {e e' : Nat → Nat → Int} {n i : Nat} {w w' z z' : Nat → Int} {A B C E s : Int} (hi : i < n) (hs : ∀ k, k < n → k ≠ i → ∀ j, j < n → e' k j = e k j) (hh : ∀ j, j < n → e' i j = A * e i j + B * w j + z j) (hw : ∀ j, j < n → w' j = C * e i j + E * w j + z' j) (gz : Sp n (gtP e i n) z) (gz' : Sp n (gtP e i n) z') (hdet : s * (A * E - B * C) = 1) (g : Nat → Int) : Sp n (SV e' n w') g ↔ Sp n (SV e n w) g := by
 refine ⟨two_half hi hs hh hw gz gz', ?_⟩
 have q : ∀ {z : Nat → Int}, Sp n (gtP e i n) z → Sp n (gtP e' i n) z := fun h => gt_same (fun k h1 h2 j hj => hs k h2 (by omega) j hj) h
 refine two_half (e := e') (e' := e) (w := w') (w' := w) (z := fun j => -(s * (E * z j - B * z' j))) (z' := fun j => -(s * (A * z' j - C * z j))) (A := s * E) (B := -(s * B)) (C := -(s * C)) (E := s * A) hi (fun k hk hki j hj => (hs k hk hki j hj).symm) (fun j hj => ?_) (fun j hj => ?_) ?_ ?_
 ·rw [hh j hj, hw j hj]
  grind
 ·rw [hh j hj, hw j hj]
  grind
 ·exact .neg ((Sp.sub ((q gz).smul E (u := fun j => E * z j) fun _ _ => rfl) ((q gz').smul B (u := fun j => B * z' j) fun _ _ => rfl) (u := fun j => E * z j - B * z' j) fun _ _ => rfl).smul s (u := fun j => s * (E * z j - B * z' j)) fun _ _ => rfl) fun _ _ => rfl
 ·exact .neg ((Sp.sub ((q gz').smul A (u := fun j => A * z' j) fun _ _ => rfl) ((q gz).smul C (u := fun j => C * z j) fun _ _ => rfl) (u := fun j => A * z' j - C * z j) fun _ _ => rfl).smul s (u := fun j => s * (A * z' j - C * z j)) fun _ _ => rfl) fun _ _ => rfl
theorem getD_set_if {v : List Int} {j k : Nat} {x : Int} (h : j < v.length) : (v.set j x).getD k 0 = if k = j then x else v.getD k 0 := by
 by_cases e : k = j
 ·subst e; rw [if_pos rfl, getD_set_self h]
 ·rw [if_neg e, getD_set_ne (Ne.symm e)]
theorem addJ_ent {n i : Nat} {q d : Int} (hd : 0 < d) (hd9 : d ≤ 1000000000) {R : List (List Int)} {v : List Int} (h : LB R n d) (hv : VC v n) : ∀ t, i + 1 + t ≤ n →
  (∀ k j, ent (addJ R v i q d t).1 k j = if k = i ∧ i < j ∧ j < i + 1 + t then v.getD j 0 % d else ent R k j) ∧ ∀ j, (addJ R v i q d t).2.getD j 0 = if i < j ∧ j < i + 1 + t then (ent R i j - q * (v.getD j 0 % d)) % d else v.getD j 0
 | 0, _ => ⟨fun k j => by rw [if_neg (by omega)]; rfl, fun j => by rw [if_neg (by omega)]; rfl⟩
 | t + 1, ht => by
  obtain ⟨i1, i2⟩ := addJ_ent (i := i) (q := q) hd hd9 h hv t (by omega)
  obtain ⟨b1, b2, _⟩ := LB.addJ (i := i) (q := q) hd hd9 (t := t) h hv (by omega)
  have e1 := i1 i (i + 1 + t)
  rw [if_neg (by omega)] at e1
  have e2 := i2 (i + 1 + t)
  rw [if_neg (by omega)] at e2
  refine ⟨fun k j => ?_, fun j => ?_⟩
  ·show ent (setE (addJ R v i q d t).1 i (i + 1 + t) _) k j = _
   rw [ent_setE b1.len b1.row (by omega) (by omega), e2, i1]
   by_cases hc : k = i ∧ j = i + 1 + t
   ·rw [if_pos hc, if_pos (by omega)]
    obtain ⟨_, rfl⟩ := hc
    rfl
   ·rw [if_neg hc]
    by_cases hc2 : k = i ∧ i < j ∧ j < i + 1 + t
    ·rw [if_pos hc2, if_pos (by omega)]
    ·rw [if_neg hc2, if_neg (by omega)]
  ·show ((addJ R v i q d t).2.set (i + 1 + t) _).getD j 0 = _
   rw [getD_set_if (by rw [b2.1]; omega), e1, e2, i2]
   by_cases hc : j = i + 1 + t
   ·rw [if_pos hc, if_pos (by omega)]
    subst hc
    rfl
   ·rw [if_neg hc]
    by_cases hc2 : i < j ∧ j < i + 1 + t
    ·rw [if_pos hc2, if_pos (by omega)]
    ·rw [if_neg hc2, if_neg (by omega)]
theorem insJ_ent {n i : Nat} {X Y a b d : Int} (hd : 0 < d) {R : List (List Int)} {v : List Int} (h : LB R n d) (hv : VB v n d) : ∀ t, i + 1 + t ≤ n →
  (∀ k j, ent (insJ R v i X Y a b d t).1 k j = if k = i ∧ i < j ∧ j < i + 1 + t then (X * ent R i j + Y * v.getD j 0) % d else ent R k j) ∧ ∀ j, (insJ R v i X Y a b d t).2.getD j 0 = if i < j ∧ j < i + 1 + t then (a * v.getD j 0 - b * ent R i j) % d else v.getD j 0
 | 0, _ => ⟨fun k j => by rw [if_neg (by omega)]; rfl, fun j => by rw [if_neg (by omega)]; rfl⟩
 | t + 1, ht => by
  obtain ⟨i1, i2⟩ := insJ_ent (i := i) (X := X) (Y := Y) (a := a) (b := b) hd h hv t (by omega)
  obtain ⟨b1, b2⟩ := LB.insJ (i := i) (X := X) (Y := Y) (a := a) (b := b) hd (t := t) h hv (by omega)
  have e1 := i1 i (i + 1 + t)
  rw [if_neg (by omega)] at e1
  have e2 := i2 (i + 1 + t)
  rw [if_neg (by omega)] at e2
  refine ⟨fun k j => ?_, fun j => ?_⟩
  ·show ent (setE (insJ R v i X Y a b d t).1 i (i + 1 + t) _) k j = _
   rw [ent_setE b1.len b1.row (by omega) (by omega), e1, e2, i1]
   by_cases hc : k = i ∧ j = i + 1 + t
   ·rw [if_pos hc, if_pos (by omega)]
    obtain ⟨_, rfl⟩ := hc
    rfl
   ·rw [if_neg hc]
    by_cases hc2 : k = i ∧ i < j ∧ j < i + 1 + t
    ·rw [if_pos hc2, if_pos (by omega)]
    ·rw [if_neg hc2, if_neg (by omega)]
  ·show ((insJ R v i X Y a b d t).2.set (i + 1 + t) _).getD j 0 = _
   rw [getD_set_if (by rw [b2.1]; omega), e1, e2, i2]
   by_cases hc : j = i + 1 + t
   ·rw [if_pos hc, if_pos (by omega)]
    subst hc
    rfl
   ·rw [if_neg hc]
    by_cases hc2 : i < j ∧ j < i + 1 + t
    ·rw [if_pos hc2, if_pos (by omega)]
    ·rw [if_neg hc2, if_neg (by omega)]
theorem redJ_ent {n i k : Nat} {q d : Int} (hd : 0 < d) (hik : i < k) {R : List (List Int)} (h : LB R n d) (hi : i < n) : ∀ t, k + 1 + t ≤ n →
  ∀ r j, ent (redJ R i k q d t) r j = if r = i ∧ k < j ∧ j < k + 1 + t then (ent R i j - q * ent R k j) % d else ent R r j
 | 0, _, r, j => by rw [if_neg (by omega)]; rfl
 | t + 1, ht, r, j => by
  have i1 := redJ_ent (q := q) hd hik h hi t (by omega)
  have b1 := LB.redJ (q := q) hd hik (t := t) h hi (by omega)
  have e1 := i1 i (k + 1 + t)
  rw [if_neg (by omega)] at e1
  have e2 := i1 k (k + 1 + t)
  rw [if_neg (by omega)] at e2
  show ent (setE (redJ R i k q d t) i (k + 1 + t) _) r j = _
  rw [ent_setE b1.len b1.row hi (by omega), e1, e2, i1]
  by_cases hc : r = i ∧ j = k + 1 + t
  ·rw [if_pos hc, if_pos (by omega)]
   obtain ⟨_, rfl⟩ := hc
   rfl
  ·rw [if_neg hc]
   by_cases hc2 : r = i ∧ k < j ∧ j < k + 1 + t
   ·rw [if_pos hc2, if_pos (by omega)]
   ·rw [if_neg hc2, if_neg (by omega)]
theorem mod_diff (x d : Int) : ∃ y, x % d = x + d * y := ⟨-(x / d), by
 have := Int.emod_add_mul_ediv x d
 rw [Int.mul_neg]
 omega⟩
def mask (i : Nat) (v : List Int) : Nat → Int := fun j => if j < i then 0 else v.getD j 0
def geP (e : Nat → Nat → Int) (i n : Nat) (g : Nat → Int) : Prop := ∃ k, i ≤ k ∧ k < n ∧ g = e k
theorem Tri.ge_of {e : Nat → Nat → Int} {n i : Nat} (hT : Tri e n) {v : Nat → Int} (hv : Sp n (rowsP e n) v) (h0 : ∀ j, j < i → j < n → v j = 0) : Sp n (geP e i n) v := by
 obtain ⟨c, hc⟩ := hv.coef
 have hz := hT.coef0 hc (t := i) fun k hk hkn => h0 k hk hkn
 refine Sp.sum (f := fun k => if i ≤ k then e k else fun _ => 0) (c := c) (m := n) (fun k hk => ?_) fun j hj => ?_
 ·split
  ·rename_i h
   exact .gen ⟨k, h, hk, rfl⟩
  ·exact .zero fun _ _ => rfl
 ·rw [hc j hj]
  refine psumF_congr fun k hk => ?_
  by_cases h : i ≤ k
  ·rw [if_pos h]
  ·rw [if_neg h, hz k (by omega) hk]
   simp
def DZ (e : Nat → Nat → Int) (n i : Nat) (d : Int) : Prop := ∀ z : Nat → Int, (∀ j, j ≤ i → j < n → z j = 0) → (∀ j, i < j → j < n → ∃ y, z j = d * y) → Sp n (gtP e i n) z
theorem DZ.same {e e' : Nat → Nat → Int} {n i : Nat} {d : Int} (h : DZ e n i d) (hs : ∀ k, i < k → k < n → ∀ j, j < n → e' k j = e k j) : DZ e' n i d := fun z h1 h2 => gt_same hs (h z h1 h2)
theorem addT_ent {n i : Nat} {d : Int} (hd : 0 < d) (hd9 : d ≤ 1000000000) {R : List (List Int)} {v : List Int} (h : LB R n d) (hv : VC v n) (hi : i < n) (h0 : 0 < v.getD i 0) (h1 : v.getD i 0 ≤ d) :
  (∀ k j, j < n → ent (addT n R v d i).1 k j = if k = i ∧ i < j then v.getD j 0 % d else if k = i ∧ j = i then v.getD i 0 else ent R k j) ∧
  ∀ j, j < n → (addT n R v d i).2.getD j 0 = if i < j then (ent R i j - ent R i i / v.getD i 0 * (v.getD j 0 % d)) % d else if j = i then ent R i i % v.getD i 0 else v.getD j 0 := by
 have e1 := Int.emod_nonneg (ent R i i) (show v.getD i 0 ≠ 0 by omega)
 have e2 := Int.emod_lt_of_pos (ent R i i) h0
 have hl := hv.1
 obtain ⟨a1, a2⟩ := addJ_ent (i := i) (q := ent R i i / v.getD i 0) hd hd9 (h.setE hi hi (x := v.getD i 0) ⟨by omega, h1⟩ fun _ => h0) (hv.set hi (x := ent R i i % v.getD i 0) ⟨by omega, by omega⟩) (n - (i + 1)) (by omega)
 have b1 := fun k j => ent_setE (x := v.getD i 0) (i' := k) (j' := j) h.len h.row hi hi
 have b2 := fun j => getD_set_if (k := j) (x := ent R i i % v.getD i 0) (show i < v.length by omega)
 refine ⟨fun k j hj => ?_, fun j hj => ?_⟩
 ·unfold addT
  rw [a1, b1, b2]
  by_cases hc : k = i ∧ i < j
  ·rw [if_pos (by omega), if_pos hc, if_neg (by omega)]
  ·rw [if_neg (by omega), if_neg hc]
 ·unfold addT
  rw [a2, b1, b2]
  by_cases hc : i < j
  ·rw [if_pos (by omega), if_pos hc, if_neg (by omega), if_neg (by omega)]
  ·rw [if_neg (by omega), if_neg hc]
theorem addT_spec {n i : Nat} {d : Int} (hd : 0 < d) (hd9 : d ≤ 1000000000) {R : List (List Int)} {v : List Int} (h : LB R n d) (hv : VC v n) (hi : i < n) (h0 : 0 < v.getD i 0) (h1 : v.getD i 0 ≤ d) (hT : Tri (ent R) n) (hz : DZ (ent R) n i d) :
  Tri (ent (addT n R v d i).1) n ∧ (∀ k, k ≠ i → ∀ j, j < n → ent (addT n R v d i).1 k j = ent R k j) ∧ ∀ g, Sp n (SV (ent (addT n R v d i).1) n (mask i (addT n R v d i).2)) g ↔ Sp n (SV (ent R) n (mask i v)) g := by
 obtain ⟨a1, a2⟩ := addT_ent hd hd9 h hv hi h0 h1
 have hrow : ∀ k, k ≠ i → ∀ j, j < n → ent (addT n R v d i).1 k j = ent R k j := fun k hk j hj => by
  rw [a1 k j hj, if_neg (by omega), if_neg (by omega)]
 refine ⟨Tri.mk (fun k hk => ?_) fun k j hk hj => ?_, hrow, ?_⟩
 ·rw [a1 k k hk, if_neg (by omega)]
  split
  ·exact h0
  ·exact hT.pos k hk
 ·rw [a1 k j (by omega), if_neg (by omega), if_neg (by omega)]
  exact hT.zero k hk j hj
 ·have hd2 := Int.emod_add_mul_ediv (ent R i i) (v.getD i 0)
  refine two_step (n := n) (i := i) (A := 0) (B := 1) (C := 1) (E := -(ent R i i / v.getD i 0)) (s := -1) (z := fun j => ent (addT n R v d i).1 i j - mask i v j) (z' := fun j => mask i (addT n R v d i).2 j - (ent R i j - ent R i i / v.getD i 0 * mask i v j)) hi (fun k _ hk j hj => hrow k hk j hj) (fun j hj => by grind) (fun j hj => by grind) ?_ ?_ (by grind)
  ·refine hz _ (fun j hj hjn => ?_) fun j hj hjn => ?_
   ·show ent (addT n R v d i).1 i j - mask i v j = 0
    rw [a1 i j hjn, if_neg (by omega)]
    unfold mask
    by_cases e : j = i
    ·subst e; rw [if_pos ⟨rfl, rfl⟩, if_neg (by omega)]; omega
    ·rw [if_neg (by omega), if_pos (by omega), hT.zero i hi j (show j < i by omega)]; rfl
   ·show ∃ y, ent (addT n R v d i).1 i j - mask i v j = d * y
    rw [a1 i j hjn, if_pos ⟨rfl, hj⟩]
    unfold mask
    rw [if_neg (by omega)]
    obtain ⟨y, hy⟩ := mod_diff (v.getD j 0) d
    exact ⟨y, by omega⟩
  ·refine hz _ (fun j hj hjn => ?_) fun j hj hjn => ?_
   ·show mask i (addT n R v d i).2 j - (ent R i j - ent R i i / v.getD i 0 * mask i v j) = 0
    unfold mask
    by_cases e : j = i
    ·subst e
     rw [if_neg (by omega), if_neg (by omega), a2 j hjn, if_neg (by omega), if_pos rfl]
     rw [Int.mul_comm] at hd2
     omega
    ·rw [if_pos (by omega), if_pos (by omega), hT.zero i hi j (show j < i by omega)]
     omega
   ·show ∃ y, mask i (addT n R v d i).2 j - (ent R i j - ent R i i / v.getD i 0 * mask i v j) = d * y
    unfold mask
    rw [if_neg (by omega), if_neg (by omega), a2 j hjn, if_pos hj]
    obtain ⟨y, hy⟩ := mod_diff (v.getD j 0) d
    obtain ⟨y2, hy2⟩ := mod_diff (ent R i j - ent R i i / v.getD i 0 * (v.getD j 0 % d)) d
    rw [hy2, hy]
    exact ⟨y2 - ent R i i / v.getD i 0 * y, by grind⟩
theorem addE_spec {n i : Nat} {d : Int} (hd : 0 < d) (hd9 : d ≤ 1000000000) (hi : i < n) : ∀ {t : Nat} {R : List (List Int)} {v : List Int}, LB R n d → VC v n → 0 ≤ v.getD i 0 → v.getD i 0 ≤ d → (v.getD i 0).toNat ≤ t → Tri (ent R) n → DZ (ent R) n i d →
  Tri (ent (addE n d i t R v).1) n ∧ (∀ k, k ≠ i → ∀ j, j < n → ent (addE n d i t R v).1 k j = ent R k j) ∧ ∀ g, Sp n (SV (ent (addE n d i t R v).1) n (mask i (addE n d i t R v).2)) g ↔ Sp n (SV (ent R) n (mask i v)) g
 | 0, R, v, h, hv, _, _, _, hT, _ => ⟨hT, fun _ _ _ _ => rfl, fun _ => Iff.rfl⟩
 | t + 1, R, v, h, hv, h0, h1, ht, hT, hz => by
  unfold addE
  by_cases hv0 : v.getD i 0 = 0
  ·rw [if_pos hv0]
   exact ⟨hT, fun _ _ _ _ => rfl, fun _ => Iff.rfl⟩
  ·rw [if_neg hv0]
   obtain ⟨a1, a2, a3, a4⟩ := LB.addT (n := n) hd hd9 h hv hi (by omega) h1
   obtain ⟨b1, b2, b3⟩ := addT_spec hd hd9 h hv hi (by omega) h1 hT hz
   obtain ⟨c1, c2, c3⟩ := addE_spec hd hd9 hi (t := t) a1 a2 a3 (by omega) (by omega) b1 (hz.same fun k hk _ j hj => b2 k (by omega) j hj)
   exact ⟨c1, fun k hk j hj => by rw [c2 k hk j hj, b2 k hk j hj], fun g => (c3 g).trans (b3 g)⟩
theorem SV_add {e : Nat → Nat → Int} {n : Nat} {w w' u : Nat → Int} {y : Int} (hu : Sp n (rowsP e n) u) (hw : ∀ j, j < n → w' j = w j + y * u j) (g : Nat → Int) : Sp n (SV e n w') g ↔ Sp n (SV e n w) g := by
 have hu' : ∀ w, Sp n (SV e n w) u := fun w => hu.mono fun g hg => .gen (.inl hg)
 constructor
 ·refine fun hg => hg.mono fun g hg => ?_
  rcases hg with hg | rfl
  ·exact .gen (.inl hg)
  ·exact .add (.gen (.inr rfl)) ((hu' w).smul y (u := fun j => y * u j) fun _ _ => rfl) hw
 ·refine fun hg => hg.mono fun g hg => ?_
  rcases hg with hg | rfl
  ·exact .gen (.inl hg)
  ·exact Sp.sub (.gen (.inr rfl)) ((hu' w').smul y (u := fun j => y * u j) fun _ _ => rfl) fun j hj => by rw [hw j hj]; omega
structure CI (n : Nat) (d : Int) (R0 : List (List Int)) (v0 : List Int) (i : Nat) (R : List (List Int)) (v : List Int) : Prop where
 tri : Tri (ent R) n
 rows : ∀ k, i ≤ k → k < n → ∀ j, j < n → ent R k j = ent R0 k j
 sp : ∀ g, Sp n (SV (ent R) n (mask i v)) g ↔ Sp n (SV (ent R0) n (mask 0 v0)) g
theorem CI.dz {n : Nat} {d : Int} {R0 R : List (List Int)} {v0 v : List Int} {i : Nat} (h : CI n d R0 v0 i R v) (hT : Tri (ent R0) n) (hF : Full (ent R0) n d) : DZ (ent R) n i d := DZ.same (fun z h1 h2 => hF.gt hT h1 h2) fun k hk hkn j hj => h.rows k (by omega) hkn j hj
theorem CI.unit {n : Nat} {d : Int} {R0 R : List (List Int)} {v0 v : List Int} {i : Nat} (h : CI n d R0 v0 i R v) (hT : Tri (ent R0) n) (hF : Full (ent R0) n d) (hi : i < n) : Sp n (rowsP (ent R) n) (unitV d i) := by
 refine (hT.ge_of (i := i) (hF i hi) fun j hj _ => if_neg (by omega)).mono fun g ⟨k, h1, h2, he⟩ => ?_
 subst he
 exact Sp.of_eq (Sp.row h2) fun j hj => (h.rows k h1 h2 j hj).symm
theorem mask_set {n : Nat} {d : Int} {v : List Int} {i : Nat} (hl : v.length = n) (hi : i < n) : ∃ y : Int, ∀ j, j < n → mask i (v.set i (v.getD i 0 % d)) j = mask i v j + y * unitV d i j := by
 obtain ⟨y, hy⟩ := mod_diff (v.getD i 0) d
 refine ⟨y, fun j hj => ?_⟩
 unfold mask unitV
 rw [getD_set_if (by omega)]
 by_cases e : j = i
 ·subst e
  rw [if_neg (by omega), if_pos rfl, if_neg (by omega), if_pos rfl, hy, Int.mul_comm y]
 ·rw [if_neg e, if_neg e]
  split <;> simp
theorem CI_addS {n : Nat} {d : Int} {R0 R : List (List Int)} {v0 v : List Int} {i : Nat} (hd : 0 < d) (hd9 : d ≤ 1000000000) (hT0 : Tri (ent R0) n) (hF0 : Full (ent R0) n d) (hLB : LB R n d) (hVC : VC v n) (hi : i < n) (h : CI n d R0 v0 i R v) : CI n d R0 v0 (i + 1) (addS n R v d i).1 (addS n R v d i).2 := by
 have hm := emod_in (x := v.getD i 0) hd
 have hl := hVC.1
 have hg : (v.set i (v.getD i 0 % d)).getD i 0 = v.getD i 0 % d := getD_set_self (by omega)
 have hV1 : VC (v.set i (v.getD i 0 % d)) n := hVC.set hi (x := v.getD i 0 % d) ⟨by omega, by omega⟩
 obtain ⟨b1, b2, b3⟩ := addE_spec (n := n) hd hd9 hi (t := (v.getD i 0 % d).toNat) hLB hV1 (by rw [hg]; omega) (by rw [hg]; omega) (by rw [hg]; omega) h.tri (h.dz hT0 hF0)
 obtain ⟨_, _, c3⟩ := LB.addE (n := n) hd hd9 hi (t := (v.getD i 0 % d).toNat) hLB hV1 (by rw [hg]; omega) (by rw [hg]; omega) (by rw [hg]; omega)
 obtain ⟨y, hy⟩ := mask_set (d := d) hl hi
 refine ⟨b1, fun k hk hkn j hj => ?_, fun g => ?_⟩
 ·show ent (addE n d i _ R _).1 k j = _
  rw [b2 k (by omega) j hj, h.rows k (by omega) hkn j hj]
 ·have e : mask (i + 1) (addS n R v d i).2 = mask i (addS n R v d i).2 := by
   funext j
   unfold mask
   by_cases hj : j < i
   ·rw [if_pos (by omega), if_pos hj]
   ·by_cases hj2 : j = i
    ·subst hj2
     rw [if_pos (by omega), if_neg (by omega)]
     exact c3.symm
    ·rw [if_neg (by omega), if_neg hj]
  rw [e]
  exact (b3 g).trans ((SV_add (h.unit hT0 hF0 hi) hy g).trans (h.sp g))
theorem CI.start {n : Nat} {d : Int} {R0 : List (List Int)} {v0 : List Int} (hT : Tri (ent R0) n) : CI n d R0 v0 0 R0 v0 := ⟨hT, fun _ _ _ _ _ => rfl, fun _ => Iff.rfl⟩
theorem CI_addI {n : Nat} {d : Int} {R0 : List (List Int)} {v0 : List Int} (hd : 0 < d) (hd9 : d ≤ 1000000000) (hT0 : Tri (ent R0) n) (hF0 : Full (ent R0) n d) (hLB : LB R0 n d) (hVC : VC v0 n) : ∀ {i : Nat}, i ≤ n → CI n d R0 v0 i (addI n R0 v0 d i).1 (addI n R0 v0 d i).2
 | 0, _ => CI.start hT0
 | i + 1, hi => by
  obtain ⟨h1, h2⟩ := LB.addI hd hd9 hLB hVC (i := i) (by omega)
  exact CI_addS hd hd9 hT0 hF0 h1 h2 (by omega) (CI_addI hd hd9 hT0 hF0 hLB hVC (i := i) (by omega))
theorem CI.done {n : Nat} {d : Int} {R0 R : List (List Int)} {v0 v : List Int} (h : CI n d R0 v0 n R v) (hF0 : Full (ent R0) n d) : Tri (ent R) n ∧ Full (ent R) n d ∧ ∀ g, Sp n (rowsP (ent R) n) g ↔ Sp n (SV (ent R0) n (mask 0 v0)) g := by
 have key : ∀ g, Sp n (rowsP (ent R) n) g ↔ Sp n (SV (ent R0) n (mask 0 v0)) g := fun g => by
  refine Iff.trans ⟨fun hg => hg.mono fun g hg => .gen (.inl hg), fun hg => hg.mono fun g hg => ?_⟩ (h.sp g)
  rcases hg with hg | rfl
  ·exact .gen hg
  ·exact .zero fun j hj => if_pos hj
 exact ⟨h.tri, fun j hj => (key _).2 ((hF0 j hj).mono fun g hg => .gen (.inl hg)), key⟩
theorem euclid_bez : ∀ (b a : Nat), ((euclidF a b).1 : Int) = (euclidF a b).2.1 * a + (euclidF a b).2.2 * b := by
 intro b
 induction b using Nat.strongRecOn with
 | ind b ih =>
  intro a
  by_cases hb : b = 0
  ·subst hb
   rw [euclidF_zero]
   simp
  ·rw [euclidF_pos hb]
   have h1 := ih (a % b) (Nat.mod_lt _ (by omega)) b
   have h2 := Nat.div_add_mod a b
   generalize euclidF b (a % b) = e at *
   show (e.1 : Int) = e.2.2 * a + (e.2.1 - ((a / b : Nat) : Int) * e.2.2) * b
   have h3 : (a : Int) = b * ((a / b : Nat) : Int) + ((a % b : Nat) : Int) := by omega
   rw [h1]
   generalize ((a / b : Nat) : Int) = q at *
   generalize ((a % b : Nat) : Int) = r at *
   rw [h3]
   grind
theorem CI_insS {n : Nat} {d : Int} {R0 R : List (List Int)} {v0 v : List Int} {i : Nat} (hd : 0 < d) (hT0 : Tri (ent R0) n) (hF0 : Full (ent R0) n d) (hLB : LB R n d) (hVB : VB v n d) (hi : i < n) (h : CI n d R0 v0 i R v) : CI n d R0 v0 (i + 1) (insS n R v d i).1 (insS n R v d i).2 := by
 have hm := emod_in (x := v.getD i 0) hd
 have hl := hVB.1
 have hg : (v.set i (v.getD i 0 % d)).getD i 0 = v.getD i 0 % d := getD_set_self (by omega)
 have hV1 : VB (v.set i (v.getD i 0 % d)) n d := hVB.set hi hm
 obtain ⟨y, hy⟩ := mask_set (d := d) hl hi
 have hsp1 := fun g => (SV_add (h.unit hT0 hF0 hi) hy g).trans (h.sp g)
 have hz := h.dz hT0 hF0
 unfold insS
 by_cases h0 : v.getD i 0 % d = 0
 ·rw [if_pos h0]
  refine ⟨h.tri, fun k hk hkn j hj => h.rows k (by omega) hkn j hj, fun g => ?_⟩
  have e : mask (i + 1) (v.set i (v.getD i 0 % d)) = mask i (v.set i (v.getD i 0 % d)) := by
   funext j
   unfold mask
   by_cases hj : j < i
   ·rw [if_pos (by omega), if_pos hj]
   ·by_cases hj2 : j = i
    ·subst hj2
     rw [if_pos (by omega), if_neg (by omega), hg, h0]
    ·rw [if_neg (by omega), if_neg hj]
  show Sp n (SV (ent R) n (mask (i + 1) (v.set i (v.getD i 0 % d)))) g ↔ _
  rw [e]
  exact hsp1 g
 ·rw [if_neg h0]
  have hdi := hLB.diag i hi
  have eA : ((ent R i i).toNat : Int) = ent R i i := Int.toNat_of_nonneg (by omega)
  have eZ : ((v.getD i 0 % d).toNat : Int) = v.getD i 0 % d := Int.toNat_of_nonneg hm.1
  have hbz := euclid_bez (v.getD i 0 % d).toNat (ent R i i).toNat
  have hgc := euclid_gcd (v.getD i 0 % d).toNat (ent R i i).toNat
  have hd1 := Nat.gcd_dvd_left (ent R i i).toNat (v.getD i 0 % d).toNat
  have hd2 := Nat.gcd_dvd_right (ent R i i).toNat (v.getD i 0 % d).toNat
  have hgp := Nat.gcd_pos_of_pos_left (v.getD i 0 % d).toNat (show 0 < (ent R i i).toNat by omega)
  rw [← hgc] at hd1 hd2 hgp
  rw [eA, eZ] at hbz
  generalize euclidF (ent R i i).toNat (v.getD i 0 % d).toNat = e at *
  obtain ⟨g0, X, Y⟩ := e
  simp only at hbz hd1 hd2 hgp ⊢
  obtain ⟨p, hp⟩ := hd1
  obtain ⟨q, hq⟩ := hd2
  have hpA : ent R i i = (g0 : Int) * (p : Int) := by rw [← eA, hp]; simp
  have hqZ : v.getD i 0 % d = (g0 : Int) * (q : Int) := by rw [← eZ, hq]; simp
  have hg0 : (g0 : Int) ≠ 0 := by omega
  have ea : ent R i i / (g0 : Int) = p := by rw [hpA]; exact Int.mul_ediv_cancel_left _ hg0
  have eb : v.getD i 0 % d / (g0 : Int) = q := by rw [hqZ]; exact Int.mul_ediv_cancel_left _ hg0
  have hdet : X * (p : Int) + Y * (q : Int) = 1 := by
   have h1 : (g0 : Int) * 1 = (g0 : Int) * (X * (p : Int) + Y * (q : Int)) := by
    rw [hpA, hqZ] at hbz
    grind
   exact (Int.eq_of_mul_eq_mul_left hg0 h1).symm
  rw [ea, eb]
  obtain ⟨a1, a2⟩ := insJ_ent (i := i) (X := X) (Y := Y) (a := (p : Int)) (b := (q : Int)) hd hLB hV1 (n - (i + 1)) (by omega)
  obtain ⟨c1, c2⟩ := LB.insJ (i := i) (X := X) (Y := Y) (a := (p : Int)) (b := (q : Int)) hd (t := n - (i + 1)) hLB hV1 (by omega)
  have b1 := fun k j => ent_setE (x := (g0 : Int)) (i' := k) (j' := j) c1.len c1.row hi hi
  have r1 : ∀ k j, j < n → ent (setE (insJ R (v.set i (v.getD i 0 % d)) i X Y (p : Int) (q : Int) d (n - (i + 1))).1 i i (g0 : Int)) k j = if k = i ∧ j = i then (g0 : Int) else if k = i ∧ i < j then (X * ent R i j + Y * v.getD j 0) % d else ent R k j := fun k j hj => by
   rw [b1, a1]
   by_cases hc : k = i ∧ j = i
   ·rw [if_pos hc, if_pos hc]
   ·rw [if_neg hc, if_neg hc]
    by_cases hc2 : k = i ∧ i < j
    ·rw [if_pos (by omega), if_pos hc2, getD_set_ne (by omega)]
    ·rw [if_neg (by omega), if_neg hc2]
  have r2 : ∀ j, i < j → j < n → (insJ R (v.set i (v.getD i 0 % d)) i X Y (p : Int) (q : Int) d (n - (i + 1))).2.getD j 0 = ((p : Int) * v.getD j 0 - (q : Int) * ent R i j) % d := fun j h1 h2 => by
   rw [a2, if_pos (by omega), getD_set_ne (by omega)]
  generalize setE (insJ R (v.set i (v.getD i 0 % d)) i X Y (p : Int) (q : Int) d (n - (i + 1))).1 i i (g0 : Int) = R' at *
  generalize (insJ R (v.set i (v.getD i 0 % d)) i X Y (p : Int) (q : Int) d (n - (i + 1))).2 = v' at *
  have hrow : ∀ k, k ≠ i → ∀ j, j < n → ent R' k j = ent R k j := fun k hk j hj => by
   rw [r1 k j hj, if_neg (by omega), if_neg (by omega)]
  refine ⟨Tri.mk (fun k hk => ?_) fun k j hk hj => ?_, fun k hk hkn j hj => by rw [hrow k (by omega) j hj, h.rows k (by omega) hkn j hj], fun g => ?_⟩
  ·rw [r1 k k hk]
   split
   ·omega
   ·rw [if_neg (by omega)]
    exact h.tri.pos k hk
  ·rw [r1 k j (by omega), if_neg (by omega), if_neg (by omega)]
   exact h.tri.zero k hk j hj
  ·refine Iff.trans (two_step (n := n) (i := i) (e := ent R) (w := mask i (v.set i (v.getD i 0 % d))) (A := X) (B := Y) (C := -(q : Int)) (E := p) (s := 1) (z := fun j => ent R' i j - (X * ent R i j + Y * mask i (v.set i (v.getD i 0 % d)) j)) (z' := fun j => mask (i + 1) v' j - ((p : Int) * mask i (v.set i (v.getD i 0 % d)) j - (q : Int) * ent R i j)) hi (fun k _ hk j hj => hrow k hk j hj) (fun j hj => by grind) (fun j hj => by grind) ?_ ?_ (by grind) g) (hsp1 g)
   ·refine hz _ (fun j hj hjn => ?_) fun j hj hjn => ?_
    ·show ent R' i j - (X * ent R i j + Y * mask i (v.set i (v.getD i 0 % d)) j) = 0
     rw [r1 i j hjn]
     unfold mask
     by_cases e : j = i
     ·subst e
      rw [if_pos ⟨rfl, rfl⟩, if_neg (by omega), hg]
      omega
     ·rw [if_neg (by omega), if_neg (by omega), if_pos (by omega), h.tri.zero i hi j (show j < i by omega)]
      simp
    ·show ∃ y, ent R' i j - (X * ent R i j + Y * mask i (v.set i (v.getD i 0 % d)) j) = d * y
     rw [r1 i j hjn, if_neg (by omega), if_pos ⟨rfl, hj⟩]
     unfold mask
     rw [if_neg (by omega), getD_set_ne (by omega)]
     obtain ⟨y, hy⟩ := mod_diff (X * ent R i j + Y * v.getD j 0) d
     exact ⟨y, by omega⟩
   ·refine hz _ (fun j hj hjn => ?_) fun j hj hjn => ?_
    ·show mask (i + 1) v' j - ((p : Int) * mask i (v.set i (v.getD i 0 % d)) j - (q : Int) * ent R i j) = 0
     unfold mask
     rw [if_pos (by omega)]
     by_cases e : j = i
     ·subst e
      rw [if_neg (by omega), hg, hpA, hqZ]
      grind
     ·rw [if_pos (by omega), h.tri.zero i hi j (show j < i by omega)]
      simp
    ·show ∃ y, mask (i + 1) v' j - ((p : Int) * mask i (v.set i (v.getD i 0 % d)) j - (q : Int) * ent R i j) = d * y
     unfold mask
     rw [if_neg (by omega), if_neg (by omega), r2 j hj hjn, getD_set_ne (by omega)]
     obtain ⟨y, hy⟩ := mod_diff ((p : Int) * v.getD j 0 - (q : Int) * ent R i j) d
     exact ⟨y, by omega⟩
theorem CI_insI {n : Nat} {d : Int} {R0 : List (List Int)} {v0 : List Int} (hd : 0 < d) (hT0 : Tri (ent R0) n) (hF0 : Full (ent R0) n d) (hLB : LB R0 n d) (hVB : VB v0 n d) : ∀ {i : Nat}, i ≤ n → CI n d R0 v0 i (insI n R0 v0 d i).1 (insI n R0 v0 d i).2
 | 0, _ => CI.start hT0
 | i + 1, hi => by
  obtain ⟨h1, h2⟩ := LB.insI hd hLB hVB (i := i) (by omega)
  exact CI_insS hd hT0 hF0 h1 h2 (by omega) (CI_insI hd hT0 hF0 hLB hVB (i := i) (by omega))
theorem gt_low {e : Nat → Nat → Int} {n i : Nat} (hT : Tri e n) {u : Nat → Int} (h : Sp n (gtP e i n) u) : ∀ j, j ≤ i → j < n → u j = 0 := by
 induction h with
 | gen hg =>
  obtain ⟨k, h1, h2, rfl⟩ := hg
  exact fun j hj _ => hT.zero k h2 j (show j < k by omega)
 | zero hz => exact fun j _ hj => hz j hj
 | add _ _ he i1 i2 => exact fun j h1 h2 => by rw [he j h2, i1 j h1 h2, i2 j h1 h2]; rfl
 | neg _ he i1 => exact fun j h1 h2 => by rw [he j h2, i1 j h1 h2]; rfl
theorem row_step {e e' : Nat → Nat → Int} {n i : Nat} {u : Nat → Int} (hT : Tri e n) (hi : i < n) (hs : ∀ k, k < n → k ≠ i → ∀ j, j < n → e' k j = e k j) (hh : ∀ j, j < n → e' i j = e i j + u j) (hu : Sp n (gtP e i n) u) : Tri e' n ∧ ∀ g, Sp n (rowsP e' n) g ↔ Sp n (rowsP e n) g := by
 have hlow := gt_low hT hu
 refine ⟨Tri.mk (fun k hk => ?_) fun k j hk hj => ?_, fun g => ⟨fun hg => hg.mono ?_, fun hg => hg.mono ?_⟩⟩
 ·by_cases e1 : k = i
  ·subst e1; rw [hh k hk, hlow k (Nat.le_refl _) hk, Int.add_zero]; exact hT.pos k hk
  ·rw [hs k hk e1 k hk]; exact hT.pos k hk
 ·by_cases e1 : k = i
  ·subst e1; rw [hh j (by omega), hlow j (by omega) (by omega), Int.add_zero]; exact hT.zero k hk j hj
  ·rw [hs k hk e1 j (by omega)]; exact hT.zero k hk j hj
 ·rintro g ⟨k, hk, rfl⟩
  by_cases e1 : k = i
  ·subst e1; exact .add (Sp.row hk) (gt_rows hu) hh
  ·exact Sp.of_eq (Sp.row hk) fun j hj => hs k hk e1 j hj
 ·rintro g ⟨k, hk, rfl⟩
  have hu' : Sp n (rowsP e' n) u := gt_rows (gt_same (fun k h1 h2 j hj => hs k h2 (by omega) j hj) hu)
  by_cases e1 : k = i
  ·subst e1; exact Sp.sub (Sp.row hk) hu' fun j hj => by rw [hh j hj]; omega
  ·exact Sp.of_eq (Sp.row hk) fun j hj => (hs k hk e1 j hj).symm
theorem Full.iff {e e' : Nat → Nat → Int} {n : Nat} {d : Int} (h : Full e n d) (hs : ∀ g, Sp n (rowsP e' n) g ↔ Sp n (rowsP e n) g) : Full e' n d := fun j hj => (hs _).2 (h j hj)
structure RK (n : Nat) (d : Int) (R0 R : List (List Int)) (i t : Nat) : Prop where
 lb : LB R n d
 tri : Tri (ent R) n
 full : Full (ent R) n d
 same : ∀ k, k < n → k ≠ i → ∀ j, j < n → ent R k j = ent R0 k j
 sp : ∀ g, Sp n (rowsP (ent R) n) g ↔ Sp n (rowsP (ent R0) n) g
 red : ∀ k, i < k → k < i + 1 + t → 0 ≤ ent R i k ∧ ent R i k < ent R k k
theorem redK_RK {n i : Nat} {d : Int} {R : List (List Int)} (hd : 0 < d) (h : LB R n d) (hT : Tri (ent R) n) (hF : Full (ent R) n d) : ∀ t, i + 1 + t ≤ n → RK n d R (redK n R i d t) i t
 | 0, _ => ⟨h, hT, hF, fun _ _ _ _ _ => rfl, fun _ => Iff.rfl, fun k h1 h2 => by omega⟩
 | t + 1, ht => by
  have ih := redK_RK (i := i) hd h hT hF t (by omega)
  have hlb := LB.redK (i := i) hd (t := t + 1) h (by omega)
  generalize hS : redK n R i d t = S at *
  obtain ⟨b1, b2, b3, b4, b5, b6⟩ := ih
  have hR : redK n R i d (t + 1) = redJ (setE S i (i + 1 + t) (ent S i (i + 1 + t) % ent S (i + 1 + t) (i + 1 + t))) i (i + 1 + t) (ent S i (i + 1 + t) / ent S (i + 1 + t) (i + 1 + t)) d (n - (i + 1 + t) - 1) := by
   show redJ (setE (redK n R i d t) i (i + 1 + t) (ent (redK n R i d t) i (i + 1 + t) % ent (redK n R i d t) (i + 1 + t) (i + 1 + t))) i (i + 1 + t) (ent (redK n R i d t) i (i + 1 + t) / ent (redK n R i d t) (i + 1 + t) (i + 1 + t)) d (n - (i + 1 + t) - 1) = _
   rw [hS]
  have hp := b1.diag (i + 1 + t) (by omega)
  have he := b1.el (i + 1 + t) (i + 1 + t) (by omega) (by omega)
  have hm1 := Int.emod_nonneg (ent S i (i + 1 + t)) (show ent S (i + 1 + t) (i + 1 + t) ≠ 0 by omega)
  have hm2 := Int.emod_lt_of_pos (ent S i (i + 1 + t)) hp
  have hS1 : LB (setE S i (i + 1 + t) (ent S i (i + 1 + t) % ent S (i + 1 + t) (i + 1 + t))) n d := b1.setE (by omega) (by omega) ⟨hm1, by omega⟩ fun e => by omega
  have e1 := fun k j => ent_setE (x := ent S i (i + 1 + t) % ent S (i + 1 + t) (i + 1 + t)) (i' := k) (j' := j) b1.len b1.row (show i < n by omega) (show i + 1 + t < n by omega)
  have e2 := redJ_ent (i := i) (k := i + 1 + t) (q := ent S i (i + 1 + t) / ent S (i + 1 + t) (i + 1 + t)) hd (by omega) hS1 (by omega) (n - (i + 1 + t) - 1) (by omega)
  rw [← hR] at e2
  have r1 : ∀ r j, j < n → ent (redK n R i d (t + 1)) r j = if r = i ∧ i + 1 + t < j then (ent S i j - ent S i (i + 1 + t) / ent S (i + 1 + t) (i + 1 + t) * ent S (i + 1 + t) j) % d else if r = i ∧ j = i + 1 + t then ent S i (i + 1 + t) % ent S (i + 1 + t) (i + 1 + t) else ent S r j := fun r j hj => by
   rw [e2, e1, e1, e1]
   by_cases hc : r = i ∧ i + 1 + t < j
   ·rw [if_pos (by omega), if_pos hc, if_neg (by omega), if_neg (by omega)]
   ·rw [if_neg (by omega), if_neg hc]
  clear e1 e2
  generalize redK n R i d (t + 1) = S' at *
  have hrow : ∀ k, k < n → k ≠ i → ∀ j, j < n → ent S' k j = ent S k j := fun k _ hk j hj => by rw [r1 k j hj, if_neg (by omega), if_neg (by omega)]
  have hdm := Int.emod_add_mul_ediv (ent S i (i + 1 + t)) (ent S (i + 1 + t) (i + 1 + t))
  have hz : Sp n (gtP (ent S) (i + 1 + t) n) fun j => ent S' i j - (ent S i j - ent S i (i + 1 + t) / ent S (i + 1 + t) (i + 1 + t) * ent S (i + 1 + t) j) := by
   refine b3.gt b2 (fun j hj hjn => ?_) fun j hj hjn => ?_
   ·show ent S' i j - (ent S i j - ent S i (i + 1 + t) / ent S (i + 1 + t) (i + 1 + t) * ent S (i + 1 + t) j) = 0
    rw [r1 i j hjn, if_neg (by omega)]
    by_cases e : j = i + 1 + t
    ·subst e; rw [if_pos ⟨rfl, rfl⟩]; rw [Int.mul_comm] at hdm; omega
    ·rw [if_neg (by omega), b2.zero (i + 1 + t) (by omega) j (show j < i + 1 + t by omega)]; simp
   ·show ∃ y, ent S' i j - (ent S i j - ent S i (i + 1 + t) / ent S (i + 1 + t) (i + 1 + t) * ent S (i + 1 + t) j) = d * y
    rw [r1 i j hjn, if_pos ⟨rfl, hj⟩]
    obtain ⟨y, hy⟩ := mod_diff (ent S i j - ent S i (i + 1 + t) / ent S (i + 1 + t) (i + 1 + t) * ent S (i + 1 + t) j) d
    exact ⟨y, by omega⟩
  have hu : Sp n (gtP (ent S) i n) fun j => ent S' i j - ent S i j := by
   refine .add (v := fun j => -(ent S i (i + 1 + t) / ent S (i + 1 + t) (i + 1 + t)) * ent S (i + 1 + t) j) (Sp.smul (.gen ⟨i + 1 + t, by omega, by omega, rfl⟩) _ fun _ _ => rfl) (hz.mono fun g ⟨k, h1, h2, h3⟩ => .gen ⟨k, by omega, h2, h3⟩) fun j hj => ?_
   show ent S' i j - ent S i j = -(ent S i (i + 1 + t) / ent S (i + 1 + t) (i + 1 + t)) * ent S (i + 1 + t) j + (ent S' i j - (ent S i j - ent S i (i + 1 + t) / ent S (i + 1 + t) (i + 1 + t) * ent S (i + 1 + t) j))
   grind
  obtain ⟨c1, c2⟩ := row_step b2 (show i < n by omega) hrow (fun j hj => (show ent S' i j = ent S i j + (ent S' i j - ent S i j) by omega)) hu
  refine ⟨hlb, c1, b3.iff c2, fun k hk hki j hj => by rw [hrow k hk hki j hj, b4 k hk hki j hj], fun g => (c2 g).trans (b5 g), fun k h1 h2 => ?_⟩
  rw [hrow k (by omega) (by omega) k (by omega), r1 i k (by omega), if_neg (by omega)]
  by_cases e : k = i + 1 + t
  ·subst e
   rw [if_pos ⟨rfl, rfl⟩]
   exact ⟨hm1, hm2⟩
  ·rw [if_neg (by omega)]
   exact b6 k h1 (by omega)
theorem redI_spec {n : Nat} {d : Int} {R : List (List Int)} (hd : 0 < d) (h : LB R n d) (hT : Tri (ent R) n) (hF : Full (ent R) n d) : ∀ t, t ≤ n →
  LB (redI n R d t) n d ∧ Tri (ent (redI n R d t)) n ∧ Full (ent (redI n R d t)) n d ∧ (∀ g, Sp n (rowsP (ent (redI n R d t)) n) g ↔ Sp n (rowsP (ent R) n) g) ∧ ∀ i k, n - t ≤ i → i < k → k < n → 0 ≤ ent (redI n R d t) i k ∧ ent (redI n R d t) i k < ent (redI n R d t) k k
 | 0, _ => ⟨h, hT, hF, fun _ => Iff.rfl, fun i k h1 h2 h3 => by omega⟩
 | t + 1, ht => by
  obtain ⟨a1, a2, a3, a4, a5⟩ := redI_spec hd h hT hF t (by omega)
  obtain ⟨b1, b2, b3, b4, b5, b6⟩ := redK_RK (i := n - 1 - t) hd a1 a2 a3 t (by omega)
  refine ⟨b1, b2, b3, fun g => (b5 g).trans (a4 g), fun i k h1 h2 h3 => ?_⟩
  show 0 ≤ ent (redK n (redI n R d t) (n - 1 - t) d t) i k ∧ ent (redK n (redI n R d t) (n - 1 - t) d t) i k < ent (redK n (redI n R d t) (n - 1 - t) d t) k k
  by_cases e : i = n - 1 - t
  ·subst e
   exact b6 k h2 (by omega)
  ·rw [b4 i (by omega) e k h3, b4 k h3 (by omega) k h3]
   exact a5 i k (by omega) h2 h3
def LG (n : Nat) (d : Int) (f : Nat → Nat → Int) (m : Nat) (g : Nat → Int) : Prop := (∃ j, j < n ∧ g = unitV d j) ∨ ∃ k, k < m ∧ g = f k
theorem Sp.mults {n : Nat} {d : Int} {S : (Nat → Int) → Prop} (h : ∀ j, j < n → Sp n S (unitV d j)) {z : Nat → Int} (hz : ∀ j, j < n → ∃ y, z j = d * y) : Sp n S z := by
 have hex : ∃ y : Nat → Int, ∀ j, j < n → z j = d * y j := by
  refine ⟨fun j => if h : j < n then (hz j h).choose else 0, fun j h1 => ?_⟩
  simp only [h1, dite_true]
  exact (hz j h1).choose_spec
 obtain ⟨y, hy⟩ := hex
 refine Sp.sum (f := unitV d) (c := y) (m := n) h fun j hj => ?_
 rw [psumF_one (k := j) hj fun t ht hne => by
  show y t * unitV d t j = 0
  rw [show unitV d t j = 0 from if_neg (Ne.symm hne), Int.mul_zero]]
 show z j = y j * (if j = j then d else 0)
 rw [if_pos rfl, hy j hj, Int.mul_comm]
theorem LG.cong {n : Nat} {d : Int} {f f' : Nat → Nat → Int} {m : Nat} (h : ∀ k, k < m → ∀ j, j < n → ∃ y, f' k j = f k j + d * y) {g : Nat → Int} (hg : Sp n (LG n d f m) g) : Sp n (LG n d f' m) g := by
 refine hg.mono fun g hg => ?_
 rcases hg with h1 | ⟨k, hk, rfl⟩
 ·exact .gen (.inl h1)
 ·refine Sp.sub (v := f' k) (w := fun j => f' k j - f k j) (.gen (.inr ⟨k, hk, rfl⟩)) (Sp.mults (d := d) (fun j hj => .gen (.inl ⟨j, hj, rfl⟩)) fun j hj => ?_) fun j hj => by omega
  obtain ⟨y, hy⟩ := h k hk j hj
  exact ⟨y, by omega⟩
theorem LG.iff {n : Nat} {d : Int} {f f' : Nat → Nat → Int} {m : Nat} (h : ∀ k, k < m → ∀ j, j < n → ∃ y, f' k j = f k j + d * y) (g : Nat → Int) : Sp n (LG n d f m) g ↔ Sp n (LG n d f' m) g :=
 ⟨LG.cong h, LG.cong fun k hk j hj => by
  obtain ⟨y, hy⟩ := h k hk j hj
  exact ⟨-y, by rw [hy, Int.mul_neg]; omega⟩⟩
theorem mult_ent {n : Nat} {d : Int} {i j : Nat} (hi : i < n) (hj : j < n) : ent (multF n n d) i j = unitV d i j := by
 have hrow : (multF n n d).getD i [] = (List.replicate n 0).set i d := by
  simp [multF, List.getD_eq_getElem?_getD, hi]
 unfold ent rw_ unitV
 rw [hrow, List.getD_eq_getElem?_getD, List.getElem?_set]
 by_cases e : i = j
 ·rw [if_pos e, if_pos e.symm, if_pos (by simpa using hi)]; rfl
 ·rw [if_neg e, if_neg (Ne.symm e)]; simp [hj]
structure LL (n : Nat) (d : Int) (f : Nat → Nat → Int) (m : Nat) (R : List (List Int)) : Prop where
 lb : LB R n d
 tri : Tri (ent R) n
 full : Full (ent R) n d
 sp : ∀ g, Sp n (rowsP (ent R) n) g ↔ Sp n (LG n d f m) g
theorem LL.mult {n : Nat} {d : Int} {f : Nat → Nat → Int} (hd : 0 < d) : LL n d f 0 (multF n n d) := by
 refine ⟨LB.mult hd, Tri.mk (fun i hi => ?_) fun i j hi hj => ?_, fun j hj => ?_, fun g => ⟨fun hg => hg.mono ?_, fun hg => hg.mono ?_⟩⟩
 ·rw [mult_ent hi hi]; show 0 < if i = i then d else 0; rw [if_pos rfl]; exact hd
 ·rw [mult_ent hi (by omega)]; exact if_neg (by omega)
 ·exact Sp.of_eq (Sp.row hj) fun t ht => (mult_ent hj ht).symm
 ·rintro g ⟨k, hk, rfl⟩
  exact Sp.of_eq (.gen (.inl ⟨k, hk, rfl⟩)) fun t ht => mult_ent hk ht
 ·rintro g (⟨k, hk, rfl⟩ | ⟨k, hk, rfl⟩)
  ·exact Sp.of_eq (Sp.row hk) fun t ht => (mult_ent hk ht).symm
  ·omega
theorem LG.next {n : Nat} {d : Int} {f : Nat → Nat → Int} {m : Nat} {e : Nat → Nat → Int} {w : Nat → Int} (hw : ∀ j, j < n → w j = f m j) (h : ∀ g, Sp n (rowsP e n) g ↔ Sp n (LG n d f m) g) (g : Nat → Int) : Sp n (SV e n w) g ↔ Sp n (LG n d f (m + 1)) g := by
 constructor
 ·refine fun hg => hg.mono ?_
  rintro g (hg | rfl)
  ·exact ((h g).1 (.gen hg)).mono fun g hg => .gen (by
    rcases hg with h1 | ⟨k, hk, h2⟩
    ·exact .inl h1
    ·exact .inr ⟨k, by omega, h2⟩)
  ·exact Sp.of_eq (.gen (.inr ⟨m, by omega, rfl⟩)) hw
 ·refine fun hg => hg.mono ?_
  have old : ∀ g, LG n d f m g → Sp n (SV e n w) g := fun g hg => ((h g).2 (.gen hg)).mono fun g hg => .gen (.inl hg)
  rintro g (h1 | ⟨k, hk, rfl⟩)
  ·exact old _ (.inl h1)
  ·by_cases e1 : k = m
   ·subst e1
    exact Sp.of_eq (.gen (.inr rfl)) fun j hj => (hw j hj).symm
   ·exact old _ (.inr ⟨k, by omega, rfl⟩)
theorem LL.add {n : Nat} {d : Int} {f : Nat → Nat → Int} {m : Nat} {R : List (List Int)} {v : List Int} (hd : 0 < d) (hd9 : d ≤ 1000000000) (h : LL n d f m R) (hv : VC v n) (hf : ∀ j, j < n → v.getD j 0 = f m j) : LL n d f (m + 1) (addI n R v d n).1 := by
 obtain ⟨a1, a2, a3⟩ := (CI_addI hd hd9 h.tri h.full h.lb hv (Nat.le_refl n)).done h.full
 exact ⟨(LB.addI hd hd9 h.lb hv (Nat.le_refl _)).1, a1, a2, fun g => (a3 g).trans (LG.next (w := mask 0 v) (fun j hj => hf j hj) h.sp g)⟩
theorem LL.ins {n : Nat} {d : Int} {f : Nat → Nat → Int} {m : Nat} {R : List (List Int)} {v : List Int} (hd : 0 < d) (h : LL n d f m R) (hv : VB v n d) (hf : ∀ j, j < n → v.getD j 0 = f m j) : LL n d f (m + 1) (insI n R v d n).1 := by
 obtain ⟨a1, a2, a3⟩ := (CI_insI hd h.tri h.full h.lb hv (Nat.le_refl n)).done h.full
 exact ⟨(LB.insI hd h.lb hv (Nat.le_refl _)).1, a1, a2, fun g => (a3 g).trans (LG.next (w := mask 0 v) (fun j hj => hf j hj) h.sp g)⟩
structure HL (n : Nat) (d : Int) (f : Nat → Nat → Int) (m : Nat) (R : List (List Int)) : Prop extends LL n d f m R where
 hf : HF n (ent R) n id
theorem LL.red {n : Nat} {d : Int} {f : Nat → Nat → Int} {m : Nat} {R : List (List Int)} (hd : 0 < d) (h : LL n d f m R) : HL n d f m (redI n R d n) := by
 obtain ⟨a1, a2, a3, a4, a5⟩ := redI_spec hd h.lb h.tri h.full n (Nat.le_refl _)
 exact ⟨⟨a1, a2, a3, fun g => (a4 g).trans (h.sp g)⟩, ⟨a2, fun i k hik hk => a5 i k (by omega) hik hk⟩⟩
theorem list2_ext {R R' : List (List Int)} {n : Nat} {d d' : Int} (h : LB R n d) (h' : LB R' n d') (he : ∀ i j, i < n → j < n → ent R i j = ent R' i j) : R = R' := by
 apply List.ext_getElem?
 intro i
 have l1 := h.len
 have l2 := h'.len
 by_cases hi : i < n
 ·have r1 := h.row i hi
  have r2 := h'.row i hi
  rw [List.getElem?_eq_getElem (by omega), List.getElem?_eq_getElem (by omega)]
  congr 1
  have e1 : R[i] = R.getD i [] := by simp [List.getD_eq_getElem?_getD, show i < R.length by omega]
  have e2 : R'[i] = R'.getD i [] := by simp [List.getD_eq_getElem?_getD, show i < R'.length by omega]
  rw [e1, e2]
  exact getD_ext (by omega) fun j hj => he i j hi (by omega)
 ·rw [List.getElem?_eq_none (by omega), List.getElem?_eq_none (by omega)]
theorem HL.eq {n : Nat} {d d' : Int} {f f' : Nat → Nat → Int} {m m' : Nat} {R R' : List (List Int)} (h : HL n d f m R) (h' : HL n d' f' m' R') (hs : ∀ g, Sp n (rowsP (ent R) n) g ↔ Sp n (rowsP (ent R') n) g) : R = R' :=
 list2_ext h.lb h'.lb fun i j hi hj => ((HF.unique h.hf h'.hf (fun i hi => (hs _).1 (Sp.row hi)) (fun i hi => (hs _).2 (Sp.row hi))).2 i hi).2 j hj
def resE (rows : List (List Int)) (js : List Nat) (k j : Nat) : Int := ent rows k (js.getD j 0)
theorem vecOf_at {rows : List (List Int)} {js : List Nat} {i j : Nat} (h : j < js.length) : (vecOf rows js i).getD j 0 = resE rows js i j := by
 simp [vecOf, resE, List.getD_eq_getElem?_getD, h]
theorem vecM_at {rows : List (List Int)} {js : List Nat} {d : Int} {i j : Nat} (h : j < js.length) : (vecM rows js d i).getD j 0 = resE rows js i j % d := by
 simp [vecM, resE, List.getD_eq_getElem?_getD, h]
theorem addRows_LL {rows : List (List Int)} {js : List Nat} {d : Int} (hd : 0 < d) (hd9 : d ≤ 1000000000) (he : ∀ i, i < rows.length → okE (rw_ rows i)) (hj : okJ js) : ∀ {i : Nat}, i ≤ rows.length → LL js.length d (resE rows js) i (addRows rows js d i)
 | 0, _ => LL.mult hd
 | i + 1, hi => (addRows_LL hd hd9 he hj (i := i) (by omega)).add hd hd9 (vec_VC (he i (by omega)) hj) fun j hj => vecOf_at hj
theorem insRows_LL {rows : List (List Int)} {js : List Nat} {d : Int} (hd : 0 < d) : ∀ {i : Nat}, LL js.length d (fun k j => resE rows js k j % d) i (insRows rows js d i)
 | 0 => LL.mult hd
 | i + 1 => (insRows_LL hd (i := i)).ins hd (vecM_VB hd) fun j hj => vecM_at hj
theorem hermX_HL {rows : List (List Int)} {s : Fr} (h : FrB rows s) (he : ∀ i, i < rows.length → okE (rw_ rows i)) : HL s.js.length (absI s.d) (resE rows s.js) rows.length (hermX rows s) :=
 (addRows_LL h.abs.1 h.abs.2 he h.j (Nat.le_refl _)).red h.abs.1
theorem herm_eq {rows : List (List Int)} {s : Fr} (h : FrB rows s) (he : ∀ i, i < rows.length → okE (rw_ rows i)) : hermX rows s = hermXR rows s := by
 have h1 := hermX_HL h he
 have h2 : HL s.js.length (absI s.d) (fun k j => resE rows s.js k j % absI s.d) rows.length (hermXR rows s) := (insRows_LL h.abs.1).red h.abs.1
 exact h1.eq h2 fun g => (h1.sp g).trans ((LG.iff (fun k _ j _ => by
  obtain ⟨y, hy⟩ := mod_diff (resE rows s.js k j) (absI s.d)
  exact ⟨y, hy⟩) g).trans (h2.sp g).symm)
theorem hermF_eq {rows : List (List Int)} (hv : VM rows) (h6 : ∀ i, i < rows.length → (rw_ rows i).length = 6) : hermF rows = hermFR rows := by
 unfold hermF hermFR
 rw [herm_eq (fwd_B hv h6) hv.2.1]
def liftS (rows : List (List Int)) (S : Fr) (x : Nat → Int) (j : Nat) : Int := psumF (fun k => x k * minorF (ent rows) S.is (S.js.set k j)) S.js.length
abbrev RowL (e : Nat → Nat → Int) (m : Nat) (g : Nat → Int) : Prop := Sp 6 (rowsP e m) g
theorem rep_in {rows : List (List Int)} {S : Fr} (hB : FrB rows S) {k : Nat} (hk : k < S.js.length) : RowL (ent rows) rows.length fun j => minorF (ent rows) S.is (S.js.set k j) := by
 refine Sp.sum (f := fun t => ent rows (S.is.getD t 0)) (c := fun t => cof (ent rows) S.is S.js k t) (m := S.is.length) (fun t ht => Sp.row (hB.i _ ?_)) fun j _ => rep_lin hB.len hk j
 rw [List.getD_eq_getElem?_getD, List.getElem?_eq_getElem ht]
 exact List.getElem_mem ht
theorem lift_in {rows : List (List Int)} {S : Fr} (hB : FrB rows S) (hC : Crm rows S) {x : Nat → Int} (h : Sp S.js.length (LG S.js.length (absI S.d) (resE rows S.js) rows.length) x) : ∃ w, RowL (ent rows) rows.length w ∧ ∀ j, j < 6 → liftS rows S x j = S.d * w j := by
 induction h with
 | gen hg =>
  rcases hg with ⟨l, hl, rfl⟩ | ⟨k, hk, rfl⟩
  ·have hs : ∃ s : Int, absI S.d = S.d * s := by
    unfold absI
    split
    ·exact ⟨-1, by omega⟩
    ·exact ⟨1, by omega⟩
   obtain ⟨s, hs⟩ := hs
   refine ⟨_, (rep_in hB hl).smul s (u := fun j => s * minorF (ent rows) S.is (S.js.set l j)) fun _ _ => rfl, fun j hj => ?_⟩
   unfold liftS
   rw [psumF_one (k := l) hl fun t ht hne => by
    show unitV (absI S.d) l t * _ = 0
    rw [show unitV (absI S.d) l t = 0 from if_neg hne, Int.zero_mul]]
   show (if l = l then absI S.d else 0) * _ = _
   rw [if_pos rfl, hs, Int.mul_assoc]
  ·refine ⟨_, Sp.row hk, fun j hj => ?_⟩
   rw [hC.eq k j hk hj]
   unfold liftS resE
   exact psumF_congr fun l _ => Int.mul_comm _ _
 | zero hz =>
  refine ⟨fun _ => 0, .zero fun _ _ => rfl, fun j _ => ?_⟩
  unfold liftS
  rw [Int.mul_zero, ← psumF_zero S.js.length]
  exact psumF_congr fun l hl => by rw [hz l hl, Int.zero_mul]
 | add _ _ he i1 i2 =>
  obtain ⟨w1, a1, b1⟩ := i1
  obtain ⟨w2, a2, b2⟩ := i2
  refine ⟨fun j => w1 j + w2 j, .add a1 a2 fun _ _ => rfl, fun j hj => ?_⟩
  rw [Int.mul_add, ← b1 j hj, ← b2 j hj]
  unfold liftS
  rw [← psumF_add]
  exact psumF_congr fun l hl => by rw [he l hl, Int.add_mul]
 | neg _ he i1 =>
  obtain ⟨w1, a1, b1⟩ := i1
  refine ⟨fun j => -w1 j, .neg a1 fun _ _ => rfl, fun j hj => ?_⟩
  rw [Int.mul_neg, ← b1 j hj]
  unfold liftS
  rw [← psumF_neg]
  exact psumF_congr fun l hl => by rw [he l hl, Int.neg_mul]
theorem okJ.at {js : List Nat} (h : okJ js) {k : Nat} (hk : k < js.length) : js.getD k 0 < 6 := by
 rw [List.getD_eq_getElem?_getD, List.getElem?_eq_getElem hk]
 exact h.2 _ (List.getElem_mem hk)
theorem row_back {rows : List (List Int)} {S : Fr} (hB : FrB rows S) (hC : Crm rows S) {w : Nat → Int} (h : RowL (ent rows) rows.length w) : Sp S.js.length (LG S.js.length (absI S.d) (resE rows S.js) rows.length) (fun k => w (S.js.getD k 0)) ∧ ∀ j, j < 6 → liftS rows S (fun k => w (S.js.getD k 0)) j = S.d * w j := by
 induction h with
 | gen hg =>
  obtain ⟨k, hk, rfl⟩ := hg
  refine ⟨.gen (.inr ⟨k, hk, rfl⟩), fun j hj => ?_⟩
  rw [hC.eq k j hk hj]
  unfold liftS
  exact psumF_congr fun l _ => Int.mul_comm _ _
 | zero hz =>
  refine ⟨.zero fun k hk => hz _ (hB.j.at hk), fun j hj => ?_⟩
  rw [hz j hj]
  unfold liftS
  rw [Int.mul_zero, ← psumF_zero S.js.length]
  exact psumF_congr fun l hl => by simp only [hz _ (hB.j.at hl), Int.zero_mul]
 | add _ _ he i1 i2 =>
  refine ⟨.add i1.1 i2.1 fun k hk => he _ (hB.j.at hk), fun j hj => ?_⟩
  rw [he j hj, Int.mul_add, ← i1.2 j hj, ← i2.2 j hj]
  unfold liftS
  rw [← psumF_add]
  exact psumF_congr fun l hl => by simp only [he _ (hB.j.at hl), Int.add_mul]
 | neg _ he i1 =>
  refine ⟨.neg i1.1 fun k hk => he _ (hB.j.at hk), fun j hj => ?_⟩
  rw [he j hj, Int.mul_neg, ← i1.2 j hj]
  unfold liftS
  rw [← psumF_neg]
  exact psumF_congr fun l hl => by simp only [he _ (hB.j.at hl), Int.neg_mul]
theorem map_ent {X : List (List Int)} {f : List Int → List Int} {i j : Nat} (hi : i < X.length) : ent (X.map f) i j = (f (X.getD i [])).getD j 0 := by
 unfold ent rw_
 simp [List.getD_eq_getElem?_getD, hi]
theorem outR_at {rows : List (List Int)} {S : Fr} {x : List Int} {j : Nat} (hj : j < 6) : (outR rows S x).getD j 0 = outE rows S x j := by
 simp [outR, List.getD_eq_getElem?_getD, hj]
structure HermL (rows H : List (List Int)) (p : List Nat) : Prop where
 len : H.length = p.length
 six : ∀ r ∈ H, r.length = 6
 hf : HF 6 (ent H) p.length fun i => p.getD i 0
 sp : ∀ g, RowL (ent H) H.length g ↔ RowL (ent rows) rows.length g
theorem sorted_at {l : List Nat} (h : l.Pairwise (· < ·)) {i k : Nat} (hik : i < k) (hk : k < l.length) : l.getD i 0 < l.getD k 0 := by
 rw [List.getD_eq_getElem?_getD, List.getD_eq_getElem?_getD, List.getElem?_eq_getElem hk, List.getElem?_eq_getElem (by omega)]
 exact List.pairwise_iff_getElem.1 h i k (by omega) hk hik
theorem fwd_sorted (rows : List (List Int)) : (fwdF rows).js.Pairwise (· < ·) := by
 have h := (frame_dep (rows := rows) (ord := [0, 1, 2, 3, 4, 5]) (k := 6) (Nat.le_refl _)).1.sub
 exact List.Pairwise.sublist h (by decide)
theorem herm_lat {rows : List (List Int)} (hv : VM rows) (h6 : ∀ i, i < rows.length → (rw_ rows i).length = 6) : HermL rows (hermF rows) (fwdF rows).js := by
 have hB := fwd_B hv h6
 have hC := fwd_crm rows
 have hX := hermX_HL hB hv.2.1
 have hso := fwd_sorted rows
 have htri := fun {j k : Nat} => fwd_tri (rows := rows) (j := j) (k := k)
 have hlen := hX.lb.len
 unfold hermF
 generalize fwdF rows = S at *
 generalize hermX rows S = X at *
 have hw : ∀ i, i < X.length → ∃ w, RowL (ent rows) rows.length w ∧ ∀ j, j < 6 → liftS rows S (ent X i) j = S.d * w j := fun i hi => lift_in hB hC ((hX.sp _).1 (Sp.row (by omega)))
 have he : ∀ i, i < X.length → ∀ j, j < 6 → liftS rows S (ent X i) j = S.d * ent (X.map (outR rows S)) i j := fun i hi j hj => by
  obtain ⟨w, h1, h2⟩ := hw i hi
  rw [map_ent hi, outR_at hj]
  have e : sumE rows S (X.getD i []) j S.js.length = liftS rows S (ent X i) j := rfl
  unfold outE
  rw [e, h2 j hj, Int.mul_tdiv_cancel_left _ hB.ne]
 have hin : ∀ i, i < X.length → RowL (ent rows) rows.length (ent (X.map (outR rows S)) i) := fun i hi => by
  obtain ⟨w, h1, h2⟩ := hw i hi
  refine h1.of_eq fun j hj => ?_
  have := he i hi j hj
  rw [h2 j hj] at this
  exact (Int.eq_of_mul_eq_mul_left hB.ne this).symm
 have hpiv : ∀ i, i < X.length → ∀ l, l < S.js.length → ent (X.map (outR rows S)) i (S.js.getD l 0) = ent X i l := fun i hi l hl => by
  have h1 := he i hi _ (hB.j.at hl)
  unfold liftS at h1
  rw [psumF_one (k := l) hl fun t ht hne => by rw [rep_diag hB.len ht hl, if_neg hne, Int.mul_zero], rep_diag hB.len hl hl, if_pos rfl, ← hB.d, Int.mul_comm] at h1
  exact (Int.eq_of_mul_eq_mul_left hB.ne h1).symm
 refine ⟨by rw [List.length_map]; exact hlen, mapR_six, ⟨⟨fun i hi => hB.j.at hi, fun i k h1 h2 => sorted_at hso h1 h2, fun i hi => ?_, fun i hi j hj => ?_⟩, fun i k hik hk => ?_⟩, fun g => ⟨fun hg => hg.mono ?_, fun hg => ?_⟩⟩
 ·show 0 < ent (X.map (outR rows S)) i (S.js.getD i 0)
  rw [hpiv i (by omega) i hi]
  exact hX.lb.diag i hi
 ·have hj6 : j < 6 := by have := hB.j.at hi; have : j < S.js.getD i 0 := hj; omega
  have h1 := he i (by omega) j hj6
  have h0 : liftS rows S (ent X i) j = 0 := by
   unfold liftS
   rw [← psumF_zero S.js.length]
   refine psumF_congr fun l hl => ?_
   by_cases hli : l < i
   ·rw [hX.tri.zero i hi l hli, Int.zero_mul]
   ·have hlt : j < S.js.getD l 0 := by
     have : j < S.js.getD i 0 := hj
     by_cases e : l = i
     ·subst e; exact this
     ·have := sorted_at hso (show i < l by omega) hl; omega
    rw [htri hl hlt hj6, Int.mul_zero]
  rw [h0] at h1
  rcases Int.mul_eq_zero.1 h1.symm with h | h
  ·exact absurd h hB.ne
  ·exact h
 ·show 0 ≤ ent (X.map (outR rows S)) i (S.js.getD k 0) ∧ ent (X.map (outR rows S)) i (S.js.getD k 0) < ent (X.map (outR rows S)) k (S.js.getD k 0)
  rw [hpiv i (by omega) k hk, hpiv k (by omega) k hk]
  exact hX.hf.red i k hik hk
 ·rintro g ⟨i, hi, rfl⟩
  rw [List.length_map] at hi
  exact hin i hi
 ·obtain ⟨h1, h2⟩ := row_back hB hC hg
  obtain ⟨c, hc⟩ := ((hX.sp _).2 h1).coef
  rw [List.length_map, hlen]
  refine Sp.of_coef (c := c) fun j hj => ?_
  apply Int.eq_of_mul_eq_mul_left hB.ne
  rw [← h2 j hj, ← psumF_mul]
  have e1 : psumF (fun i => S.d * (c i * ent (X.map (outR rows S)) i j)) S.js.length = psumF (fun i => psumF (fun l => c i * ent X i l * minorF (ent rows) S.is (S.js.set l j)) S.js.length) S.js.length := psumF_congr fun i hi => by
   have := he i (by omega) j hj
   have e : S.d * (c i * ent (X.map (outR rows S)) i j) = c i * (S.d * ent (X.map (outR rows S)) i j) := by grind
   rw [e, ← this]
   unfold liftS
   rw [← psumF_mul]
   exact psumF_congr fun l _ => (Int.mul_assoc _ _ _).symm
  rw [e1, psumF_comm]
  unfold liftS
  refine psumF_congr fun l hl => ?_
  show g (S.js.getD l 0) * _ = _
  rw [hc l hl, Int.mul_comm, ← psumF_mul]
  exact psumF_congr fun i _ => Int.mul_comm _ _
def sigF (c : Nat → Int) (x : Nat → Int) (n : Nat) : Int := psumF (fun t => c t * x t) n
structure KL (n : Nat) (d : Int) (P : (Nat → Int) → Prop) (X : List (List Int)) : Prop where
 lb : LB X n d
 hf : HF n (ent X) n id
 full : Full (ent X) n d
 sp : ∀ g, Sp n (rowsP (ent X) n) g ↔ P g
def lsum (f : Nat → Int) : List Nat → Int
 | [] => 0
 | x :: l => f x + lsum f l
def KerP (e : Nat → Nat → Int) (m : Nat) (y : Nat → Int) : Prop := ∀ i, i < m → psumF (fun j => e i j * y j) 6 = 0
structure KerL (rows H : List (List Int)) (p : List Nat) : Prop where
 len : H.length = p.length
 six : ∀ r ∈ H, r.length = 6
 hf : HF 6 (ent H) p.length fun i => p.getD i 0
 sp : ∀ g, RowL (ent H) H.length g ↔ KerP (ent rows) rows.length g
end Go.Proofs.Ytnilimjkibimcaa

