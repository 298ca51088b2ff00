import Derived.Test.YtgchabldcnmccabDoorUNA

set_option linter.unusedSimpArgs false
set_option linter.unusedVariables false

namespace Go.Proofs.YtgchabldcnmccabDoor
open Go.Zz
def Dep (m : Nat) (e : Nat -> Nat -> Int) (js : List Nat) (j t : Nat) : Prop := ∃ (D : Int) (c : Nat -> Int), D ≠ 0 /\ (∀ k, t <= k -> c k = 0) /\ ∀ i, i < m -> D * e i j = zag (fun k => c k * e i (js.getD k 0)) js.length
theorem zbe {f : Nat -> Int} {n k : Nat} (hk : k < n) (h : ∀ t, t < n -> t ≠ k -> f t = 0) : zag f n = f k := by
 induction n with
 | zero => omega
 | succ n ih =>
  show zag f n + f n = _
  by_cases e : k = n
  ·subst e
   have : zag f k = zag (fun _ => 0) k := zac fun t ht => h t (by omega) (by omega)
   rw [this, za7, Int.zero_add]
  ·rw [ih (by omega) fun t h1 h2 => h t (by omega) h2, h n (by omega) (by omega), Int.add_zero]
theorem Dep.more {m : Nat} {e : Nat -> Nat -> Int} {js : List Nat} {j t : Nat} (h : Dep m e js j t) (ht : t <= js.length) (x : Nat) : Dep m e (js ++ [x]) j t := by
 obtain ⟨D, c, h1, h2, h3⟩ := h;refine ⟨D, c, h1, h2, fun i hi => ?_⟩;rw [h3 i hi, List.length_append, List.length_singleton]
 show _ = zag _ js.length + c js.length * e i ((js ++ [x]).getD js.length 0)
 rw [h2 js.length ht, Int.zero_mul, Int.add_zero]
 exact zac fun k hk => by
  have : (js ++ [x]).getD k 0 = js.getD k 0 := by simp [List.getD_eq_getElem?_getD, List.getElem?_append_left hk]
  rw [this]
theorem Dep.last {m : Nat} {e : Nat -> Nat -> Int} {js : List Nat} (j : Nat) : Dep m e (js ++ [j]) j (js.length + 1) := by
 refine ⟨1, fun k => if k = js.length then 1 else 0, by decide, fun k hk => if_neg (by omega), fun i hi => ?_⟩
 rw [List.length_append, List.length_singleton, zbe (k := js.length) (by omega) fun t h1 h2 => by
  show (if t = js.length then (1 : Int) else 0) * _ = 0
  rw [if_neg h2, Int.zero_mul]]
 show _ = (if js.length = js.length then (1 : Int) else 0) * _
 rw [if_pos rfl]
 have : (js ++ [j]).getD js.length 0 = j := by simp [List.getD_eq_getElem?_getD]
 rw [this]
theorem Dep.of_border {m : Nat} {e : Nat -> Nat -> Int} {is js : List Nat} (hl : is.length = js.length) {j : Nat} (hd : zab e is js ≠ 0) (h : ∀ i, i < m -> zab e (is ++ [i]) (js ++ [j]) = 0) : Dep m e js j js.length := by
 refine ⟨zab e is js, fun k => if k < js.length then zab e is (js.set k j) else 0, hd, fun k hk => if_neg (by omega), fun i hi => ?_⟩;have h1 := zqe (e := e) hl i j;rw [h i hi] at h1
 show _ = zag (fun k => (if k < js.length then zab e is (js.set k j) else 0) * e i (js.getD k 0)) js.length
 have h2 : zag (fun k => (if k < js.length then zab e is (js.set k j) else 0) * e i (js.getD k 0)) js.length = zag (fun p => zab e is (js.set p j) * e i (js.getD p 0)) js.length := zac fun k hk => by rw [if_pos hk]
 rw [h2];omega
theorem zbY {rows : List (List Int)} {ord : List Nat} : ∀ {k : Nat}, k <= ord.length -> FrOk rows ord k (frame rows ord k) /\ ∀ p, p < k -> (frame rows ord (p + 1)).js <+: (frame rows ord k).js /\ Dep rows.length (ent rows) (frame rows ord k).js (ord.getD p 0) (frame rows ord (p + 1)).js.length
 | 0, _ => ⟨FrOk.zero _ _, fun p hp => by omega⟩
 | k + 1, hk => by
  obtain ⟨ih1, ih2⟩ := zbY (rows := rows) (ord := ord) (k := k) (by omega);have hs := zfm (rows := rows) (ord := ord) (k := k) (by omega)
  cases hf : zcI rows (frame rows ord k).is ((frame rows ord k).js ++ [ord.getD k 0]) with
  | some i =>
   have he := zen hf;rw [he] at hs
   have hi := (List.find?_range_eq_some.1 hf)
   have hi1 : i < rows.length := by simpa using hi.2.1
   have hi2 : zdC rows (frame rows ord k).is ((frame rows ord k).js ++ [ord.getD k 0]) i ≠ 0 := by simpa using hi.1
   have hok := ih1.some (by omega) hi1 hi2;rw [<- hs] at hok
   have hjs : (frame rows ord (k + 1)).js = (frame rows ord k).js ++ [ord.getD k 0] := by rw [hs]
   refine ⟨hok, fun p hp => ?_⟩
   by_cases e : p = k
   ·subst e;exact ⟨List.prefix_refl _, by rw [hjs, List.length_append]; exact Dep.last _⟩
   ·obtain ⟨h1, h2⟩ := ih2 p (by omega);rw [hjs]
    exact ⟨h1.trans (List.prefix_append _ _), h2.more h1.length_le _⟩
  | none =>
   have he := zeI hf;rw [he] at hs
   have hz : ∀ i, i < rows.length -> zdC rows (frame rows ord k).is ((frame rows ord k).js ++ [ord.getD k 0]) i = 0 := fun i hi => by
    have := List.find?_eq_none.1 hf i (by simpa using hi);simpa using this
   have hok := ih1.none (by omega);rw [hs];refine ⟨hok, fun p hp => ?_⟩
   by_cases e : p = k
   ·subst e;rw [hs];exact ⟨List.prefix_refl _, Dep.of_border ih1.len (by rw [<- ih1.d]; exact ih1.ne) hz⟩
   ·exact ih2 p (by omega)
structure Crm (rows : List (List Int)) (S : Fr) : Prop where
 eq : ∀ i j, i < rows.length -> j < 6 -> S.d * ent rows i j = zag (fun k => zab (ent rows) S.is (S.js.set k j) * ent rows i (S.js.getD k 0)) S.js.length
theorem Dep.cramer {rows : List (List Int)} {S : Fr} (hd : S.d = zab (ent rows) S.is S.js) (hne : S.d ≠ 0) (hi : okI rows S.is) (hl : S.is.length = S.js.length) {j t : Nat} (h : Dep rows.length (ent rows) S.js j t) :
  (∀ i, i < rows.length -> S.d * ent rows i j = zag (fun k => zab (ent rows) S.is (S.js.set k j) * ent rows i (S.js.getD k 0)) S.js.length) /\ ∀ k, t <= k -> k < S.js.length -> zab (ent rows) S.is (S.js.set k j) = 0 := by
 obtain ⟨D, c, h1, h2, h3⟩ := h
 have hR : ∀ k, k < S.js.length -> D * zab (ent rows) S.is (S.js.set k j) = c k * S.d := fun k hk => by
  have hlen : S.is.length = (S.js.take k ++ j :: S.js.drop (k + 1)).length := by simp; omega
  have e1 := zhE (e := ent rows) (D := D) (b := j) (m := S.js.length) (c := c) (a := fun l => S.js.getD l 0) hlen fun i hii => h3 i (hi i hii)
  rw [<- zcr hk] at e1
  have e2 : zag (fun l => c l * zab (ent rows) S.is (S.js.take k ++ S.js.getD l 0 :: S.js.drop (k + 1))) S.js.length = zag (fun l => c l * (if k = l then S.d else 0)) S.js.length := zac fun l hll => by
   rw [<- zcr hk, ze8 hl hk hll, hd]
  rw [e1, e2, zbe (k := k) hk fun t _ ht => by rw [if_neg (Ne.symm ht), Int.mul_zero], if_pos rfl]
 refine ⟨fun i hii => ?_, fun k hk1 hk2 => ?_⟩
 ·have e1 : D * (S.d * ent rows i j) = D * zag (fun k => zab (ent rows) S.is (S.js.set k j) * ent rows i (S.js.getD k 0)) S.js.length := by
   have e2 : D * (S.d * ent rows i j) = S.d * (D * ent rows i j) := by grind
   rw [e2, h3 i hii, <- zaG, <- zaG]
   refine zac fun k hk => ?_
   have := hR k hk
   grind
  exact Int.eq_of_mul_eq_mul_left h1 e1
 ·have := hR k hk2;rw [h2 k hk1, Int.zero_mul] at this
  rcases Int.mul_eq_zero.1 this with h | h
  ·exact absurd h h1
  ·exact h
theorem zjd {rows : List (List Int)} {ord : List Nat} (h6 : ∀ j, j < 6 -> ∃ p, p < ord.length /\ ord.getD p 0 = j) : Crm rows (frame rows ord ord.length) := by
 obtain ⟨hok, hdep⟩ := zbY (rows := rows) (ord := ord) (Nat.le_refl _);refine ⟨fun i j hi hj => ?_⟩;obtain ⟨p, hp, rfl⟩ := h6 j hj;exact ((hdep p hp).2.cramer hok.d hok.ne hok.i hok.len).1 i hi
theorem zi7 {rows : List (List Int)} {ord : List Nat} (ho : ord.Nodup) {p : Nat} (hp : p < ord.length) {k : Nat} (hk : k < (frame rows ord ord.length).js.length) (hpos : ∀ q, q < ord.length -> ord.getD q 0 = (frame rows ord ord.length).js.getD k 0 -> p < q) :
  zab (ent rows) (frame rows ord ord.length).is ((frame rows ord ord.length).js.set k (ord.getD p 0)) = 0 := by
 obtain ⟨hok, hdep⟩ := zbY (rows := rows) (ord := ord) (Nat.le_refl _);obtain ⟨h1, h2⟩ := hdep p hp;refine (h2.cramer hok.d hok.ne hok.i hok.len).2 k ?_ hk;apply Decidable.byContradiction;intro hlt;obtain ⟨hok2, _⟩ := zbY (rows := rows) (ord := ord) (k := p + 1) (by omega)
 have hlt' : k < (frame rows ord (p + 1)).js.length := by omega
 have e : (frame rows ord ord.length).js.getD k 0 = (frame rows ord (p + 1)).js.getD k 0 := by
  obtain ⟨t, ht⟩ := h1;rw [<- ht, List.getD_eq_getElem?_getD, List.getElem?_append_left hlt', <- List.getD_eq_getElem?_getD]
 have hm : (frame rows ord (p + 1)).js.getD k 0 ∈ ord.take (p + 1) := hok2.sub.subset (zbg hlt');obtain ⟨q, hq, hqe⟩ := List.mem_iff_getElem.1 hm;rw [List.length_take] at hq;rw [List.getElem_take] at hqe;have := hpos q (by omega) (by rw [e, <- hqe, List.getD_eq_getElem?_getD, List.getElem?_eq_getElem (by omega)]; rfl);omega
theorem zrk : ∀ j, j < 6 -> ∃ p, p < ([0, 1, 2, 3, 4, 5] : List Nat).length /\ ([0, 1, 2, 3, 4, 5] : List Nat).getD p 0 = j := by decide
theorem zrj : ∀ j, j < 6 -> ∃ p, p < ([5, 4, 3, 2, 1, 0] : List Nat).length /\ ([5, 4, 3, 2, 1, 0] : List Nat).getD p 0 = j := by decide
theorem znU (rows : List (List Int)) : Crm rows (zbx rows) := zjd zrk
theorem zrU (rows : List (List Int)) : Crm rows (zhj rows) := zjd zrj
theorem zqo : ∀ q, q < 6 -> ([0, 1, 2, 3, 4, 5] : List Nat).getD q 0 = q := by decide
theorem zp4 : ∀ q, q < 6 -> ([5, 4, 3, 2, 1, 0] : List Nat).getD q 0 = 5 - q := by decide
theorem zrp {rows : List (List Int)} {j k : Nat} (hk : k < (zbx rows).js.length) (hj : j < (zbx rows).js.getD k 0) (hj6 : j < 6) : zab (ent rows) (zbx rows).is ((zbx rows).js.set k j) = 0 := by
 have := zi7 (rows := rows) (ord := [0, 1, 2, 3, 4, 5]) (by decide) (p := j) hj6 hk fun q hq he => by
  rw [zqo q hq] at he;have : (zbx rows).js.getD k 0 = q := he.symm;omega
 rwa [zqo j hj6] at this
theorem zrs {rows : List (List Int)} {j k : Nat} (hk : k < (zhj rows).js.length) (hj : (zhj rows).js.getD k 0 < j) (hj6 : j < 6) : zab (ent rows) (zhj rows).is ((zhj rows).js.set k j) = 0 := by
 have := zi7 (rows := rows) (ord := [5, 4, 3, 2, 1, 0]) (by decide) (p := 5 - j) (by show 5 - j < 6; omega) hk fun q hq he => by
  have hq6 : q < 6 := hq;rw [zp4 q hq6] at he;have : (zhj rows).js.getD k 0 = 5 - q := he.symm;omega
 rwa [zp4 (5 - j) (by omega), show 5 - (5 - j) = j by omega] at this
theorem zgy {a b : List Nat} (hn : a.Nodup) (h : ∀ x ∈ a, x ∈ b) : a.length <= b.length := by
 induction a generalizing b with
 | nil => simp
 | cons x a ih =>
  obtain ⟨hx, ha⟩ := List.nodup_cons.1 hn;obtain ⟨s, t, rfl⟩ := List.append_of_mem (h x (by simp))
  have := ih (b := s ++ t) ha fun y hy => by
   have h1 := h y (by simp [hy])
   have h2 : y ≠ x := fun e => hx (e ▸ hy)
   rw [List.mem_append, List.mem_cons] at h1;rw [List.mem_append]
   rcases h1 with h | h | h
   ·exact .inl h
   ·exact absurd h h2
   ·exact .inr h
  simp at this ⊢;omega
theorem zlq {rows : List (List Int)} {S : Fr} (hC : Crm rows S) (hne : S.d ≠ 0) {is : List Nat} (hi : okI rows is) : ∀ {post pre : List Nat}, is.length = (pre ++ post).length -> (∀ x ∈ pre, x ∈ S.js) -> (∀ x ∈ post, x < 6) -> S.js.length < (pre ++ post).length -> zab (ent rows) is (pre ++ post) = 0
 | [], pre, hl, hp, _, hlt => by
  rw [List.append_nil] at hl hlt ⊢
  refine zdW hl fun hn => ?_
  have := zgy hn hp
  omega
 | b :: post, pre, hl, hp, hb, hlt => by
  have h1 := zhE (e := ent rows) (D := S.d) (b := b) (m := S.js.length) (c := fun k => zab (ent rows) S.is (S.js.set k b)) (a := fun k => S.js.getD k 0) hl fun i hii => hC.eq i b (hi i hii) (hb b (by simp))
  have h2 : zag (fun l => zab (ent rows) S.is (S.js.set l b) * zab (ent rows) is (pre ++ S.js.getD l 0 :: post)) S.js.length = zag (fun _ => 0) S.js.length := zac fun k hk => by
   have := zlq hC hne hi (post := post) (pre := pre ++ [S.js.getD k 0]) (by simp at hl ⊢; omega) (fun x hx => by
    rw [List.mem_append, List.mem_singleton] at hx
    rcases hx with hx | rfl
    ·exact hp x hx
    ·exact zbg hk) (fun x hx => hb x (by simp [hx])) (by simp at hlt ⊢; omega)
   rw [List.append_assoc] at this;rw [show pre ++ S.js.getD k 0 :: post = pre ++ ([S.js.getD k 0] ++ post) from rfl, this, Int.mul_zero]
  rw [h2, za7] at h1
  rcases Int.mul_eq_zero.1 h1 with h | h
  ·exact absurd h hne
  ·exact h
theorem zpF {js : List Nat} (h : okJ js) : (zam js).length + js.length = 6 := by
 have h1 : (([0, 1, 2, 3, 4, 5] : List Nat).filter fun v => decide (v ∈ js)).length = js.length := by
  have a1 := zgy (a := ([0, 1, 2, 3, 4, 5] : List Nat).filter fun v => decide (v ∈ js)) (b := js) (List.Nodup.sublist List.filter_sublist (by decide)) fun x hx => by simpa using (List.mem_filter.1 hx).2
  have a2 := zgy (a := js) (b := ([0, 1, 2, 3, 4, 5] : List Nat).filter fun v => decide (v ∈ js)) h.1 fun x hx => List.mem_filter.2 ⟨by
   have := h.2 x hx;simp only [List.mem_cons, List.not_mem_nil, or_false]
   omega, by simpa using hx⟩
  omega
 have h2 : ∀ (p : Nat -> Bool) (l : List Nat), (l.filter fun v => !p v).length + (l.filter p).length = l.length := fun p l => by
  induction l with
  | nil => rfl
  | cons x l ih =>
   cases hp : p x
   ·rw [List.filter_cons_of_pos (by simp [hp]), List.filter_cons_of_neg (by simp [hp])];simp only [List.length_cons];omega
   ·rw [List.filter_cons_of_neg (by simp [hp]), List.filter_cons_of_pos (by simp [hp])];simp only [List.length_cons];omega
 have h3 := h2 (fun v => decide (v ∈ js)) [0, 1, 2, 3, 4, 5];have e : ([0, 1, 2, 3, 4, 5] : List Nat).length = 6 := rfl;have e2 : (zam js).length = (([0, 1, 2, 3, 4, 5] : List Nat).filter fun v => !decide (v ∈ js)).length := rfl;omega
theorem ziT {rows : List (List Int)} (hv : VM rows) (h6 : ∀ i, i < rows.length -> (rw_ rows i).length = 6) : FrB rows (zbx rows) := (zbY (rows := rows) (ord := [0, 1, 2, 3, 4, 5]) (k := 6) (Nat.le_refl _)).1.toB hv h6 zhg (by decide)
theorem zsA {rows : List (List Int)} (hv : VM rows) (h6 : ∀ i, i < rows.length -> (rw_ rows i).length = 6) : FrB rows (zhj rows) := (zbY (rows := rows) (ord := [5, 4, 3, 2, 1, 0]) (k := 6) (Nat.le_refl _)).1.toB hv h6 zj5 (by decide)
inductive Sp (N : Nat) (S : (Nat -> Int) -> Prop) : (Nat -> Int) -> Prop
 | gen {v : Nat -> Int} : S v -> Sp N S v
 | zero {v : Nat -> Int} : (∀ j, j < N -> v j = 0) -> Sp N S v
 | add {u v w : Nat -> Int} : Sp N S v -> Sp N S w -> (∀ j, j < N -> u j = v j + w j) -> Sp N S u
 | neg {u v : Nat -> Int} : Sp N S v -> (∀ j, j < N -> u j = -v j) -> Sp N S u
theorem Sp.of_eq {N : Nat} {S : (Nat -> Int) -> Prop} {v w : Nat -> Int} (h : Sp N S v) (he : ∀ j, j < N -> w j = v j) : Sp N S w := .add h (.zero (v := fun _ => 0) fun _ _ => rfl) fun j hj => by rw [he j hj, Int.add_zero]
theorem Sp.mono {N : Nat} {S S' : (Nat -> Int) -> Prop} (h : ∀ g, S g -> Sp N S' g) {v : Nat -> Int} (hv : Sp N S v) : Sp N S' v := by
 induction hv with
 | gen hg => exact h _ hg
 | zero hz => exact .zero hz
 | add _ _ he i1 i2 => exact .add i1 i2 he
 | neg _ he i1 => exact .neg i1 he
theorem Sp.sub {N : Nat} {S : (Nat -> Int) -> Prop} {u v w : Nat -> Int} (hv : Sp N S v) (hw : Sp N S w) (he : ∀ j, j < N -> u j = v j - w j) : Sp N S u :=
 .add hv (.neg (u := fun j => -w j) hw fun j _ => rfl) fun j hj => by rw [he j hj]; rfl
theorem Sp.nsmul {N : Nat} {S : (Nat -> Int) -> Prop} {v : Nat -> Int} (hv : Sp N S v) : ∀ k : Nat, Sp N S fun j => (k : Int) * v j
 | 0 => .zero fun j _ => by simp
 | k + 1 => .add (Sp.nsmul hv k) hv fun j _ => by
  rw [Int.natCast_add, Int.add_mul];simp
theorem Sp.smul {N : Nat} {S : (Nat -> Int) -> Prop} {u v : Nat -> Int} (hv : Sp N S v) (c : Int) (he : ∀ j, j < N -> u j = c * v j) : Sp N S u := by
 rcases Int.le_total 0 c with h | h
 ·exact (hv.nsmul c.toNat).of_eq fun j hj => by rw [he j hj, Int.toNat_of_nonneg h]
 ·refine .neg (hv.nsmul (-c).toNat) fun j hj => ?_
  rw [he j hj, Int.toNat_of_nonneg (by omega), Int.neg_mul, Int.neg_neg]
theorem Sp.sum {N m : Nat} {S : (Nat -> Int) -> Prop} {f : Nat -> Nat -> Int} {c : Nat -> Int} {u : Nat -> Int} (h : ∀ i, i < m -> Sp N S (f i)) (he : ∀ j, j < N -> u j = zag (fun i => c i * f i j) m) : Sp N S u := by
 have key : ∀ k, k <= m -> Sp N S fun j => zag (fun i => c i * f i j) k := fun k => by
  induction k with
  | zero => exact fun _ => .zero fun j _ => rfl
  | succ k ih => exact fun hk => .add (ih (by omega)) ((h k (by omega)).smul (c k) (u := fun j => c k * f k j) fun _ _ => rfl) fun j _ => rfl
 exact (key m (Nat.le_refl _)).of_eq he
def zbv (e : Nat -> Nat -> Int) (m : Nat) (g : Nat -> Int) : Prop := ∃ i, i < m /\ g = e i
theorem Sp.row {N m : Nat} {e : Nat -> Nat -> Int} {i : Nat} (hi : i < m) : Sp N (zbv e m) (e i) := .gen ⟨i, hi, rfl⟩
theorem Sp.coef {N m : Nat} {e : Nat -> Nat -> Int} {v : Nat -> Int} (h : Sp N (zbv e m) v) : ∃ c : Nat -> Int, ∀ j, j < N -> v j = zag (fun i => c i * e i j) m := by
 induction h with
 | gen hg =>
  obtain ⟨i, hi, rfl⟩ := hg;refine ⟨fun k => if k = i then 1 else 0, fun j _ => ?_⟩
  rw [zbe (k := i) hi fun t _ ht => by
   show (if t = i then (1 : Int) else 0) * e t j = 0
   rw [if_neg ht, Int.zero_mul]]
  show e i j = (if i = i then (1 : Int) else 0) * e i j
  rw [if_pos rfl, Int.one_mul]
 | zero hz => exact ⟨fun _ => 0, fun j hj => by rw [hz j hj]; simp only [Int.zero_mul]; exact (za7 m).symm⟩
 | add _ _ he i1 i2 =>
  obtain ⟨c1, h1⟩ := i1;obtain ⟨c2, h2⟩ := i2;refine ⟨fun k => c1 k + c2 k, fun j hj => ?_⟩;rw [he j hj, h1 j hj, h2 j hj, <- zcf]
  exact zac fun k _ => (Int.add_mul _ _ _).symm
 | neg _ he i1 =>
  obtain ⟨c1, h1⟩ := i1;refine ⟨fun k => -c1 k, fun j hj => ?_⟩;rw [he j hj, h1 j hj, <- zbC]
  exact zac fun k _ => (Int.neg_mul _ _).symm
theorem Sp.of_coef {N m : Nat} {e : Nat -> Nat -> Int} {v : Nat -> Int} {c : Nat -> Int} (h : ∀ j, j < N -> v j = zag (fun i => c i * e i j) m) : Sp N (zbv e m) v := Sp.sum (fun i hi => Sp.row hi) h
structure TF (N : Nat) (h : Nat -> Nat -> Int) (m : Nat) (p : Nat -> Nat) : Prop where
 plt : ∀ i, i < m -> p i < N
 up : ∀ i k, i < k -> k < m -> p i < p k
 pos : ∀ i, i < m -> 0 < h i (p i)
 zero : ∀ i, i < m -> ∀ j, j < p i -> h i j = 0
structure HF (N : Nat) (h : Nat -> Nat -> Int) (m : Nat) (p : Nat -> Nat) : Prop extends TF N h m p where
 red : ∀ i k, i < k -> k < m -> 0 <= h i (p k) /\ h i (p k) < h k (p k)
theorem TF.lead {N m : Nat} {h : Nat -> Nat -> Int} {p : Nat -> Nat} (hT : TF N h m p) {c : Nat -> Int} {k : Nat} (hk : k < m) (hc : ∀ i, i < k -> c i = 0) : zag (fun i => c i * h i (p k)) m = c k * h k (p k) :=
 zbe hk fun t ht hne => by
  by_cases hlt : t < k
  ·rw [hc t hlt, Int.zero_mul]
  ·rw [hT.zero t ht (p k) (hT.up k t (by omega) ht), Int.mul_zero]
theorem TF.coef0 {N m : Nat} {h : Nat -> Nat -> Int} {p : Nat -> Nat} (hT : TF N h m p) {v c : Nat -> Int} (hv : ∀ j, j < N -> v j = zag (fun i => c i * h i j) m) {t : Nat} (ht : ∀ i, i < t -> i < m -> v (p i) = 0) : ∀ i, i < t -> i < m -> c i = 0 := by
 intro i
 induction i using Nat.strongRecOn with
 | ind i ih =>
  intro hi him;have h1 := ht i hi him;rw [hv _ (hT.plt i him), hT.lead him fun k hk => ih k hk (by omega) (by omega)] at h1
  rcases Int.mul_eq_zero.1 h1 with h | h
  ·exact h
  ·have := hT.pos i him; omega
def zb0 (d : Int) (j : Nat) : Nat -> Int := fun t => if t = j then d else 0
def gtP (e : Nat -> Nat -> Int) (i n : Nat) (g : Nat -> Int) : Prop := ∃ k, i < k /\ k < n /\ g = e k
def SV (e : Nat -> Nat -> Int) (n : Nat) (w : Nat -> Int) (g : Nat -> Int) : Prop := zbv e n g \/ g = w
def Tri (e : Nat -> Nat -> Int) (n : Nat) : Prop := TF n e n id
theorem Tri.mk {e : Nat -> Nat -> Int} {n : Nat} (h1 : ∀ i, i < n -> 0 < e i i) (h2 : ∀ i j, i < n -> j < i -> e i j = 0) : Tri e n := ⟨fun i hi => hi, fun i k h _ => h, h1, fun i hi j hj => h2 i j hi hj⟩
def Full (e : Nat -> Nat -> Int) (n : Nat) (d : Int) : Prop := ∀ j, j < n -> Sp n (zbv e n) (zb0 d j)
theorem Tri.gt_of {e : Nat -> Nat -> Int} {n i : Nat} (hT : Tri e n) {v : Nat -> Int} (hv : Sp n (zbv e n) v) (h0 : ∀ j, j <= i -> j < n -> v j = 0) : Sp n (gtP e i n) v := by
 obtain ⟨c, hc⟩ := hv.coef
 have hz := hT.coef0 hc (t := i + 1) fun k hk hkn => h0 k (by omega) hkn
 refine Sp.sum (f := fun k => if i < k then e k else fun _ => 0) (c := c) (m := n) (fun k hk => ?_) fun j hj => ?_
 ·split
  ·rename_i h;exact .gen ⟨k, h, hk, rfl⟩
  ·exact .zero fun _ _ => rfl
 ·rw [hc j hj]
  refine zac fun k hk => ?_
  by_cases h : i < k
  ·rw [if_pos h]
  ·rw [if_neg h, hz k (by omega) hk];simp
theorem Full.gt {e : Nat -> Nat -> Int} {n i : Nat} {d : Int} (hT : Tri e n) (hF : Full e n d) {z : Nat -> Int} (h0 : ∀ j, j <= i -> j < n -> z j = 0) (hz : ∀ j, i < j -> j < n -> ∃ y, z j = d * y) : Sp n (gtP e i n) z := by
 have hex : ∃ y : Nat -> Int, ∀ j, i < j -> j < n -> z j = d * y j := by
  refine ⟨fun j => if h : i < j /\ j < n then (hz j h.1 h.2).choose else 0, fun j h1 h2 => ?_⟩;simp only [h1, h2, and_self, dite_true];exact (hz j h1 h2).choose_spec
 obtain ⟨y, hy⟩ := hex
 refine Sp.sum (f := fun k => if i < k then zb0 d k else fun _ => 0) (c := y) (m := n) (fun k hk => ?_) fun j hj => ?_
 ·split
  ·rename_i h
   exact hT.gt_of (hF k hk) fun j h1 h2 => if_neg (by omega)
  ·exact .zero fun _ _ => rfl
 ·by_cases h : i < j
  ·rw [zbe (k := j) hj fun t ht hne => by
    show y t * (if i < t then zb0 d t else fun _ => 0) j = 0
    split
    ·have : zb0 d t j = 0 := if_neg (Ne.symm hne);rw [this, Int.mul_zero]
    ·exact Int.mul_zero _]
   show z j = y j * (if i < j then zb0 d j else fun _ => 0) j
   rw [if_pos h, hy j h hj]
   show _ = y j * (if j = j then d else 0)
   rw [if_pos rfl, Int.mul_comm]
  ·rw [h0 j (by omega) hj];symm
   have : zag (fun t => y t * (if i < t then zb0 d t else fun _ => 0) j) n = zag (fun _ => 0) n := by
    refine zac fun t ht => ?_
    split
    ·have : zb0 d t j = 0 := if_neg (by omega);rw [this, Int.mul_zero]
    ·exact Int.mul_zero _
   rw [this, za7]
theorem zsG {e : Nat -> Nat -> Int} {n i : Nat} {w v : Nat -> Int} (h : Sp n (gtP e i n) v) : Sp n (SV e n w) v := h.mono fun g ⟨k, _, hk, he⟩ => .gen (.inl ⟨k, hk, he⟩)
theorem znu {e : Nat -> Nat -> Int} {n i : Nat} {v : Nat -> Int} (h : Sp n (gtP e i n) v) : Sp n (zbv e n) v := h.mono fun g ⟨k, _, hk, he⟩ => .gen ⟨k, hk, he⟩
theorem zj7 {e e' : Nat -> Nat -> Int} {n i : Nat} (hs : ∀ k, i < k -> k < n -> ∀ j, j < n -> e' k j = e k j) {v : Nat -> Int} (h : Sp n (gtP e i n) v) : Sp n (gtP e' i n) v := h.mono fun g ⟨k, h1, h2, he⟩ => by
 subst he
 exact Sp.of_eq (.gen ⟨k, h1, h2, rfl⟩) fun j hj => (hs k h1 h2 j hj).symm
theorem zk2 {e e' : Nat -> Nat -> Int} {n i : Nat} {w w' z z' : Nat -> Int} {A B C E : Int} (hi : i < n) (hs : ∀ k, k < n -> k ≠ i -> ∀ j, j < n -> e' k j = e k j) (hh : ∀ j, j < n -> e' i j = A * e i j + B * w j + z j) (hw : ∀ j, j < n -> w' j = C * e i j + E * w j + z' j) (gz : Sp n (gtP e i n) z) (gz' : Sp n (gtP e i n) z') {g : Nat -> Int} (hg : Sp n (SV e' n w') g) : Sp n (SV e n w) g := by
 have hr : Sp n (SV e n w) (e i) := .gen (.inl ⟨i, hi, rfl⟩);have hv : Sp n (SV e n w) w := .gen (.inr rfl)
 refine hg.mono fun g hg => ?_
 rcases hg with ⟨k, hk, rfl⟩ | rfl
 ·by_cases hki : k = i
  ·subst hki;exact .add (.add (hr.smul A (u := fun j => A * e k j) fun _ _ => rfl) (hv.smul B (u := fun j => B * w j) fun _ _ => rfl) (u := fun j => A * e k j + B * w j) fun _ _ => rfl) (zsG gz) hh
  ·exact Sp.of_eq (.gen (.inl ⟨k, hk, rfl⟩)) fun j hj => hs k hk hki j hj
 ·exact .add (.add (hr.smul C (u := fun j => C * e i j) fun _ _ => rfl) (hv.smul E (u := fun j => E * w j) fun _ _ => rfl) (u := fun j => C * e i j + E * w j) fun _ _ => rfl) (zsG gz') hw
theorem zpl {e e' : Nat -> Nat -> Int} {n i : Nat} {w w' z z' : Nat -> Int} {A B C E s : Int} (hi : i < n) (hs : ∀ k, k < n -> k ≠ i -> ∀ j, j < n -> e' k j = e k j) (hh : ∀ j, j < n -> e' i j = A * e i j + B * w j + z j) (hw : ∀ j, j < n -> w' j = C * e i j + E * w j + z' j) (gz : Sp n (gtP e i n) z) (gz' : Sp n (gtP e i n) z') (hdet : s * (A * E - B * C) = 1) (g : Nat -> Int) : Sp n (SV e' n w') g ↔ Sp n (SV e n w) g := by
 refine ⟨zk2 hi hs hh hw gz gz', ?_⟩
 have q : ∀ {z : Nat -> Int}, Sp n (gtP e i n) z -> Sp n (gtP e' i n) z := fun h => zj7 (fun k h1 h2 j hj => hs k h2 (by omega) j hj) h
 refine zk2 (e := e') (e' := e) (w := w') (w' := w) (z := fun j => -(s * (E * z j - B * z' j))) (z' := fun j => -(s * (A * z' j - C * z j))) (A := s * E) (B := -(s * B)) (C := -(s * C)) (E := s * A) hi (fun k hk hki j hj => (hs k hk hki j hj).symm) (fun j hj => ?_) (fun j hj => ?_) ?_ ?_
 ·rw [hh j hj, hw j hj]
  grind
 ·rw [hh j hj, hw j hj]
  grind
 ·exact .neg ((Sp.sub ((q gz).smul E (u := fun j => E * z j) fun _ _ => rfl) ((q gz').smul B (u := fun j => B * z' j) fun _ _ => rfl) (u := fun j => E * z j - B * z' j) fun _ _ => rfl).smul s (u := fun j => s * (E * z j - B * z' j)) fun _ _ => rfl) fun _ _ => rfl
 ·exact .neg ((Sp.sub ((q gz').smul A (u := fun j => A * z' j) fun _ _ => rfl) ((q gz).smul C (u := fun j => C * z j) fun _ _ => rfl) (u := fun j => A * z' j - C * z j) fun _ _ => rfl).smul s (u := fun j => s * (A * z' j - C * z j)) fun _ _ => rfl) fun _ _ => rfl
theorem zer {v : List Int} {j k : Nat} {x : Int} (h : j < v.length) : (v.set j x).getD k 0 = if k = j then x else v.getD k 0 := by
 by_cases e : k = j
 ·subst e; rw [if_pos rfl, zaD h]
 ·rw [if_neg e, zay (Ne.symm e)]
theorem zla {n i : Nat} {q d : Int} (hd : 0 < d) (hd9 : d <= 1000000000) {R : List (List Int)} {v : List Int} (h : LB R n d) (hv : VC v n) : ∀ t, i + 1 + t <= n ->
  (∀ k j, ent (addJ R v i q d t).1 k j = if k = i /\ i < j /\ j < i + 1 + t then v.getD j 0 % d else ent R k j) /\ ∀ j, (addJ R v i q d t).2.getD j 0 = if i < j /\ j < i + 1 + t then (ent R i j - q * (v.getD j 0 % d)) % d else v.getD j 0
 | 0, _ => ⟨fun k j => by rw [if_neg (by omega)]; rfl, fun j => by rw [if_neg (by omega)]; rfl⟩
 | t + 1, ht => by
  obtain ⟨i1, i2⟩ := zla (i := i) (q := q) hd hd9 h hv t (by omega);obtain ⟨b1, b2, _⟩ := LB.addJ (i := i) (q := q) hd hd9 (t := t) h hv (by omega);have e1 := i1 i (i + 1 + t);rw [if_neg (by omega)] at e1;have e2 := i2 (i + 1 + t);rw [if_neg (by omega)] at e2;refine ⟨fun k j => ?_, fun j => ?_⟩
  ·show ent (setE (addJ R v i q d t).1 i (i + 1 + t) _) k j = _
   rw [ze1 b1.len b1.row (by omega) (by omega), e2, i1]
   by_cases hc : k = i /\ j = i + 1 + t
   ·rw [if_pos hc, if_pos (by omega)];obtain ⟨_, rfl⟩ := hc;rfl
   ·rw [if_neg hc]
    by_cases hc2 : k = i /\ i < j /\ j < i + 1 + t
    ·rw [if_pos hc2, if_pos (by omega)]
    ·rw [if_neg hc2, if_neg (by omega)]
  ·show ((addJ R v i q d t).2.set (i + 1 + t) _).getD j 0 = _
   rw [zer (by rw [b2.1]; omega), e1, e2, i2]
   by_cases hc : j = i + 1 + t
   ·rw [if_pos hc, if_pos (by omega)];subst hc;rfl
   ·rw [if_neg hc]
    by_cases hc2 : i < j /\ j < i + 1 + t
    ·rw [if_pos hc2, if_pos (by omega)]
    ·rw [if_neg hc2, if_neg (by omega)]
theorem zkR {n i k : Nat} {q d : Int} (hd : 0 < d) (hik : i < k) {R : List (List Int)} (h : LB R n d) (hi : i < n) : ∀ t, k + 1 + t <= n ->
  ∀ r j, ent (redJ R i k q d t) r j = if r = i /\ k < j /\ j < k + 1 + t then (ent R i j - q * ent R k j) % d else ent R r j
 | 0, _, r, j => by rw [if_neg (by omega)]; rfl
 | t + 1, ht, r, j => by
  have i1 := zkR (q := q) hd hik h hi t (by omega);have b1 := LB.redJ (q := q) hd hik (t := t) h hi (by omega);have e1 := i1 i (k + 1 + t);rw [if_neg (by omega)] at e1;have e2 := i1 k (k + 1 + t);rw [if_neg (by omega)] at e2
  show ent (setE (redJ R i k q d t) i (k + 1 + t) _) r j = _
  rw [ze1 b1.len b1.row hi (by omega), e1, e2, i1]
  by_cases hc : r = i /\ j = k + 1 + t
  ·rw [if_pos hc, if_pos (by omega)];obtain ⟨_, rfl⟩ := hc;rfl
  ·rw [if_neg hc]
   by_cases hc2 : r = i /\ k < j /\ j < k + 1 + t
   ·rw [if_pos hc2, if_pos (by omega)]
   ·rw [if_neg hc2, if_neg (by omega)]
theorem zcF (x d : Int) : ∃ y, x % d = x + d * y := ⟨-(x / d), by
 have := Int.emod_add_mul_ediv x d;rw [Int.mul_neg]
 omega⟩
def zfh (i : Nat) (v : List Int) : Nat -> Int := fun j => if j < i then 0 else v.getD j 0
def geP (e : Nat -> Nat -> Int) (i n : Nat) (g : Nat -> Int) : Prop := ∃ k, i <= k /\ k < n /\ g = e k
theorem Tri.ge_of {e : Nat -> Nat -> Int} {n i : Nat} (hT : Tri e n) {v : Nat -> Int} (hv : Sp n (zbv e n) v) (h0 : ∀ j, j < i -> j < n -> v j = 0) : Sp n (geP e i n) v := by
 obtain ⟨c, hc⟩ := hv.coef
 have hz := hT.coef0 hc (t := i) fun k hk hkn => h0 k hk hkn
 refine Sp.sum (f := fun k => if i <= k then e k else fun _ => 0) (c := c) (m := n) (fun k hk => ?_) fun j hj => ?_
 ·split
  ·rename_i h;exact .gen ⟨k, h, hk, rfl⟩
  ·exact .zero fun _ _ => rfl
 ·rw [hc j hj]
  refine zac fun k hk => ?_
  by_cases h : i <= k
  ·rw [if_pos h]
  ·rw [if_neg h, hz k (by omega) hk];simp
def DZ (e : Nat -> Nat -> Int) (n i : Nat) (d : Int) : Prop := ∀ z : Nat -> Int, (∀ j, j <= i -> j < n -> z j = 0) -> (∀ j, i < j -> j < n -> ∃ y, z j = d * y) -> Sp n (gtP e i n) z
theorem DZ.same {e e' : Nat -> Nat -> Int} {n i : Nat} {d : Int} (h : DZ e n i d) (hs : ∀ k, i < k -> k < n -> ∀ j, j < n -> e' k j = e k j) : DZ e' n i d := fun z h1 h2 => zj7 hs (h z h1 h2)
theorem zo9 {n i : Nat} {d : Int} (hd : 0 < d) (hd9 : d <= 1000000000) {R : List (List Int)} {v : List Int} (h : LB R n d) (hv : VC v n) (hi : i < n) (h0 : 0 < v.getD i 0) (h1 : v.getD i 0 <= d) :
  (∀ k j, j < n -> ent (addT n R v d i).1 k j = if k = i /\ i < j then v.getD j 0 % d else if k = i /\ j = i then v.getD i 0 else ent R k j) /\
  ∀ j, j < n -> (addT n R v d i).2.getD j 0 = if i < j then (ent R i j - ent R i i / v.getD i 0 * (v.getD j 0 % d)) % d else if j = i then ent R i i % v.getD i 0 else v.getD j 0 := by
 have e1 := Int.emod_nonneg (ent R i i) (show v.getD i 0 ≠ 0 by omega);have e2 := Int.emod_lt_of_pos (ent R i i) h0;have hl := hv.1;obtain ⟨a1, a2⟩ := zla (i := i) (q := ent R i i / v.getD i 0) hd hd9 (h.setE hi hi (x := v.getD i 0) ⟨by omega, h1⟩ fun _ => h0) (hv.set hi (x := ent R i i % v.getD i 0) ⟨by omega, by omega⟩) (n - (i + 1)) (by omega)
 have b1 := fun k j => ze1 (x := v.getD i 0) (i' := k) (j' := j) h.len h.row hi hi
 have b2 := fun j => zer (k := j) (x := ent R i i % v.getD i 0) (show i < v.length by omega)
 refine ⟨fun k j hj => ?_, fun j hj => ?_⟩
 ·unfold addT;rw [a1, b1, b2]
  by_cases hc : k = i /\ i < j
  ·rw [if_pos (by omega), if_pos hc, if_neg (by omega)]
  ·rw [if_neg (by omega), if_neg hc]
 ·unfold addT;rw [a2, b1, b2]
  by_cases hc : i < j
  ·rw [if_pos (by omega), if_pos hc, if_neg (by omega), if_neg (by omega)]
  ·rw [if_neg (by omega), if_neg hc]
theorem zmt {n i : Nat} {d : Int} (hd : 0 < d) (hd9 : d <= 1000000000) {R : List (List Int)} {v : List Int} (h : LB R n d) (hv : VC v n) (hi : i < n) (h0 : 0 < v.getD i 0) (h1 : v.getD i 0 <= d) (hT : Tri (ent R) n) (hz : DZ (ent R) n i d) :
  Tri (ent (addT n R v d i).1) n /\ (∀ k, k ≠ i -> ∀ j, j < n -> ent (addT n R v d i).1 k j = ent R k j) /\ ∀ g, Sp n (SV (ent (addT n R v d i).1) n (zfh i (addT n R v d i).2)) g ↔ Sp n (SV (ent R) n (zfh i v)) g := by
 obtain ⟨a1, a2⟩ := zo9 hd hd9 h hv hi h0 h1
 have hrow : ∀ k, k ≠ i -> ∀ j, j < n -> ent (addT n R v d i).1 k j = ent R k j := fun k hk j hj => by
  rw [a1 k j hj, if_neg (by omega), if_neg (by omega)]
 refine ⟨Tri.mk (fun k hk => ?_) fun k j hk hj => ?_, hrow, ?_⟩
 ·rw [a1 k k hk, if_neg (by omega)]
  split
  ·exact h0
  ·exact hT.pos k hk
 ·rw [a1 k j (by omega), if_neg (by omega), if_neg (by omega)];exact hT.zero k hk j hj
 ·have hd2 := Int.emod_add_mul_ediv (ent R i i) (v.getD i 0);refine zpl (n := n) (i := i) (A := 0) (B := 1) (C := 1) (E := -(ent R i i / v.getD i 0)) (s := -1) (z := fun j => ent (addT n R v d i).1 i j - zfh i v j) (z' := fun j => zfh i (addT n R v d i).2 j - (ent R i j - ent R i i / v.getD i 0 * zfh i v j)) hi (fun k _ hk j hj => hrow k hk j hj) (fun j hj => by grind) (fun j hj => by grind) ?_ ?_ (by grind)
  ·refine hz _ (fun j hj hjn => ?_) fun j hj hjn => ?_
   ·show ent (addT n R v d i).1 i j - zfh i v j = 0
    rw [a1 i j hjn, if_neg (by omega)];unfold zfh
    by_cases e : j = i
    ·subst e; rw [if_pos ⟨rfl, rfl⟩, if_neg (by omega)]; omega
    ·rw [if_neg (by omega), if_pos (by omega), hT.zero i hi j (show j < i by omega)]; rfl
   ·show ∃ y, ent (addT n R v d i).1 i j - zfh i v j = d * y
    rw [a1 i j hjn, if_pos ⟨rfl, hj⟩];unfold zfh;rw [if_neg (by omega)];obtain ⟨y, hy⟩ := zcF (v.getD j 0) d;exact ⟨y, by omega⟩
  ·refine hz _ (fun j hj hjn => ?_) fun j hj hjn => ?_
   ·show zfh i (addT n R v d i).2 j - (ent R i j - ent R i i / v.getD i 0 * zfh i v j) = 0
    unfold zfh
    by_cases e : j = i
    ·subst e;rw [if_neg (by omega), if_neg (by omega), a2 j hjn, if_neg (by omega), if_pos rfl];rw [Int.mul_comm] at hd2;omega
    ·rw [if_pos (by omega), if_pos (by omega), hT.zero i hi j (show j < i by omega)];omega
   ·show ∃ y, zfh i (addT n R v d i).2 j - (ent R i j - ent R i i / v.getD i 0 * zfh i v j) = d * y
    unfold zfh;rw [if_neg (by omega), if_neg (by omega), a2 j hjn, if_pos hj];obtain ⟨y, hy⟩ := zcF (v.getD j 0) d;obtain ⟨y2, hy2⟩ := zcF (ent R i j - ent R i i / v.getD i 0 * (v.getD j 0 % d)) d;rw [hy2, hy];exact ⟨y2 - ent R i i / v.getD i 0 * y, by grind⟩
theorem zi9 {n i : Nat} {d : Int} (hd : 0 < d) (hd9 : d <= 1000000000) (hi : i < n) : ∀ {t : Nat} {R : List (List Int)} {v : List Int}, LB R n d -> VC v n -> 0 <= v.getD i 0 -> v.getD i 0 <= d -> (v.getD i 0).toNat <= t -> Tri (ent R) n -> DZ (ent R) n i d ->
  Tri (ent (addE n d i t R v).1) n /\ (∀ k, k ≠ i -> ∀ j, j < n -> ent (addE n d i t R v).1 k j = ent R k j) /\ ∀ g, Sp n (SV (ent (addE n d i t R v).1) n (zfh i (addE n d i t R v).2)) g ↔ Sp n (SV (ent R) n (zfh i v)) g
 | 0, R, v, h, hv, _, _, _, hT, _ => ⟨hT, fun _ _ _ _ => rfl, fun _ => Iff.rfl⟩
 | t + 1, R, v, h, hv, h0, h1, ht, hT, hz => by
  unfold addE
  by_cases hv0 : v.getD i 0 = 0
  ·rw [if_pos hv0];exact ⟨hT, fun _ _ _ _ => rfl, fun _ => Iff.rfl⟩
  ·rw [if_neg hv0];obtain ⟨a1, a2, a3, a4⟩ := LB.addT (n := n) hd hd9 h hv hi (by omega) h1;obtain ⟨b1, b2, b3⟩ := zmt hd hd9 h hv hi (by omega) h1 hT hz;obtain ⟨c1, c2, c3⟩ := zi9 hd hd9 hi (t := t) a1 a2 a3 (by omega) (by omega) b1 (hz.same fun k hk _ j hj => b2 k (by omega) j hj);exact ⟨c1, fun k hk j hj => by rw [c2 k hk j hj, b2 k hk j hj], fun g => (c3 g).trans (b3 g)⟩
theorem zt1 {e : Nat -> Nat -> Int} {n : Nat} {w w' u : Nat -> Int} {y : Int} (hu : Sp n (zbv e n) u) (hw : ∀ j, j < n -> w' j = w j + y * u j) (g : Nat -> Int) : Sp n (SV e n w') g ↔ Sp n (SV e n w) g := by
 have hu' : ∀ w, Sp n (SV e n w) u := fun w => hu.mono fun g hg => .gen (.inl hg)
 constructor
 ·refine fun hg => hg.mono fun g hg => ?_
  rcases hg with hg | rfl
  ·exact .gen (.inl hg)
  ·exact .add (.gen (.inr rfl)) ((hu' w).smul y (u := fun j => y * u j) fun _ _ => rfl) hw
 ·refine fun hg => hg.mono fun g hg => ?_
  rcases hg with hg | rfl
  ·exact .gen (.inl hg)
  ·exact Sp.sub (.gen (.inr rfl)) ((hu' w').smul y (u := fun j => y * u j) fun _ _ => rfl) fun j hj => by rw [hw j hj]; omega
structure CI (n : Nat) (d : Int) (R0 : List (List Int)) (v0 : List Int) (i : Nat) (R : List (List Int)) (v : List Int) : Prop where
 tri : Tri (ent R) n
 rows : ∀ k, i <= k -> k < n -> ∀ j, j < n -> ent R k j = ent R0 k j
 sp : ∀ g, Sp n (SV (ent R) n (zfh i v)) g ↔ Sp n (SV (ent R0) n (zfh 0 v0)) g
theorem CI.dz {n : Nat} {d : Int} {R0 R : List (List Int)} {v0 v : List Int} {i : Nat} (h : CI n d R0 v0 i R v) (hT : Tri (ent R0) n) (hF : Full (ent R0) n d) : DZ (ent R) n i d := DZ.same (fun z h1 h2 => hF.gt hT h1 h2) fun k hk hkn j hj => h.rows k (by omega) hkn j hj
theorem CI.unit {n : Nat} {d : Int} {R0 R : List (List Int)} {v0 v : List Int} {i : Nat} (h : CI n d R0 v0 i R v) (hT : Tri (ent R0) n) (hF : Full (ent R0) n d) (hi : i < n) : Sp n (zbv (ent R) n) (zb0 d i) := by
 refine (hT.ge_of (i := i) (hF i hi) fun j hj _ => if_neg (by omega)).mono fun g ⟨k, h1, h2, he⟩ => ?_
 subst he
 exact Sp.of_eq (Sp.row h2) fun j hj => (h.rows k h1 h2 j hj).symm
theorem zpt {n : Nat} {d : Int} {v : List Int} {i : Nat} (hl : v.length = n) (hi : i < n) : ∃ y : Int, ∀ j, j < n -> zfh i (v.set i (v.getD i 0 % d)) j = zfh i v j + y * zb0 d i j := by
 obtain ⟨y, hy⟩ := zcF (v.getD i 0) d;refine ⟨y, fun j hj => ?_⟩;unfold zfh zb0;rw [zer (by omega)]
 by_cases e : j = i
 ·subst e;rw [if_neg (by omega), if_pos rfl, if_neg (by omega), if_pos rfl, hy, Int.mul_comm y]
 ·rw [if_neg e, if_neg e]
  split <;> simp
theorem zq6 {n : Nat} {d : Int} {R0 R : List (List Int)} {v0 v : List Int} {i : Nat} (hd : 0 < d) (hd9 : d <= 1000000000) (hT0 : Tri (ent R0) n) (hF0 : Full (ent R0) n d) (hLB : LB R n d) (hVC : VC v n) (hi : i < n) (h : CI n d R0 v0 i R v) : CI n d R0 v0 (i + 1) (addS n R v d i).1 (addS n R v d i).2 := by
 have hm := zc9 (x := v.getD i 0) hd;have hl := hVC.1;have hg : (v.set i (v.getD i 0 % d)).getD i 0 = v.getD i 0 % d := zaD (by omega);have hV1 : VC (v.set i (v.getD i 0 % d)) n := hVC.set hi (x := v.getD i 0 % d) ⟨by omega, by omega⟩;obtain ⟨b1, b2, b3⟩ := zi9 (n := n) hd hd9 hi (t := (v.getD i 0 % d).toNat) hLB hV1 (by rw [hg]; omega) (by rw [hg]; omega) (by rw [hg]; omega) h.tri (h.dz hT0 hF0);obtain ⟨_, _, c3⟩ := LB.addE (n := n) hd hd9 hi (t := (v.getD i 0 % d).toNat) hLB hV1 (by rw [hg]; omega) (by rw [hg]; omega) (by rw [hg]; omega);obtain ⟨y, hy⟩ := zpt (d := d) hl hi;refine ⟨b1, fun k hk hkn j hj => ?_, fun g => ?_⟩
 ·show ent (addE n d i _ R _).1 k j = _
  rw [b2 k (by omega) j hj, h.rows k (by omega) hkn j hj]
 ·have e : zfh (i + 1) (addS n R v d i).2 = zfh i (addS n R v d i).2 := by
   funext j
   unfold zfh
   by_cases hj : j < i
   ·rw [if_pos (by omega), if_pos hj]
   ·by_cases hj2 : j = i
    ·subst hj2;rw [if_pos (by omega), if_neg (by omega)];exact c3.symm
    ·rw [if_neg (by omega), if_neg hj]
  rw [e];exact (b3 g).trans ((zt1 (h.unit hT0 hF0 hi) hy g).trans (h.sp g))
theorem CI.start {n : Nat} {d : Int} {R0 : List (List Int)} {v0 : List Int} (hT : Tri (ent R0) n) : CI n d R0 v0 0 R0 v0 := ⟨hT, fun _ _ _ _ _ => rfl, fun _ => Iff.rfl⟩
theorem znp {n : Nat} {d : Int} {R0 : List (List Int)} {v0 : List Int} (hd : 0 < d) (hd9 : d <= 1000000000) (hT0 : Tri (ent R0) n) (hF0 : Full (ent R0) n d) (hLB : LB R0 n d) (hVC : VC v0 n) : ∀ {i : Nat}, i <= n -> CI n d R0 v0 i (addI n R0 v0 d i).1 (addI n R0 v0 d i).2
 | 0, _ => CI.start hT0
 | i + 1, hi => by
  obtain ⟨h1, h2⟩ := LB.addI hd hd9 hLB hVC (i := i) (by omega);exact zq6 hd hd9 hT0 hF0 h1 h2 (by omega) (znp hd hd9 hT0 hF0 hLB hVC (i := i) (by omega))
theorem CI.done {n : Nat} {d : Int} {R0 R : List (List Int)} {v0 v : List Int} (h : CI n d R0 v0 n R v) (hF0 : Full (ent R0) n d) : Tri (ent R) n /\ Full (ent R) n d /\ ∀ g, Sp n (zbv (ent R) n) g ↔ Sp n (SV (ent R0) n (zfh 0 v0)) g := by
 have key : ∀ g, Sp n (zbv (ent R) n) g ↔ Sp n (SV (ent R0) n (zfh 0 v0)) g := fun g => by
  refine Iff.trans ⟨fun hg => hg.mono fun g hg => .gen (.inl hg), fun hg => hg.mono fun g hg => ?_⟩ (h.sp g)
  rcases hg with hg | rfl
  ·exact .gen hg
  ·exact .zero fun j hj => if_pos hj
 exact ⟨h.tri, fun j hj => (key _).2 ((hF0 j hj).mono fun g hg => .gen (.inl hg)), key⟩
theorem ztt {e : Nat -> Nat -> Int} {n i : Nat} (hT : Tri e n) {u : Nat -> Int} (h : Sp n (gtP e i n) u) : ∀ j, j <= i -> j < n -> u j = 0 := by
 induction h with
 | gen hg =>
  obtain ⟨k, h1, h2, rfl⟩ := hg
  exact fun j hj _ => hT.zero k h2 j (show j < k by omega)
 | zero hz => exact fun j _ hj => hz j hj
 | add _ _ he i1 i2 => exact fun j h1 h2 => by rw [he j h2, i1 j h1 h2, i2 j h1 h2]; rfl
 | neg _ he i1 => exact fun j h1 h2 => by rw [he j h2, i1 j h1 h2]; rfl
theorem zo4 {e e' : Nat -> Nat -> Int} {n i : Nat} {u : Nat -> Int} (hT : Tri e n) (hi : i < n) (hs : ∀ k, k < n -> k ≠ i -> ∀ j, j < n -> e' k j = e k j) (hh : ∀ j, j < n -> e' i j = e i j + u j) (hu : Sp n (gtP e i n) u) : Tri e' n /\ ∀ g, Sp n (zbv e' n) g ↔ Sp n (zbv e n) g := by
 have hlow := ztt hT hu;refine ⟨Tri.mk (fun k hk => ?_) fun k j hk hj => ?_, fun g => ⟨fun hg => hg.mono ?_, fun hg => hg.mono ?_⟩⟩
 ·by_cases e1 : k = i
  ·subst e1; rw [hh k hk, hlow k (Nat.le_refl _) hk, Int.add_zero]; exact hT.pos k hk
  ·rw [hs k hk e1 k hk]; exact hT.pos k hk
 ·by_cases e1 : k = i
  ·subst e1; rw [hh j (by omega), hlow j (by omega) (by omega), Int.add_zero]; exact hT.zero k hk j hj
  ·rw [hs k hk e1 j (by omega)]; exact hT.zero k hk j hj
 ·rintro g ⟨k, hk, rfl⟩
  by_cases e1 : k = i
  ·subst e1; exact .add (Sp.row hk) (znu hu) hh
  ·exact Sp.of_eq (Sp.row hk) fun j hj => hs k hk e1 j hj
 ·rintro g ⟨k, hk, rfl⟩;have hu' : Sp n (zbv e' n) u := znu (zj7 (fun k h1 h2 j hj => hs k h2 (by omega) j hj) hu)
  by_cases e1 : k = i
  ·subst e1; exact Sp.sub (Sp.row hk) hu' fun j hj => by rw [hh j hj]; omega
  ·exact Sp.of_eq (Sp.row hk) fun j hj => (hs k hk e1 j hj).symm
theorem Full.iff {e e' : Nat -> Nat -> Int} {n : Nat} {d : Int} (h : Full e n d) (hs : ∀ g, Sp n (zbv e' n) g ↔ Sp n (zbv e n) g) : Full e' n d := fun j hj => (hs _).2 (h j hj)
structure RK (n : Nat) (d : Int) (R0 R : List (List Int)) (i t : Nat) : Prop where
 lb : LB R n d
 tri : Tri (ent R) n
 full : Full (ent R) n d
 same : ∀ k, k < n -> k ≠ i -> ∀ j, j < n -> ent R k j = ent R0 k j
 sp : ∀ g, Sp n (zbv (ent R) n) g ↔ Sp n (zbv (ent R0) n) g
 red : ∀ k, i < k -> k < i + 1 + t -> 0 <= ent R i k /\ ent R i k < ent R k k
theorem zmE {n i : Nat} {d : Int} {R : List (List Int)} (hd : 0 < d) (h : LB R n d) (hT : Tri (ent R) n) (hF : Full (ent R) n d) : ∀ t, i + 1 + t <= n -> RK n d R (redK n R i d t) i t
 | 0, _ => ⟨h, hT, hF, fun _ _ _ _ _ => rfl, fun _ => Iff.rfl, fun k h1 h2 => by omega⟩
 | t + 1, ht => by
  have ih := zmE (i := i) hd h hT hF t (by omega);have hlb := LB.redK (i := i) hd (t := t + 1) h (by omega);generalize hS : redK n R i d t = S at *;obtain ⟨b1, b2, b3, b4, b5, b6⟩ := ih
  have hR : redK n R i d (t + 1) = redJ (setE S i (i + 1 + t) (ent S i (i + 1 + t) % ent S (i + 1 + t) (i + 1 + t))) i (i + 1 + t) (ent S i (i + 1 + t) / ent S (i + 1 + t) (i + 1 + t)) d (n - (i + 1 + t) - 1) := by
   show redJ (setE (redK n R i d t) i (i + 1 + t) (ent (redK n R i d t) i (i + 1 + t) % ent (redK n R i d t) (i + 1 + t) (i + 1 + t))) i (i + 1 + t) (ent (redK n R i d t) i (i + 1 + t) / ent (redK n R i d t) (i + 1 + t) (i + 1 + t)) d (n - (i + 1 + t) - 1) = _
   rw [hS]
  have hp := b1.diag (i + 1 + t) (by omega);have he := b1.el (i + 1 + t) (i + 1 + t) (by omega) (by omega);have hm1 := Int.emod_nonneg (ent S i (i + 1 + t)) (show ent S (i + 1 + t) (i + 1 + t) ≠ 0 by omega);have hm2 := Int.emod_lt_of_pos (ent S i (i + 1 + t)) hp
  have hS1 : LB (setE S i (i + 1 + t) (ent S i (i + 1 + t) % ent S (i + 1 + t) (i + 1 + t))) n d := b1.setE (by omega) (by omega) ⟨hm1, by omega⟩ fun e => by omega
  have e1 := fun k j => ze1 (x := ent S i (i + 1 + t) % ent S (i + 1 + t) (i + 1 + t)) (i' := k) (j' := j) b1.len b1.row (show i < n by omega) (show i + 1 + t < n by omega)
  have e2 := zkR (i := i) (k := i + 1 + t) (q := ent S i (i + 1 + t) / ent S (i + 1 + t) (i + 1 + t)) hd (by omega) hS1 (by omega) (n - (i + 1 + t) - 1) (by omega);rw [<- hR] at e2
  have r1 : ∀ r j, j < n -> ent (redK n R i d (t + 1)) r j = if r = i /\ i + 1 + t < j then (ent S i j - ent S i (i + 1 + t) / ent S (i + 1 + t) (i + 1 + t) * ent S (i + 1 + t) j) % d else if r = i /\ j = i + 1 + t then ent S i (i + 1 + t) % ent S (i + 1 + t) (i + 1 + t) else ent S r j := fun r j hj => by
   rw [e2, e1, e1, e1]
   by_cases hc : r = i /\ i + 1 + t < j
   ·rw [if_pos (by omega), if_pos hc, if_neg (by omega), if_neg (by omega)]
   ·rw [if_neg (by omega), if_neg hc]
  clear e1 e2;generalize redK n R i d (t + 1) = S' at *
  have hrow : ∀ k, k < n -> k ≠ i -> ∀ j, j < n -> ent S' k j = ent S k j := fun k _ hk j hj => by rw [r1 k j hj, if_neg (by omega), if_neg (by omega)]
  have hdm := Int.emod_add_mul_ediv (ent S i (i + 1 + t)) (ent S (i + 1 + t) (i + 1 + t))
  have hz : Sp n (gtP (ent S) (i + 1 + t) n) fun j => ent S' i j - (ent S i j - ent S i (i + 1 + t) / ent S (i + 1 + t) (i + 1 + t) * ent S (i + 1 + t) j) := by
   refine b3.gt b2 (fun j hj hjn => ?_) fun j hj hjn => ?_
   ·show ent S' i j - (ent S i j - ent S i (i + 1 + t) / ent S (i + 1 + t) (i + 1 + t) * ent S (i + 1 + t) j) = 0
    rw [r1 i j hjn, if_neg (by omega)]
    by_cases e : j = i + 1 + t
    ·subst e; rw [if_pos ⟨rfl, rfl⟩]; rw [Int.mul_comm] at hdm; omega
    ·rw [if_neg (by omega), b2.zero (i + 1 + t) (by omega) j (show j < i + 1 + t by omega)]; simp
   ·show ∃ y, ent S' i j - (ent S i j - ent S i (i + 1 + t) / ent S (i + 1 + t) (i + 1 + t) * ent S (i + 1 + t) j) = d * y
    rw [r1 i j hjn, if_pos ⟨rfl, hj⟩];obtain ⟨y, hy⟩ := zcF (ent S i j - ent S i (i + 1 + t) / ent S (i + 1 + t) (i + 1 + t) * ent S (i + 1 + t) j) d;exact ⟨y, by omega⟩
  have hu : Sp n (gtP (ent S) i n) fun j => ent S' i j - ent S i j := by
   refine .add (v := fun j => -(ent S i (i + 1 + t) / ent S (i + 1 + t) (i + 1 + t)) * ent S (i + 1 + t) j) (Sp.smul (.gen ⟨i + 1 + t, by omega, by omega, rfl⟩) _ fun _ _ => rfl) (hz.mono fun g ⟨k, h1, h2, h3⟩ => .gen ⟨k, by omega, h2, h3⟩) fun j hj => ?_
   show ent S' i j - ent S i j = -(ent S i (i + 1 + t) / ent S (i + 1 + t) (i + 1 + t)) * ent S (i + 1 + t) j + (ent S' i j - (ent S i j - ent S i (i + 1 + t) / ent S (i + 1 + t) (i + 1 + t) * ent S (i + 1 + t) j))
   grind
  obtain ⟨c1, c2⟩ := zo4 b2 (show i < n by omega) hrow (fun j hj => (show ent S' i j = ent S i j + (ent S' i j - ent S i j) by omega)) hu;refine ⟨hlb, c1, b3.iff c2, fun k hk hki j hj => by rw [hrow k hk hki j hj, b4 k hk hki j hj], fun g => (c2 g).trans (b5 g), fun k h1 h2 => ?_⟩;rw [hrow k (by omega) (by omega) k (by omega), r1 i k (by omega), if_neg (by omega)]
  by_cases e : k = i + 1 + t
  ·subst e;rw [if_pos ⟨rfl, rfl⟩];exact ⟨hm1, hm2⟩
  ·rw [if_neg (by omega)];exact b6 k h1 (by omega)
theorem zjb {n : Nat} {d : Int} {R : List (List Int)} (hd : 0 < d) (h : LB R n d) (hT : Tri (ent R) n) (hF : Full (ent R) n d) : ∀ t, t <= n ->
  LB (redI n R d t) n d /\ Tri (ent (redI n R d t)) n /\ Full (ent (redI n R d t)) n d /\ (∀ g, Sp n (zbv (ent (redI n R d t)) n) g ↔ Sp n (zbv (ent R) n) g) /\ ∀ i k, n - t <= i -> i < k -> k < n -> 0 <= ent (redI n R d t) i k /\ ent (redI n R d t) i k < ent (redI n R d t) k k
 | 0, _ => ⟨h, hT, hF, fun _ => Iff.rfl, fun i k h1 h2 h3 => by omega⟩
 | t + 1, ht => by
  obtain ⟨a1, a2, a3, a4, a5⟩ := zjb hd h hT hF t (by omega);obtain ⟨b1, b2, b3, b4, b5, b6⟩ := zmE (i := n - 1 - t) hd a1 a2 a3 t (by omega);refine ⟨b1, b2, b3, fun g => (b5 g).trans (a4 g), fun i k h1 h2 h3 => ?_⟩
  show 0 <= ent (redK n (redI n R d t) (n - 1 - t) d t) i k /\ ent (redK n (redI n R d t) (n - 1 - t) d t) i k < ent (redK n (redI n R d t) (n - 1 - t) d t) k k
  by_cases e : i = n - 1 - t
  ·subst e;exact b6 k h2 (by omega)
  ·rw [b4 i (by omega) e k h3, b4 k h3 (by omega) k h3];exact a5 i k (by omega) h2 h3
def LG (n : Nat) (d : Int) (f : Nat -> Nat -> Int) (m : Nat) (g : Nat -> Int) : Prop := (∃ j, j < n /\ g = zb0 d j) \/ ∃ k, k < m /\ g = f k
theorem Sp.mults {n : Nat} {d : Int} {S : (Nat -> Int) -> Prop} (h : ∀ j, j < n -> Sp n S (zb0 d j)) {z : Nat -> Int} (hz : ∀ j, j < n -> ∃ y, z j = d * y) : Sp n S z := by
 have hex : ∃ y : Nat -> Int, ∀ j, j < n -> z j = d * y j := by
  refine ⟨fun j => if h : j < n then (hz j h).choose else 0, fun j h1 => ?_⟩;simp only [h1, dite_true];exact (hz j h1).choose_spec
 obtain ⟨y, hy⟩ := hex
 refine Sp.sum (f := zb0 d) (c := y) (m := n) h fun j hj => ?_
 rw [zbe (k := j) hj fun t ht hne => by
  show y t * zb0 d t j = 0
  rw [show zb0 d t j = 0 from if_neg (Ne.symm hne), Int.mul_zero]]
 show z j = y j * (if j = j then d else 0)
 rw [if_pos rfl, hy j hj, Int.mul_comm]
theorem zdw {n : Nat} {d : Int} {i j : Nat} (hi : i < n) (hj : j < n) : ent (zcj n n d) i j = zb0 d i j := by
 have hrow : (zcj n n d).getD i [] = (List.replicate n 0).set i d := by
  simp [zcj, List.getD_eq_getElem?_getD, hi]
 unfold ent rw_ zb0;rw [hrow, List.getD_eq_getElem?_getD, List.getElem?_set]
 by_cases e : i = j
 ·rw [if_pos e, if_pos e.symm, if_pos (by simpa using hi)]; rfl
 ·rw [if_neg e, if_neg (Ne.symm e)]; simp [hj]
structure LL (n : Nat) (d : Int) (f : Nat -> Nat -> Int) (m : Nat) (R : List (List Int)) : Prop where
 lb : LB R n d
 tri : Tri (ent R) n
 full : Full (ent R) n d
 sp : ∀ g, Sp n (zbv (ent R) n) g ↔ Sp n (LG n d f m) g
theorem LL.mult {n : Nat} {d : Int} {f : Nat -> Nat -> Int} (hd : 0 < d) : LL n d f 0 (zcj n n d) := by
 refine ⟨LB.mult hd, Tri.mk (fun i hi => ?_) fun i j hi hj => ?_, fun j hj => ?_, fun g => ⟨fun hg => hg.mono ?_, fun hg => hg.mono ?_⟩⟩
 ·rw [zdw hi hi]; show 0 < if i = i then d else 0; rw [if_pos rfl]; exact hd
 ·rw [zdw hi (by omega)]; exact if_neg (by omega)
 ·exact Sp.of_eq (Sp.row hj) fun t ht => (zdw hj ht).symm
 ·rintro g ⟨k, hk, rfl⟩
  exact Sp.of_eq (.gen (.inl ⟨k, hk, rfl⟩)) fun t ht => zdw hk ht
 ·rintro g (⟨k, hk, rfl⟩ | ⟨k, hk, rfl⟩)
  ·exact Sp.of_eq (Sp.row hk) fun t ht => (zdw hk ht).symm
  ·omega
theorem LG.next {n : Nat} {d : Int} {f : Nat -> Nat -> Int} {m : Nat} {e : Nat -> Nat -> Int} {w : Nat -> Int} (hw : ∀ j, j < n -> w j = f m j) (h : ∀ g, Sp n (zbv e n) g ↔ Sp n (LG n d f m) g) (g : Nat -> Int) : Sp n (SV e n w) g ↔ Sp n (LG n d f (m + 1)) g := by
 constructor
 ·refine fun hg => hg.mono ?_
  rintro g (hg | rfl)
  ·exact ((h g).1 (.gen hg)).mono fun g hg => .gen (by
    rcases hg with h1 | ⟨k, hk, h2⟩
    ·exact .inl h1
    ·exact .inr ⟨k, by omega, h2⟩)
  ·exact Sp.of_eq (.gen (.inr ⟨m, by omega, rfl⟩)) hw
 ·refine fun hg => hg.mono ?_
  have old : ∀ g, LG n d f m g -> Sp n (SV e n w) g := fun g hg => ((h g).2 (.gen hg)).mono fun g hg => .gen (.inl hg)
  rintro g (h1 | ⟨k, hk, rfl⟩)
  ·exact old _ (.inl h1)
  ·by_cases e1 : k = m
   ·subst e1
    exact Sp.of_eq (.gen (.inr rfl)) fun j hj => (hw j hj).symm
   ·exact old _ (.inr ⟨k, by omega, rfl⟩)
theorem LL.add {n : Nat} {d : Int} {f : Nat -> Nat -> Int} {m : Nat} {R : List (List Int)} {v : List Int} (hd : 0 < d) (hd9 : d <= 1000000000) (h : LL n d f m R) (hv : VC v n) (hf : ∀ j, j < n -> v.getD j 0 = f m j) : LL n d f (m + 1) (addI n R v d n).1 := by
 obtain ⟨a1, a2, a3⟩ := (znp hd hd9 h.tri h.full h.lb hv (Nat.le_refl n)).done h.full;exact ⟨(LB.addI hd hd9 h.lb hv (Nat.le_refl _)).1, a1, a2, fun g => (a3 g).trans (LG.next (w := zfh 0 v) (fun j hj => hf j hj) h.sp g)⟩
structure HL (n : Nat) (d : Int) (f : Nat -> Nat -> Int) (m : Nat) (R : List (List Int)) : Prop extends LL n d f m R where
 hf : HF n (ent R) n id
theorem LL.red {n : Nat} {d : Int} {f : Nat -> Nat -> Int} {m : Nat} {R : List (List Int)} (hd : 0 < d) (h : LL n d f m R) : HL n d f m (redI n R d n) := by
 obtain ⟨a1, a2, a3, a4, a5⟩ := zjb hd h.lb h.tri h.full n (Nat.le_refl _);exact ⟨⟨a1, a2, a3, fun g => (a4 g).trans (h.sp g)⟩, ⟨a2, fun i k hik hk => a5 i k (by omega) hik hk⟩⟩
def zqy (rows : List (List Int)) (js : List Nat) (k j : Nat) : Int := ent rows k (js.getD j 0)
theorem zo6 {rows : List (List Int)} {js : List Nat} {i j : Nat} (h : j < js.length) : (zhu rows js i).getD j 0 = zqy rows js i j := by
 simp [zhu, zqy, List.getD_eq_getElem?_getD, h]
theorem zhR {rows : List (List Int)} {js : List Nat} {d : Int} (hd : 0 < d) (hd9 : d <= 1000000000) (he : ∀ i, i < rows.length -> okE (rw_ rows i)) (hj : okJ js) : ∀ {i : Nat}, i <= rows.length -> LL js.length d (zqy rows js) i (zdg rows js d i)
 | 0, _ => LL.mult hd
 | i + 1, hi => (zhR hd hd9 he hj (i := i) (by omega)).add hd hd9 (zn3 (he i (by omega)) hj) fun j hj => zo6 hj
theorem zkE {rows : List (List Int)} {s : Fr} (h : FrB rows s) (he : ∀ i, i < rows.length -> okE (rw_ rows i)) : HL s.js.length (zbm s.d) (zqy rows s.js) rows.length (zfJ rows s) :=
 (zhR h.abs.1 h.abs.2 he h.j (Nat.le_refl _)).red h.abs.1
theorem znw {X : List (List Int)} {c : List Int} {d : Int} {s : Nat} (hd : 0 < d) (hd9 : d <= 1000000000) (h : LB X s d) : ∀ {i : Nat}, i <= s -> LL (s + 1) d (fun k j => (zjG X c d s k).getD j 0) i (zoC X c d s i)
 | 0, _ => LL.mult hd
 | i + 1, hi => (znw hd hd9 h (i := i) (by omega)).add hd hd9 ((zjI hd h (by omega)).toC hd9) fun _ _ => rfl
theorem zrt {X : List (List Int)} {c : List Int} {d : Int} {s : Nat} (hd : 0 < d) (hd9 : d <= 1000000000) (h : LB X s d) : HL (s + 1) d (fun k j => (zjG X c d s k).getD j 0) s (zlI X c d s) := (znw hd hd9 h (Nat.le_refl _)).red hd
def zdv (rows : List (List Int)) (S : Fr) (x : Nat -> Int) (j : Nat) : Int := zag (fun k => x k * zab (ent rows) S.is (S.js.set k j)) S.js.length
abbrev zd5 (e : Nat -> Nat -> Int) (m : Nat) (g : Nat -> Int) : Prop := Sp 6 (zbv e m) g
theorem zsX {rows : List (List Int)} {S : Fr} (hB : FrB rows S) {k : Nat} (hk : k < S.js.length) : zd5 (ent rows) rows.length fun j => zab (ent rows) S.is (S.js.set k j) := by
 refine Sp.sum (f := fun t => ent rows (S.is.getD t 0)) (c := fun t => cof (ent rows) S.is S.js k t) (m := S.is.length) (fun t ht => Sp.row (hB.i _ ?_)) fun j _ => zkz hB.len hk j
 rw [List.getD_eq_getElem?_getD, List.getElem?_eq_getElem ht];exact List.getElem_mem ht
theorem zrT {rows : List (List Int)} {S : Fr} (hB : FrB rows S) (hC : Crm rows S) {x : Nat -> Int} (h : Sp S.js.length (LG S.js.length (zbm S.d) (zqy rows S.js) rows.length) x) : ∃ w, zd5 (ent rows) rows.length w /\ ∀ j, j < 6 -> zdv rows S x j = S.d * w j := by
 induction h with
 | gen hg =>
  rcases hg with ⟨l, hl, rfl⟩ | ⟨k, hk, rfl⟩
  ·have hs : ∃ s : Int, zbm S.d = S.d * s := by
    unfold zbm
    split
    ·exact ⟨-1, by omega⟩
    ·exact ⟨1, by omega⟩
   obtain ⟨s, hs⟩ := hs;refine ⟨_, (zsX hB hl).smul s (u := fun j => s * zab (ent rows) S.is (S.js.set l j)) fun _ _ => rfl, fun j hj => ?_⟩;unfold zdv
   rw [zbe (k := l) hl fun t ht hne => by
    show zb0 (zbm S.d) l t * _ = 0
    rw [show zb0 (zbm S.d) l t = 0 from if_neg hne, Int.zero_mul]]
   show (if l = l then zbm S.d else 0) * _ = _
   rw [if_pos rfl, hs, Int.mul_assoc]
  ·refine ⟨_, Sp.row hk, fun j hj => ?_⟩;rw [hC.eq k j hk hj];unfold zdv zqy
   exact zac fun l _ => Int.mul_comm _ _
 | zero hz =>
  refine ⟨fun _ => 0, .zero fun _ _ => rfl, fun j _ => ?_⟩;unfold zdv;rw [Int.mul_zero, <- za7 S.js.length]
  exact zac fun l hl => by rw [hz l hl, Int.zero_mul]
 | add _ _ he i1 i2 =>
  obtain ⟨w1, a1, b1⟩ := i1;obtain ⟨w2, a2, b2⟩ := i2;refine ⟨fun j => w1 j + w2 j, .add a1 a2 fun _ _ => rfl, fun j hj => ?_⟩;rw [Int.mul_add, <- b1 j hj, <- b2 j hj];unfold zdv;rw [<- zcf]
  exact zac fun l hl => by rw [he l hl, Int.add_mul]
 | neg _ he i1 =>
  obtain ⟨w1, a1, b1⟩ := i1;refine ⟨fun j => -w1 j, .neg a1 fun _ _ => rfl, fun j hj => ?_⟩;rw [Int.mul_neg, <- b1 j hj];unfold zdv;rw [<- zbC]
  exact zac fun l hl => by rw [he l hl, Int.neg_mul]
theorem okJ.at {js : List Nat} (h : okJ js) {k : Nat} (hk : k < js.length) : js.getD k 0 < 6 := by
 rw [List.getD_eq_getElem?_getD, List.getElem?_eq_getElem hk];exact h.2 _ (List.getElem_mem hk)
theorem zpz {rows : List (List Int)} {S : Fr} (hB : FrB rows S) (hC : Crm rows S) {w : Nat -> Int} (h : zd5 (ent rows) rows.length w) : Sp S.js.length (LG S.js.length (zbm S.d) (zqy rows S.js) rows.length) (fun k => w (S.js.getD k 0)) /\ ∀ j, j < 6 -> zdv rows S (fun k => w (S.js.getD k 0)) j = S.d * w j := by
 induction h with
 | gen hg =>
  obtain ⟨k, hk, rfl⟩ := hg;refine ⟨.gen (.inr ⟨k, hk, rfl⟩), fun j hj => ?_⟩;rw [hC.eq k j hk hj];unfold zdv
  exact zac fun l _ => Int.mul_comm _ _
 | zero hz =>
  refine ⟨.zero fun k hk => hz _ (hB.j.at hk), fun j hj => ?_⟩;rw [hz j hj];unfold zdv;rw [Int.mul_zero, <- za7 S.js.length]
  exact zac fun l hl => by simp only [hz _ (hB.j.at hl), Int.zero_mul]
 | add _ _ he i1 i2 =>
  refine ⟨.add i1.1 i2.1 fun k hk => he _ (hB.j.at hk), fun j hj => ?_⟩;rw [he j hj, Int.mul_add, <- i1.2 j hj, <- i2.2 j hj];unfold zdv;rw [<- zcf]
  exact zac fun l hl => by simp only [he _ (hB.j.at hl), Int.add_mul]
 | neg _ he i1 =>
  refine ⟨.neg i1.1 fun k hk => he _ (hB.j.at hk), fun j hj => ?_⟩;rw [he j hj, Int.mul_neg, <- i1.2 j hj];unfold zdv;rw [<- zbC]
  exact zac fun l hl => by simp only [he _ (hB.j.at hl), Int.neg_mul]
theorem zfx {X : List (List Int)} {f : List Int -> List Int} {i j : Nat} (hi : i < X.length) : ent (X.map f) i j = (f (X.getD i [])).getD j 0 := by
 unfold ent rw_;simp [List.getD_eq_getElem?_getD, hi]
theorem zmv {rows : List (List Int)} {S : Fr} {x : List Int} {j : Nat} (hj : j < 6) : (zfg rows S x).getD j 0 = zrK rows S x j := by
 simp [zfg, List.getD_eq_getElem?_getD, hj]
structure HermL (rows H : List (List Int)) (p : List Nat) : Prop where
 len : H.length = p.length
 six : ∀ r ∈ H, r.length = 6
 hf : HF 6 (ent H) p.length fun i => p.getD i 0
 sp : ∀ g, zd5 (ent H) H.length g ↔ zd5 (ent rows) rows.length g
theorem zdH {l : List Nat} (h : l.Pairwise (· < ·)) {i k : Nat} (hik : i < k) (hk : k < l.length) : l.getD i 0 < l.getD k 0 := by
 rw [List.getD_eq_getElem?_getD, List.getD_eq_getElem?_getD, List.getElem?_eq_getElem hk, List.getElem?_eq_getElem (by omega)];exact List.pairwise_iff_getElem.1 h i k (by omega) hk hik
theorem zhG (rows : List (List Int)) : (zbx rows).js.Pairwise (· < ·) := by
 have h := (zbY (rows := rows) (ord := [0, 1, 2, 3, 4, 5]) (k := 6) (Nat.le_refl _)).1.sub;exact List.Pairwise.sublist h (by decide)
theorem zd8 {rows : List (List Int)} (hv : VM rows) (h6 : ∀ i, i < rows.length -> (rw_ rows i).length = 6) : HermL rows (zaI rows) (zbx rows).js := by
 have hB := ziT hv h6;have hC := znU rows;have hX := zkE hB hv.2.1;have hso := zhG rows
 have htri := fun {j k : Nat} => zrp (rows := rows) (j := j) (k := k)
 have hlen := hX.lb.len;unfold zaI;generalize zbx rows = S at *;generalize zfJ rows S = X at *
 have hw : ∀ i, i < X.length -> ∃ w, zd5 (ent rows) rows.length w /\ ∀ j, j < 6 -> zdv rows S (ent X i) j = S.d * w j := fun i hi => zrT hB hC ((hX.sp _).1 (Sp.row (by omega)))
 have he : ∀ i, i < X.length -> ∀ j, j < 6 -> zdv rows S (ent X i) j = S.d * ent (X.map (zfg rows S)) i j := fun i hi j hj => by
  obtain ⟨w, h1, h2⟩ := hw i hi;rw [zfx hi, zmv hj];have e : zlh rows S (X.getD i []) j S.js.length = zdv rows S (ent X i) j := rfl;unfold zrK;rw [e, h2 j hj, Int.mul_tdiv_cancel_left _ hB.ne]
 have hin : ∀ i, i < X.length -> zd5 (ent rows) rows.length (ent (X.map (zfg rows S)) i) := fun i hi => by
  obtain ⟨w, h1, h2⟩ := hw i hi
  refine h1.of_eq fun j hj => ?_
  have := he i hi j hj;rw [h2 j hj] at this;exact (Int.eq_of_mul_eq_mul_left hB.ne this).symm
 have hpiv : ∀ i, i < X.length -> ∀ l, l < S.js.length -> ent (X.map (zfg rows S)) i (S.js.getD l 0) = ent X i l := fun i hi l hl => by
  have h1 := he i hi _ (hB.j.at hl);unfold zdv at h1;rw [zbe (k := l) hl fun t ht hne => by rw [ze8 hB.len ht hl, if_neg hne, Int.mul_zero], ze8 hB.len hl hl, if_pos rfl, <- hB.d, Int.mul_comm] at h1;exact (Int.eq_of_mul_eq_mul_left hB.ne h1).symm
 refine ⟨by rw [List.length_map]; exact hlen, zkF, ⟨⟨fun i hi => hB.j.at hi, fun i k h1 h2 => zdH hso h1 h2, fun i hi => ?_, fun i hi j hj => ?_⟩, fun i k hik hk => ?_⟩, fun g => ⟨fun hg => hg.mono ?_, fun hg => ?_⟩⟩
 ·show 0 < ent (X.map (zfg rows S)) i (S.js.getD i 0)
  rw [hpiv i (by omega) i hi];exact hX.lb.diag i hi
 ·have hj6 : j < 6 := by have := hB.j.at hi; have : j < S.js.getD i 0 := hj; omega
  have h1 := he i (by omega) j hj6
  have h0 : zdv rows S (ent X i) j = 0 := by
   unfold zdv;rw [<- za7 S.js.length]
   refine zac fun l hl => ?_
   by_cases hli : l < i
   ·rw [hX.tri.zero i hi l hli, Int.zero_mul]
   ·have hlt : j < S.js.getD l 0 := by
     have : j < S.js.getD i 0 := hj
     by_cases e : l = i
     ·subst e; exact this
     ·have := zdH hso (show i < l by omega) hl; omega
    rw [htri hl hlt hj6, Int.mul_zero]
  rw [h0] at h1
  rcases Int.mul_eq_zero.1 h1.symm with h | h
  ·exact absurd h hB.ne
  ·exact h
 ·show 0 <= ent (X.map (zfg rows S)) i (S.js.getD k 0) /\ ent (X.map (zfg rows S)) i (S.js.getD k 0) < ent (X.map (zfg rows S)) k (S.js.getD k 0)
  rw [hpiv i (by omega) k hk, hpiv k (by omega) k hk];exact hX.hf.red i k hik hk
 ·rintro g ⟨i, hi, rfl⟩;rw [List.length_map] at hi;exact hin i hi
 ·obtain ⟨h1, h2⟩ := zpz hB hC hg;obtain ⟨c, hc⟩ := ((hX.sp _).2 h1).coef;rw [List.length_map, hlen]
  refine Sp.of_coef (c := c) fun j hj => ?_
  apply Int.eq_of_mul_eq_mul_left hB.ne;rw [<- h2 j hj, <- zaG]
  have e1 : zag (fun i => S.d * (c i * ent (X.map (zfg rows S)) i j)) S.js.length = zag (fun i => zag (fun l => c i * ent X i l * zab (ent rows) S.is (S.js.set l j)) S.js.length) S.js.length := zac fun i hi => by
   have := he i (by omega) j hj
   have e : S.d * (c i * ent (X.map (zfg rows S)) i j) = c i * (S.d * ent (X.map (zfg rows S)) i j) := by grind
   rw [e, <- this];unfold zdv;rw [<- zaG]
   exact zac fun l _ => (Int.mul_assoc _ _ _).symm
  rw [e1, zbA];unfold zdv
  refine zac fun l hl => ?_
  show g (S.js.getD l 0) * _ = _
  rw [hc l hl, Int.mul_comm, <- zaG]
  exact zac fun i _ => Int.mul_comm _ _
def zcG (c : Nat -> Int) (x : Nat -> Int) (n : Nat) : Int := zag (fun t => c t * x t) n
theorem zj8 (c x y z : Nat -> Int) (n : Nat) (h : ∀ j, j < n -> z j = x j + y j) : zcG c z n = zcG c x n + zcG c y n := by
 unfold zcG;rw [<- zcf]
 exact zac fun t ht => by simp only [h t ht, Int.mul_add]
theorem zj3 (c x z : Nat -> Int) (n : Nat) (h : ∀ j, j < n -> z j = -x j) : zcG c z n = -zcG c x n := by
 unfold zcG;rw [<- zbC]
 exact zac fun t ht => by simp only [h t ht, Int.mul_neg]
theorem zgc (c z : Nat -> Int) (n : Nat) (h : ∀ j, j < n -> z j = 0) : zcG c z n = 0 := by
 unfold zcG;rw [<- za7 n]
 exact zac fun t ht => by simp only [h t ht, Int.mul_zero]
theorem zkM (c : Nat -> Int) (d : Int) {n j : Nat} (hj : j < n) : zcG c (zb0 d j) n = c j * d := by
 unfold zcG
 rw [zbe (k := j) hj fun t _ hne => by
  show c t * zb0 d j t = 0
  rw [show zb0 d j t = 0 from if_neg hne, Int.mul_zero]]
 show c j * (if j = j then d else 0) = _
 rw [if_pos rfl]
theorem zih {c x : List Int} {d : Int} : ∀ k, ∃ y, zhr c x d k = zcG (fun t => c.getD t 0) (fun t => x.getD t 0) k + d * y
 | 0 => ⟨0, by simp [zhr, zcG, zag]⟩
 | k + 1 => by
  obtain ⟨y, hy⟩ := zih (c := c) (x := x) (d := d) k;obtain ⟨y1, h1⟩ := zcF (c.getD k 0) d;obtain ⟨y2, h2⟩ := zcF (x.getD k 0) d;obtain ⟨y3, h3⟩ := zcF (zhr c x d k + c.getD k 0 % d * (x.getD k 0 % d)) d;have e : zcG (fun t => c.getD t 0) (fun t => x.getD t 0) (k + 1) = zcG (fun t => c.getD t 0) (fun t => x.getD t 0) k + c.getD k 0 * x.getD k 0 := rfl;refine ⟨y + y1 * x.getD k 0 + c.getD k 0 * y2 + d * y1 * y2 + y3, ?_⟩
  show (zhr c x d k + c.getD k 0 % d * (x.getD k 0 % d)) % d = _
  rw [h3, hy, h1, h2, e]
  grind
structure KL (n : Nat) (d : Int) (P : (Nat -> Int) -> Prop) (X : List (List Int)) : Prop where
 lb : LB X n d
 hf : HF n (ent X) n id
 full : Full (ent X) n d
 sp : ∀ g, Sp n (zbv (ent X) n) g ↔ P g
theorem zm6 {W : List (List Int)} {s : Nat} {d : Int} (hW : LB W (s + 1) d) (hT : Tri (ent W) (s + 1)) (y : Nat -> Int) : Sp s (zbv (ent (behind W)) s) y ↔ Sp (s + 1) (zbv (ent W) (s + 1)) (fun j => if j = 0 then 0 else y (j - 1)) := by
 have hl := hW.len
 constructor
 ·intro h
  induction h with
  | gen hg =>
   obtain ⟨k, hk, rfl⟩ := hg
   refine Sp.of_eq (Sp.row (show k + 1 < s + 1 by omega)) fun j hj => ?_
   by_cases e : j = 0
   ·subst e;rw [if_pos rfl];exact (hT.zero (k + 1) (by omega) 0 (show 0 < k + 1 by omega)).symm
   ·rw [if_neg e, zcU (by omega)]
    congr 1
    omega
  | zero hz =>
   exact .zero fun j hj => by
    split
    ·rfl
    ·exact hz _ (by omega)
  | add _ _ he i1 i2 =>
   exact .add i1 i2 fun j hj => by
    by_cases e : j = 0
    ·simp only [e, if_pos]; rfl
    ·simp only [e, if_false]; exact he _ (by omega)
  | neg _ he i1 =>
   exact .neg i1 fun j hj => by
    by_cases e : j = 0
    ·simp only [e, if_pos]; rfl
    ·simp only [e, if_false]; exact he _ (by omega)
 ·intro h
  have h1 := hT.gt_of (i := 0) h fun j hj _ => if_pos (by omega)
  have key : ∀ {v : Nat -> Int}, Sp (s + 1) (gtP (ent W) 0 (s + 1)) v -> Sp s (zbv (ent (behind W)) s) fun j => v (j + 1) := by
   intro v hv
   induction hv with
   | gen hg =>
    obtain ⟨k, h1, h2, rfl⟩ := hg
    refine Sp.of_eq (Sp.row (show k - 1 < s by omega)) fun j hj => ?_
    rw [zcU (by omega)]
    congr 1
    omega
   | zero hz => exact .zero fun j hj => hz _ (by omega)
   | add _ _ he i1 i2 => exact .add i1 i2 fun j hj => he _ (by omega)
   | neg _ he i1 => exact .neg i1 fun j hj => he _ (by omega)
  exact (key h1).of_eq fun j hj => by
   show y j = if j + 1 = 0 then 0 else y (j + 1 - 1)
   rw [if_neg (by omega), Nat.add_sub_cancel]
theorem zsZ {X c : List (List Int)} {d : Int} {s : Nat} {P : (Nat -> Int) -> Prop} {cc : List Int} (hd : 0 < d) (hd9 : d <= 1000000000) (h : KL s d P X) : KL s d (fun g => P g /\ ∃ y, zcG (fun t => cc.getD t 0) g s = d * y) (behind (zlI X cc d s)) := by
 have hW := zrt (c := cc) hd hd9 h.lb;have hl := hW.lb.len;have hX := h.lb.len
 have hsp : ∀ g, Sp s (zbv (ent (behind (zlI X cc d s))) s) g ↔ P g /\ ∃ y, zcG (fun t => cc.getD t 0) g s = d * y := by
  intro g;rw [zm6 hW.lb hW.tri, hW.sp, <- h.sp]
  constructor
  ·intro hg
   have key : ∀ {v : Nat -> Int}, Sp (s + 1) (LG (s + 1) d (fun k j => (zjG X cc d s k).getD j 0) s) v -> Sp s (zbv (ent X) s) (fun j => v (j + 1)) /\ ∃ y, zcG (fun t => cc.getD t 0) (fun j => v (j + 1)) s = v 0 + d * y := by
    intro v hv
    induction hv with
    | gen hg =>
     rcases hg with ⟨j, hj, rfl⟩ | ⟨k, hk, rfl⟩
     ·cases j with
      | zero =>
       have e : ∀ j, zb0 d 0 (j + 1) = 0 := fun j => if_neg (by omega)
       exact ⟨.zero fun j _ => e j, -1, by
        rw [zgc _ _ _ fun j _ => e j]
        show 0 = (if 0 = 0 then d else 0) + d * -1
        rw [if_pos rfl]
        omega⟩
      | succ j =>
       have e : (fun t => zb0 d (j + 1) (t + 1)) = zb0 d j := by
        funext t
        unfold zb0
        by_cases ht : t = j
        ·rw [if_pos (by omega), if_pos ht]
        ·rw [if_neg (by omega), if_neg ht]
       rw [e]
       exact ⟨h.full j (by omega), cc.getD j 0, by
        rw [zkM _ _ (by omega)]
        show _ = (if 0 = j + 1 then d else 0) + _
        rw [if_neg (by omega), Int.zero_add, Int.mul_comm]⟩
     ·have e : (fun j => (zjG X cc d s k).getD (j + 1) 0) = ent X k := rfl;rw [e];refine ⟨Sp.row hk, ?_⟩;obtain ⟨y, hy⟩ := zih (c := cc) (x := X.getD k []) (d := d) s;refine ⟨-y, ?_⟩
      show zcG (fun t => cc.getD t 0) (fun t => (X.getD k []).getD t 0) s = zhr cc (X.getD k []) d s + d * -y
      rw [hy, Int.mul_neg]
      omega
    | zero hz =>
     refine ⟨.zero fun j hj => hz _ (by omega), 0, ?_⟩;rw [hz 0 (by omega), zgc _ _ _ fun j hj => hz (j + 1) (by omega)]
     simp
    | add _ _ he i1 i2 =>
     obtain ⟨a1, y1, b1⟩ := i1;obtain ⟨a2, y2, b2⟩ := i2;refine ⟨.add a1 a2 fun j hj => he _ (by omega), y1 + y2, ?_⟩;rw [he 0 (by omega), zj8 _ _ _ _ s fun j hj => he (j + 1) (by omega), b1, b2]
     grind
    | neg _ he i1 =>
     obtain ⟨a1, y1, b1⟩ := i1;refine ⟨.neg a1 fun j hj => he _ (by omega), -y1, ?_⟩;rw [he 0 (by omega), zj3 _ _ _ s fun j hj => he (j + 1) (by omega), b1]
     grind
   obtain ⟨a1, y, hy⟩ := key hg
   have e : (fun j => if j + 1 = 0 then 0 else g (j + 1 - 1)) = g := by
    funext j
    rw [if_neg (by omega), Nat.add_sub_cancel]
   rw [e] at a1 hy;refine ⟨a1, y, ?_⟩;rw [hy, if_pos rfl, Int.zero_add]
  ·rintro ⟨hg, y, hy⟩
   have key : ∀ {v : Nat -> Int}, Sp s (zbv (ent X) s) v -> Sp (s + 1) (LG (s + 1) d (fun k j => (zjG X cc d s k).getD j 0) s) fun j => if j = 0 then zcG (fun t => cc.getD t 0) v s else v (j - 1) := by
    intro v hv
    induction hv with
    | gen hg =>
     obtain ⟨k, hk, rfl⟩ := hg;obtain ⟨y, hy⟩ := zih (c := cc) (x := X.getD k []) (d := d) s
     refine Sp.sub (v := fun j => (zjG X cc d s k).getD j 0) (w := fun j => y * zb0 d 0 j) (.gen (.inr ⟨k, hk, rfl⟩)) (Sp.smul (.gen (.inl ⟨0, by omega, rfl⟩)) y fun _ _ => rfl) fun j hj => ?_
     cases j with
     | zero =>
      show zcG (fun t => cc.getD t 0) (ent X k) s = zhr cc (X.getD k []) d s - y * (if 0 = 0 then d else 0)
      rw [hy, if_pos rfl, Int.mul_comm y]
      show zcG (fun t => cc.getD t 0) (ent X k) s = zcG (fun t => cc.getD t 0) (ent X k) s + d * y - d * y
      omega
     | succ j =>
      show ent X k j = ent X k j - y * (if j + 1 = 0 then d else 0)
      rw [if_neg (by omega), Int.mul_zero, Int.sub_zero]
    | zero hz =>
     exact .zero fun j hj => by
      split
      ·exact zgc _ _ _ hz
      ·exact hz _ (by omega)
    | add _ _ he i1 i2 =>
     exact .add i1 i2 fun j hj => by
      by_cases e : j = 0
      ·simp only [e, if_pos]; exact zj8 _ _ _ _ s he
      ·simp only [e, if_false]; exact he _ (by omega)
    | neg _ he i1 =>
     exact .neg i1 fun j hj => by
      by_cases e : j = 0
      ·simp only [e, if_pos]; exact zj3 _ _ _ s he
      ·simp only [e, if_false]; exact he _ (by omega)
   refine Sp.sub (key hg) (w := fun j => y * zb0 d 0 j) (Sp.smul (.gen (.inl ⟨0, by omega, rfl⟩)) y fun _ _ => rfl) fun j hj => ?_
   by_cases e : j = 0
   ·subst e
    show (if 0 = 0 then 0 else g (0 - 1)) = (if 0 = 0 then zcG (fun t => cc.getD t 0) g s else g (0 - 1)) - y * (if 0 = 0 then d else 0)
    rw [if_pos rfl, if_pos rfl, if_pos rfl, hy, Int.mul_comm y];omega
   ·show (if j = 0 then 0 else g (j - 1)) = (if j = 0 then zcG (fun t => cc.getD t 0) g s else g (j - 1)) - y * (if j = 0 then d else 0)
    rw [if_neg e, if_neg e, if_neg e, Int.mul_zero, Int.sub_zero]
 have hb := fun (i j : Nat) (hi : i < s) => zcU (W := zlI X cc d s) (i := i) (j := j) (by omega)
 refine ⟨hW.lb.behind, ⟨Tri.mk (fun i hi => ?_) fun i j hi hj => ?_, fun i k hik hk => ?_⟩, fun j hj => (hsp _).2 ⟨(h.sp _).1 (h.full j hj), cc.getD j 0, by rw [zkM _ _ hj, Int.mul_comm]⟩, hsp⟩
 ·rw [hb i i hi];exact hW.lb.diag (i + 1) (by omega)
 ·rw [hb i j hi];exact hW.tri.zero (i + 1) (by omega) (j + 1) (show j + 1 < i + 1 by omega)
 ·show 0 <= ent (behind (zlI X cc d s)) i k /\ ent (behind (zlI X cc d s)) i k < ent (behind (zlI X cc d s)) k k
  rw [hb i k (by omega), hb k k hk];exact hW.hf.red (i + 1) (k + 1) (by omega) (by omega)
theorem zmQ {rows : List (List Int)} {S : Fr} (hB : FrB rows S) : ∀ k, KL (zam S.js).length (zbm S.d) (fun g => ∀ l, l < k -> ∃ y, zcG (fun t => (zdi rows S l).getD t 0) g (zam S.js).length = zbm S.d * y) (zlw rows S k)
 | 0 => by
  have hlb := zj4 hB 0;have h1 := LL.mult (n := (zam S.js).length) (d := 1) (f := fun _ _ => 0) (by decide)
  have hall : ∀ g, Sp (zam S.js).length (zbv (ent (zlw rows S 0)) (zam S.js).length) g := fun g => Sp.mults (d := 1) h1.full fun j hj => ⟨g j, by simp⟩
  refine ⟨hlb, ⟨h1.tri, fun i k hik hk => ?_⟩, fun j hj => hall _, fun g => ⟨fun _ l hl => by omega, fun _ => hall g⟩⟩
  show 0 <= ent (zcj (zam S.js).length (zam S.js).length 1) i k /\ ent (zcj (zam S.js).length (zam S.js).length 1) i k < ent (zcj (zam S.js).length (zam S.js).length 1) k k
  rw [zdw (by omega) hk, zdw hk hk]
  show 0 <= (if k = i then (1 : Int) else 0) /\ (if k = i then (1 : Int) else 0) < if k = k then (1 : Int) else 0
  rw [if_neg (by omega), if_pos rfl]
  decide
 | k + 1 => by
  obtain ⟨h1, h2, h3, h4⟩ := zsZ (c := []) (cc := zdi rows S k) hB.abs.1 hB.abs.2 (zmQ hB k);refine ⟨h1, h2, h3, fun g => (h4 g).trans ⟨fun ⟨a, b⟩ l hl => ?_, fun a => ⟨fun l hl => a l (by omega), a k (by omega)⟩⟩⟩
  by_cases e : l = k
  ·subst e; exact b
  ·exact a l (by omega)
def zkU (f : Nat -> Int) : List Nat -> Int
 | [] => 0
 | x :: l => f x + zkU f l
theorem zmG {f : Nat -> Int} {a b : List Nat} (h : a.Perm b) : zkU f a = zkU f b := by
 induction h with
 | nil => rfl
 | cons x _ ih => exact congrArg (f x + ·) ih
 | swap x y l => show f y + (f x + zkU f l) = f x + (f y + zkU f l); omega
 | trans _ _ h1 h2 => exact h1.trans h2
theorem zix (f : Nat -> Int) (b : List Nat) : ∀ a, zkU f (a ++ b) = zkU f a + zkU f b
 | [] => (Int.zero_add _).symm
 | x :: a => by
  show f x + zkU f (a ++ b) = f x + zkU f a + zkU f b
  rw [zix f b a, Int.add_assoc]
theorem zgx (f : Nat -> Int) : ∀ l, zkU f l = zag (fun k => f (l.getD k 0)) l.length
 | [] => rfl
 | x :: l => by
  show f x + zkU f l = _
  rw [zgx f l, List.length_cons, zdY];rfl
theorem zgm (f : Nat -> Int) : ∀ n, zag f n = zkU f (List.range n)
 | 0 => rfl
 | n + 1 => by
  rw [List.range_succ, zix, <- zgm f n]
  show zag f n + f n = zag f n + (f n + 0)
  rw [Int.add_zero]
theorem zmZ {js : List Nat} (hj : okJ js) (f : Nat -> Int) : zag f 6 = zag (fun k => f (js.getD k 0)) js.length + zag (fun t => f ((zam js).getD t 0)) (zam js).length := by
 rw [zgm, <- zgx, <- zgx, <- zix];apply zmG
 refine (List.perm_ext_iff_of_nodup (by decide) ?_).2 fun x => ?_
 ·rw [List.nodup_append];exact ⟨hj.1, zfj _, fun a ha b hb e => (zbu.1 hb).2 (e ▸ ha)⟩
 ·rw [List.mem_append, zbu, List.mem_range]
  constructor
  ·intro h
   by_cases hx : x ∈ js
   ·exact .inl hx
   ·exact .inr ⟨h, hx⟩
  ·rintro (h | h)
   ·exact hj.2 x h
   ·exact h.1
def KerP (e : Nat -> Nat -> Int) (m : Nat) (y : Nat -> Int) : Prop := ∀ i, i < m -> zag (fun j => e i j * y j) 6 = 0
theorem zgU {rows : List (List Int)} {S : Fr} (hB : FrB rows S) (hC : Crm rows S) (y : Nat -> Int) : KerP (ent rows) rows.length y ↔ ∀ l, l < S.js.length -> zag (fun j => zab (ent rows) S.is (S.js.set l j) * y j) 6 = 0 := by
 constructor
 ·intro h l hl
  have e1 : zag (fun j => zab (ent rows) S.is (S.js.set l j) * y j) 6 = zag (fun j => zag (fun t => cof (ent rows) S.is S.js l t * (ent rows (S.is.getD t 0) j * y j)) S.is.length) 6 := zac fun j _ => by
   rw [zkz hB.len hl j, Int.mul_comm, <- zaG]
   exact zac fun t _ => by grind
  rw [e1, zbA, <- za7 S.is.length]
  refine zac fun t ht => ?_
  rw [zaG, h _ (hB.i _ (by
   rw [List.getD_eq_getElem?_getD, List.getElem?_eq_getElem ht]
   exact List.getElem_mem ht)), Int.mul_zero]
 ·intro h i hi;apply Int.eq_of_mul_eq_mul_left hB.ne;rw [Int.mul_zero, <- zaG]
  have e1 : zag (fun j => S.d * (ent rows i j * y j)) 6 = zag (fun j => zag (fun l => ent rows i (S.js.getD l 0) * (zab (ent rows) S.is (S.js.set l j) * y j)) S.js.length) 6 := zac fun j hj => by
   rw [<- Int.mul_assoc, hC.eq i j hi hj, Int.mul_comm, <- zaG]
   exact zac fun t _ => by grind
  rw [e1, zbA, <- za7 S.js.length]
  refine zac fun l hl => ?_
  rw [zaG, h l hl, Int.mul_zero]
theorem zgs {rows : List (List Int)} {S : Fr} (hB : FrB rows S) (y : Nat -> Int) {l : Nat} (hl : l < S.js.length) : zag (fun j => zab (ent rows) S.is (S.js.set l j) * y j) 6 = S.d * y (S.js.getD l 0) + zcG (fun t => (zdi rows S l).getD t 0) (fun t => y ((zam S.js).getD t 0)) (zam S.js).length := by
 rw [zmZ hB.j]
 congr 1
 ·rw [zbe (k := l) hl fun t ht hne => by rw [ze8 hB.len hl ht, if_neg (Ne.symm hne), Int.zero_mul], ze8 hB.len hl hl, if_pos rfl, hB.d]
 ·unfold zcG
  exact zac fun t ht => by simp only [zkS ht]
structure KerL (rows H : List (List Int)) (p : List Nat) : Prop where
 len : H.length = p.length
 six : ∀ r ∈ H, r.length = 6
 hf : HF 6 (ent H) p.length fun i => p.getD i 0
 sp : ∀ g, zd5 (ent H) H.length g ↔ KerP (ent rows) rows.length g
theorem zmd (rows : List (List Int)) : (zhj rows).js.Pairwise (· > ·) := by
 have h := (zbY (rows := rows) (ord := [5, 4, 3, 2, 1, 0]) (k := 6) (Nat.le_refl _)).1.sub;exact List.Pairwise.sublist h (by decide)
theorem zkm (js : List Nat) : (zam js).Pairwise (· < ·) := List.Pairwise.sublist List.filter_sublist (by decide)
theorem KerP.closed {e : Nat -> Nat -> Int} {m : Nat} {S : (Nat -> Int) -> Prop} (hS : ∀ g, S g -> KerP e m g) {y : Nat -> Int} (h : Sp 6 S y) : KerP e m y := by
 induction h with
 | gen hg => exact hS _ hg
 | zero hz => exact fun i hi => zgc (e i) _ 6 hz
 | add _ _ he i1 i2 =>
  intro i hi;have h1 := zj8 (e i) _ _ _ 6 he;have h2 := i1 i hi;have h3 := i2 i hi;unfold zcG at h1;rw [h1, h2, h3]
  rfl
 | neg _ he i1 =>
  intro i hi;have h1 := zj3 (e i) _ _ 6 he;have h2 := i1 i hi;unfold zcG at h1;rw [h1, h2];rfl
theorem zoA {rows : List (List Int)} {S : Fr} {x : List Int} {j : Nat} (hj : j < 6) : (zeC rows S x).getD j 0 = zpI rows S x j := by
 simp [zeC, List.getD_eq_getElem?_getD, hj]
theorem zj6 {rows : List (List Int)} (hv : VM rows) (h6 : ∀ i, i < rows.length -> (rw_ rows i).length = 6) : KerL rows (zf1 rows) (zam (zhj rows).js) := by
 have hB := zsA hv h6;have hC := zrU rows;have hX := zmQ hB (zhj rows).js.length;have hso := zmd rows
 have htri := fun {j k : Nat} => zrs (rows := rows) (j := j) (k := k)
 have hlen := hX.lb.len;unfold zf1;generalize zhj rows = S at *;generalize zlw rows S S.js.length = X at *;have hfs := zkm S.js
 have hfree : ∀ x t, t < (zam S.js).length -> (zeC rows S x).getD ((zam S.js).getD t 0) 0 = x.getD t 0 := fun x t ht => by
  have h6 := (zbu.1 (zbg ht)).1;have e : (zeC rows S x).getD ((zam S.js).getD t 0) 0 = zpI rows S x ((zam S.js).getD t 0) := zoA h6;rw [e, ziO ht]
 have hdep : ∀ x l, l < S.js.length -> (∃ y, zcG (fun t => (zdi rows S l).getD t 0) (fun t => x.getD t 0) (zam S.js).length = zbm S.d * y) -> S.d * (zeC rows S x).getD (S.js.getD l 0) 0 = -zcG (fun t => (zdi rows S l).getD t 0) (fun t => x.getD t 0) (zam S.js).length := fun x l hl hy => by
  have h6 := hB.j.at hl;have e : (zeC rows S x).getD (S.js.getD l 0) 0 = zpI rows S x (S.js.getD l 0) := zoA h6;rw [e, zmU hB.j.1 hl];have e2 : zhF rows S x l (zam S.js).length = zcG (fun t => (zdi rows S l).getD t 0) (fun t => x.getD t 0) (zam S.js).length := rfl;rw [e2];obtain ⟨y, hy⟩ := hy
  have hs : ∃ s : Int, -zcG (fun t => (zdi rows S l).getD t 0) (fun t => x.getD t 0) (zam S.js).length = S.d * s := by
   rw [hy];unfold zbm
   split
   ·exact ⟨y, by grind⟩
   ·exact ⟨-y, by grind⟩
  obtain ⟨s, hs⟩ := hs;rw [hs, Int.mul_tdiv_cancel_left _ hB.ne]
 have hcond : ∀ i, i < X.length -> ∀ l, l < S.js.length -> ∃ y, zcG (fun t => (zdi rows S l).getD t 0) (ent X i) (zam S.js).length = zbm S.d * y := fun i hi => (hX.sp _).1 (Sp.row (by omega))
 have hker : ∀ i, i < X.length -> KerP (ent rows) rows.length (ent (X.map (zeC rows S)) i) := fun i hi => by
  refine (zgU hB hC _).2 fun l hl => ?_
  rw [zgs hB _ hl, zfx hi, hdep (X.getD i []) l hl (hcond i hi l hl)]
  have e : zcG (fun t => (zdi rows S l).getD t 0) (fun t => ent (X.map (zeC rows S)) i ((zam S.js).getD t 0)) (zam S.js).length = zcG (fun t => (zdi rows S l).getD t 0) (fun t => (X.getD i []).getD t 0) (zam S.js).length := by
   unfold zcG
   exact zac fun t ht => by simp only [zfx hi, hfree _ t ht]
  rw [e];omega
 have hpiv : ∀ i, i < X.length -> ∀ t, t < (zam S.js).length -> ent (X.map (zeC rows S)) i ((zam S.js).getD t 0) = ent X i t := fun i hi t ht => by
  rw [zfx hi, hfree _ t ht];rfl
 refine ⟨by rw [List.length_map]; exact hlen, zib, ⟨⟨fun i hi => (zbu.1 (zbg hi)).1, fun i k h1 h2 => zdH hfs h1 h2, fun i hi => ?_, fun i hi j hj => ?_⟩, fun i k hik hk => ?_⟩, fun g => ⟨fun hg => KerP.closed (fun g hg => ?_) hg, fun hg => ?_⟩⟩
 ·show 0 < ent (X.map (zeC rows S)) i ((zam S.js).getD i 0)
  rw [hpiv i (by omega) i hi];exact hX.lb.diag i hi
 ·have hjf : j < (zam S.js).getD i 0 := hj
  have hj6 : j < 6 := by have := (zbu.1 (zbg hi)).1; omega
  by_cases hjs : j ∈ S.js
  ·obtain ⟨l, hl, rfl⟩ := List.mem_iff_getElem.1 hjs
   have e2 : S.js[l] = S.js.getD l 0 := by simp [List.getD_eq_getElem?_getD, hl]
   rw [e2] at hjf ⊢;have h1 := hdep (X.getD i []) l hl (hcond i (by omega) l hl)
   have h0 : zcG (fun t => (zdi rows S l).getD t 0) (fun t => (X.getD i []).getD t 0) (zam S.js).length = 0 := by
    unfold zcG;refine (zac (g := fun _ => 0) fun t ht => ?_).trans (za7 _)
    by_cases hti : t < i
    ·have : (X.getD i []).getD t 0 = 0 := hX.hf.zero i hi t hti;simp only [this, Int.mul_zero]
    ·have hlt : S.js.getD l 0 < (zam S.js).getD t 0 := by
      by_cases e : t = i
      ·subst e; exact hjf
      ·have := zdH hfs (show i < t by omega) ht; omega
     simp only [zkS ht, htri hl hlt (zbu.1 (zbg ht)).1, Int.zero_mul]
   rw [h0] at h1;rw [zfx (by omega)]
   rcases Int.mul_eq_zero.1 h1 with h | h
   ·exact absurd h hB.ne
   ·exact h
  ·have hf : j ∈ zam S.js := zbu.2 ⟨hj6, hjs⟩;obtain ⟨t, ht, rfl⟩ := List.mem_iff_getElem.1 hf
   have e2 : (zam S.js)[t] = (zam S.js).getD t 0 := by simp [List.getD_eq_getElem?_getD, ht]
   rw [e2] at hjf ⊢;rw [hpiv i (by omega) t ht];refine hX.hf.zero i hi t ?_
   show t < i
   apply Decidable.byContradiction;intro hge
   by_cases e : t = i
   ·subst e; omega
   ·have := zdH hfs (show i < t by omega) ht;omega
 ·show 0 <= ent (X.map (zeC rows S)) i ((zam S.js).getD k 0) /\ ent (X.map (zeC rows S)) i ((zam S.js).getD k 0) < ent (X.map (zeC rows S)) k ((zam S.js).getD k 0)
  rw [hpiv i (by omega) k hk, hpiv k (by omega) k hk];exact hX.hf.red i k hik hk
 ·obtain ⟨i, hi, rfl⟩ := hg;rw [List.length_map] at hi;exact hker i hi
 ·have h1 := (zgU hB hC g).1 hg
  have h2 : ∀ l, l < S.js.length -> S.d * g (S.js.getD l 0) = -zcG (fun t => (zdi rows S l).getD t 0) (fun t => g ((zam S.js).getD t 0)) (zam S.js).length := fun l hl => by
   have := h1 l hl;rw [zgs hB g hl] at this;omega
  have h3 : Sp (zam S.js).length (zbv (ent X) (zam S.js).length) fun t => g ((zam S.js).getD t 0) := by
   refine (hX.sp _).2 fun l hl => ?_
   have := h2 l hl;unfold zbm
   split
   ·exact ⟨g (S.js.getD l 0), by grind⟩
   ·exact ⟨-g (S.js.getD l 0), by grind⟩
  obtain ⟨c, hc⟩ := h3.coef;rw [List.length_map, hlen]
  -- the difference is in the kernel and vanishes at the free columns
  have hcomb : KerP (ent rows) rows.length fun j => zag (fun i => c i * ent (X.map (zeC rows S)) i j) (zam S.js).length := by
   refine KerP.closed (S := zbv (ent (X.map (zeC rows S))) (zam S.js).length) ?_ (Sp.of_coef (c := c) fun _ _ => rfl);rintro g ⟨i, hi, rfl⟩;exact hker i (by omega)
  have h4 := (zgU hB hC _).1 hcomb
  refine Sp.of_coef (c := c) fun j hj => ?_
  have hfr : ∀ t, t < (zam S.js).length -> zag (fun i => c i * ent (X.map (zeC rows S)) i ((zam S.js).getD t 0)) (zam S.js).length = g ((zam S.js).getD t 0) := fun t ht => by
   rw [hc t ht]
   exact zac fun i hi => by rw [hpiv i (by omega) t ht]
  by_cases hjs : j ∈ S.js
  ·obtain ⟨l, hl, rfl⟩ := List.mem_iff_getElem.1 hjs
   have e2 : S.js[l] = S.js.getD l 0 := by simp [List.getD_eq_getElem?_getD, hl]
   rw [e2];have h5 := h4 l hl;rw [zgs hB _ hl] at h5
   have e3 : zcG (fun t => (zdi rows S l).getD t 0) (fun t => zag (fun i => c i * ent (X.map (zeC rows S)) i ((zam S.js).getD t 0)) (zam S.js).length) (zam S.js).length = zcG (fun t => (zdi rows S l).getD t 0) (fun t => g ((zam S.js).getD t 0)) (zam S.js).length := by
    unfold zcG
    exact zac fun t ht => by simp only [hfr t ht]
   rw [e3] at h5;apply Int.eq_of_mul_eq_mul_left hB.ne;rw [h2 l hl];omega
  ·have hf : j ∈ zam S.js := zbu.2 ⟨hj, hjs⟩;obtain ⟨t, ht, rfl⟩ := List.mem_iff_getElem.1 hf
   have e2 : (zam S.js)[t] = (zam S.js).getD t 0 := by simp [List.getD_eq_getElem?_getD, ht]
   rw [e2];exact (hfr t ht).symm
end Go.Proofs.YtgchabldcnmccabDoor

