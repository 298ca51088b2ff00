import Derived.Test.YtnilimjkibimcaaNA
set_option linter.unusedSimpArgs false
set_option linter.unusedVariables false

namespace Go.Proofs.Ytnilimjkibimcaa
open Go.Zz
def Dep (m : Nat) (e : Nat → Nat → Int) (js : List Nat) (j t : Nat) : Prop := ∃ (D : Int) (c : Nat → Int), D ≠ 0 ∧ (∀ k, t ≤ k → c k = 0) ∧ ∀ i, i < m → D * e i j = psumF (fun k => c k * e i (js.getD k 0)) js.length
theorem psumF_one {f : Nat → Int} {n k : Nat} (hk : k < n) (h : ∀ t, t < n → t ≠ k → f t = 0) : psumF f n = f k := by
  induction n with
  | zero => omega
  | succ n ih =>
    show psumF f n + f n = _
    by_cases e : k = n
    · subst e
      have : psumF f k = psumF (fun _ => 0) k := psumF_congr fun t ht => h t (by omega) (by omega)
      rw [this, psumF_zero, Int.zero_add]
    · rw [ih (by omega) fun t h1 h2 => h t (by omega) h2, h n (by omega) (by omega), Int.add_zero]
theorem Dep.more {m : Nat} {e : Nat → Nat → Int} {js : List Nat} {j t : Nat} (h : Dep m e js j t) (ht : t ≤ js.length) (x : Nat) : Dep m e (js ++ [x]) j t := by
  obtain ⟨D, c, h1, h2, h3⟩ := h
  refine ⟨D, c, h1, h2, fun i hi => ?_⟩
  rw [h3 i hi, List.length_append, List.length_singleton]
  show _ = psumF _ js.length + c js.length * e i ((js ++ [x]).getD js.length 0)
  rw [h2 js.length ht, Int.zero_mul, Int.add_zero]
  exact psumF_congr fun k hk => by
    have : (js ++ [x]).getD k 0 = js.getD k 0 := by simp [List.getD_eq_getElem?_getD, List.getElem?_append_left hk]
    rw [this]
theorem Dep.last {m : Nat} {e : Nat → Nat → Int} {js : List Nat} (j : Nat) : Dep m e (js ++ [j]) j (js.length + 1) := by
  refine ⟨1, fun k => if k = js.length then 1 else 0, by decide, fun k hk => if_neg (by omega), fun i hi => ?_⟩
  rw [List.length_append, List.length_singleton, psumF_one (k := js.length) (by omega) fun t h1 h2 => by
    show (if t = js.length then (1 : Int) else 0) * _ = 0
    rw [if_neg h2, Int.zero_mul]]
  show _ = (if js.length = js.length then (1 : Int) else 0) * _
  rw [if_pos rfl]
  have : (js ++ [j]).getD js.length 0 = j := by simp [List.getD_eq_getElem?_getD]
  rw [this]
theorem Dep.of_border {m : Nat} {e : Nat → Nat → Int} {is js : List Nat} (hl : is.length = js.length) {j : Nat} (hd : minorF e is js ≠ 0) (h : ∀ i, i < m → minorF e (is ++ [i]) (js ++ [j]) = 0) : Dep m e js j js.length := by
  refine ⟨minorF e is js, fun k => if k < js.length then minorF e is (js.set k j) else 0, hd, fun k hk => if_neg (by omega), fun i hi => ?_⟩
  have h1 := border (e := e) hl i j
  rw [h i hi] at h1
  show _ = psumF (fun k => (if k < js.length then minorF e is (js.set k j) else 0) * e i (js.getD k 0)) js.length
  have h2 : psumF (fun k => (if k < js.length then minorF e is (js.set k j) else 0) * e i (js.getD k 0)) js.length = psumF (fun p => minorF e is (js.set p j) * e i (js.getD p 0)) js.length := psumF_congr fun k hk => by rw [if_pos hk]
  rw [h2]
  omega
theorem frame_dep {rows : List (List Int)} {ord : List Nat} : ∀ {k : Nat}, k ≤ ord.length → FrOk rows ord k (frame rows ord k) ∧ ∀ p, p < k → (frame rows ord (p + 1)).js <+: (frame rows ord k).js ∧ Dep rows.length (ent rows) (frame rows ord k).js (ord.getD p 0) (frame rows ord (p + 1)).js.length
  | 0, _ => ⟨FrOk.zero _ _, fun p hp => by omega⟩
  | k + 1, hk => by
    obtain ⟨ih1, ih2⟩ := frame_dep (rows := rows) (ord := ord) (k := k) (by omega)
    have hs := frame_succ (rows := rows) (ord := ord) (k := k) (by omega)
    cases hf : firstRow rows (frame rows ord k).is ((frame rows ord k).js ++ [ord.getD k 0]) with
    | some i =>
      have he := frStep_some hf
      rw [he] at hs
      have hi := (List.find?_range_eq_some.1 hf)
      have hi1 : i < rows.length := by simpa using hi.2.1
      have hi2 : tryAt rows (frame rows ord k).is ((frame rows ord k).js ++ [ord.getD k 0]) i ≠ 0 := by simpa using hi.1
      have hok := ih1.some (by omega) hi1 hi2
      rw [← hs] at hok
      have hjs : (frame rows ord (k + 1)).js = (frame rows ord k).js ++ [ord.getD k 0] := by rw [hs]
      refine ⟨hok, fun p hp => ?_⟩
      by_cases e : p = k
      · subst e
        exact ⟨List.prefix_refl _, by rw [hjs, List.length_append]; exact Dep.last _⟩
      · obtain ⟨h1, h2⟩ := ih2 p (by omega)
        rw [hjs]
        exact ⟨h1.trans (List.prefix_append _ _), h2.more h1.length_le _⟩
    | none =>
      have he := frStep_none hf
      rw [he] at hs
      have hz : ∀ i, i < rows.length → tryAt rows (frame rows ord k).is ((frame rows ord k).js ++ [ord.getD k 0]) i = 0 := fun i hi => by
        have := List.find?_eq_none.1 hf i (by simpa using hi)
        simpa using this
      have hok := ih1.none (by omega)
      rw [hs]
      refine ⟨hok, fun p hp => ?_⟩
      by_cases e : p = k
      · subst e
        rw [hs]
        exact ⟨List.prefix_refl _, Dep.of_border ih1.len (by rw [← ih1.d]; exact ih1.ne) hz⟩
      · exact ih2 p (by omega)
structure Crm (rows : List (List Int)) (S : Fr) : Prop where
  eq : ∀ i j, i < rows.length → j < 6 → S.d * ent rows i j = psumF (fun k => minorF (ent rows) S.is (S.js.set k j) * ent rows i (S.js.getD k 0)) S.js.length
theorem Dep.cramer {rows : List (List Int)} {S : Fr} (hd : S.d = minorF (ent rows) S.is S.js) (hne : S.d ≠ 0) (hi : okI rows S.is) (hl : S.is.length = S.js.length) {j t : Nat} (h : Dep rows.length (ent rows) S.js j t) :
    (∀ i, i < rows.length → S.d * ent rows i j = psumF (fun k => minorF (ent rows) S.is (S.js.set k j) * ent rows i (S.js.getD k 0)) S.js.length) ∧ ∀ k, t ≤ k → k < S.js.length → minorF (ent rows) S.is (S.js.set k j) = 0 := by
  obtain ⟨D, c, h1, h2, h3⟩ := h
  have hR : ∀ k, k < S.js.length → D * minorF (ent rows) S.is (S.js.set k j) = c k * S.d := fun k hk => by
    have hlen : S.is.length = (S.js.take k ++ j :: S.js.drop (k + 1)).length := by simp; omega
    have e1 := minor_clin (e := ent rows) (D := D) (b := j) (m := S.js.length) (c := c) (a := fun l => S.js.getD l 0) hlen fun i hii => h3 i (hi i hii)
    rw [← set_split hk] at e1
    have e2 : psumF (fun l => c l * minorF (ent rows) S.is (S.js.take k ++ S.js.getD l 0 :: S.js.drop (k + 1))) S.js.length = psumF (fun l => c l * (if k = l then S.d else 0)) S.js.length := psumF_congr fun l hll => by
      rw [← set_split hk, rep_diag hl hk hll, hd]
    rw [e1, e2, psumF_one (k := k) hk fun t _ ht => by rw [if_neg (Ne.symm ht), Int.mul_zero], if_pos rfl]
  refine ⟨fun i hii => ?_, fun k hk1 hk2 => ?_⟩
  · have e1 : D * (S.d * ent rows i j) = D * psumF (fun k => minorF (ent rows) S.is (S.js.set k j) * ent rows i (S.js.getD k 0)) S.js.length := by
      have e2 : D * (S.d * ent rows i j) = S.d * (D * ent rows i j) := by grind
      rw [e2, h3 i hii, ← psumF_mul, ← psumF_mul]
      refine psumF_congr fun k hk => ?_
      have := hR k hk
      grind
    exact Int.eq_of_mul_eq_mul_left h1 e1
  · have := hR k hk2
    rw [h2 k hk1, Int.zero_mul] at this
    rcases Int.mul_eq_zero.1 this with h | h
    · exact absurd h h1
    · exact h
theorem frame_crm {rows : List (List Int)} {ord : List Nat} (h6 : ∀ j, j < 6 → ∃ p, p < ord.length ∧ ord.getD p 0 = j) : Crm rows (frame rows ord ord.length) := by
  obtain ⟨hok, hdep⟩ := frame_dep (rows := rows) (ord := ord) (Nat.le_refl _)
  refine ⟨fun i j hi hj => ?_⟩
  obtain ⟨p, hp, rfl⟩ := h6 j hj
  exact ((hdep p hp).2.cramer hok.d hok.ne hok.i hok.len).1 i hi
theorem ord_fwd : ∀ j, j < 6 → ∃ p, p < ([0, 1, 2, 3, 4, 5] : List Nat).length ∧ ([0, 1, 2, 3, 4, 5] : List Nat).getD p 0 = j := by decide
theorem ord_bwd : ∀ j, j < 6 → ∃ p, p < ([5, 4, 3, 2, 1, 0] : List Nat).length ∧ ([5, 4, 3, 2, 1, 0] : List Nat).getD p 0 = j := by decide
theorem fwd_crm (rows : List (List Int)) : Crm rows (fwdF rows) := frame_crm ord_fwd
theorem bwd_crm (rows : List (List Int)) : Crm rows (bwdF rows) := frame_crm ord_bwd
theorem nodup_sub {a b : List Nat} (hn : a.Nodup) (h : ∀ x ∈ a, x ∈ b) : a.length ≤ b.length := by
  induction a generalizing b with
  | nil => simp
  | cons x a ih =>
    obtain ⟨hx, ha⟩ := List.nodup_cons.1 hn
    obtain ⟨s, t, rfl⟩ := List.append_of_mem (h x (by simp))
    have := ih (b := s ++ t) ha fun y hy => by
      have h1 := h y (by simp [hy])
      have h2 : y ≠ x := fun e => hx (e ▸ hy)
      rw [List.mem_append, List.mem_cons] at h1
      rw [List.mem_append]
      rcases h1 with h | h | h
      · exact .inl h
      · exact absurd h h2
      · exact .inr h
    simp at this ⊢
    omega
theorem crm_zero {rows : List (List Int)} {S : Fr} (hC : Crm rows S) (hne : S.d ≠ 0) {is : List Nat} (hi : okI rows is) : ∀ {post pre : List Nat}, is.length = (pre ++ post).length → (∀ x ∈ pre, x ∈ S.js) → (∀ x ∈ post, x < 6) → S.js.length < (pre ++ post).length → minorF (ent rows) is (pre ++ post) = 0
  | [], pre, hl, hp, _, hlt => by
    rw [List.append_nil] at hl hlt ⊢
    refine minor_cdup hl fun hn => ?_
    have := nodup_sub hn hp
    omega
  | b :: post, pre, hl, hp, hb, hlt => by
    have h1 := minor_clin (e := ent rows) (D := S.d) (b := b) (m := S.js.length) (c := fun k => minorF (ent rows) S.is (S.js.set k b)) (a := fun k => S.js.getD k 0) hl fun i hii => hC.eq i b (hi i hii) (hb b (by simp))
    have h2 : psumF (fun l => minorF (ent rows) S.is (S.js.set l b) * minorF (ent rows) is (pre ++ S.js.getD l 0 :: post)) S.js.length = psumF (fun _ => 0) S.js.length := psumF_congr fun k hk => by
      have := crm_zero hC hne hi (post := post) (pre := pre ++ [S.js.getD k 0]) (by simp at hl ⊢; omega) (fun x hx => by
        rw [List.mem_append, List.mem_singleton] at hx
        rcases hx with hx | rfl
        · exact hp x hx
        · exact getD_mem hk) (fun x hx => hb x (by simp [hx])) (by simp at hlt ⊢; omega)
      rw [List.append_assoc] at this
      rw [show pre ++ S.js.getD k 0 :: post = pre ++ ([S.js.getD k 0] ++ post) from rfl, this, Int.mul_zero]
    rw [h2, psumF_zero] at h1
    rcases Int.mul_eq_zero.1 h1 with h | h
    · exact absurd h hne
    · exact h
theorem frames_same {rows : List (List Int)} {S S' : Fr} (hC : Crm rows S) (hB : FrB rows S) (hC' : Crm rows S') (hB' : FrB rows S') : S.js.length = S'.js.length := by
  have key : ∀ {S S' : Fr}, Crm rows S → FrB rows S → FrB rows S' → S'.js.length ≤ S.js.length := fun {S S'} hC hB hB' => by
    apply Decidable.byContradiction
    intro h
    have := crm_zero hC hB.ne hB'.i (post := S'.js) (pre := []) (by simpa using hB'.len) (fun x hx => by cases hx) hB'.j.2 (by simpa using Nat.lt_of_not_le h)
    exact hB'.ne (by rw [hB'.d]; exact this)
  have h1 := key hC hB hB'
  have h2 := key hC' hB' hB
  omega
theorem free_all {js : List Nat} (h : okJ js) : (freeF js).length + js.length = 6 := by
  have h1 : (([0, 1, 2, 3, 4, 5] : List Nat).filter fun v => decide (v ∈ js)).length = js.length := by
    have a1 := nodup_sub (a := ([0, 1, 2, 3, 4, 5] : List Nat).filter fun v => decide (v ∈ js)) (b := js) (List.Nodup.sublist List.filter_sublist (by decide)) fun x hx => by simpa using (List.mem_filter.1 hx).2
    have a2 := nodup_sub (a := js) (b := ([0, 1, 2, 3, 4, 5] : List Nat).filter fun v => decide (v ∈ js)) h.1 fun x hx => List.mem_filter.2 ⟨by
      have := h.2 x hx
      simp only [List.mem_cons, List.not_mem_nil, or_false]
      omega, by simpa using hx⟩
    omega
  have h2 : ∀ (p : Nat → Bool) (l : List Nat), (l.filter fun v => !p v).length + (l.filter p).length = l.length := fun p l => by
    induction l with
    | nil => rfl
    | cons x l ih =>
      cases hp : p x
      · rw [List.filter_cons_of_pos (by simp [hp]), List.filter_cons_of_neg (by simp [hp])]
        simp only [List.length_cons]
        omega
      · rw [List.filter_cons_of_neg (by simp [hp]), List.filter_cons_of_pos (by simp [hp])]
        simp only [List.length_cons]
        omega
  have h3 := h2 (fun v => decide (v ∈ js)) [0, 1, 2, 3, 4, 5]
  have e : ([0, 1, 2, 3, 4, 5] : List Nat).length = 6 := rfl
  have e2 : (freeF js).length = (([0, 1, 2, 3, 4, 5] : List Nat).filter fun v => !decide (v ∈ js)).length := rfl
  omega
theorem fwd_B {rows : List (List Int)} (hv : VM rows) (h6 : ∀ i, i < rows.length → (rw_ rows i).length = 6) : FrB rows (fwdF rows) := (frame_dep (rows := rows) (ord := [0, 1, 2, 3, 4, 5]) (k := 6) (Nat.le_refl _)).1.toB hv h6 okJ_fwd (by decide)
theorem bwd_B {rows : List (List Int)} (hv : VM rows) (h6 : ∀ i, i < rows.length → (rw_ rows i).length = 6) : FrB rows (bwdF rows) := (frame_dep (rows := rows) (ord := [5, 4, 3, 2, 1, 0]) (k := 6) (Nat.le_refl _)).1.toB hv h6 okJ_bwd (by decide)
end Go.Proofs.Ytnilimjkibimcaa

