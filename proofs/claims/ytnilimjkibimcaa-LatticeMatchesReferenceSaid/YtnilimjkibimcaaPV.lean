import Derived.Test.YtnilimjkibimcaaLA
import Derived.Test.YtnilimjkibimcaaPS

set_option linter.unusedSimpArgs false
set_option linter.unusedVariables false

namespace Go.Proofs.Ytnilimjkibimcaa
open Go.Zz
def vF (v : List Int) (j : Nat) : Int := v.getD j 0
theorem rem_in {h : List (List Int)} {js : List Nat} {v : List Int} : ∀ i, i ≤ h.length → Sp 6 (rowsP (ent h) h.length) fun j => vF v j - vF (remL h js v i) j
 | 0, _ => .zero fun j _ => by show v.getD j 0 - v.getD j 0 = 0; omega
 | i + 1, hi => by
  have ih := rem_in (h := h) (js := js) (v := v) i (by omega)
  refine .add ih ((Sp.row (e := ent h) (i := i) (by omega)).smul (quoL h js v i) (u := fun j => quoL h js v i * ent h i j) fun _ _ => rfl) fun j hj => ?_
  show v.getD j 0 - (remL h js v (i + 1)).getD j 0 = v.getD j 0 - (remL h js v i).getD j 0 + quoL h js v i * (rw_ h i).getD j 0
  rw [remL_succ, sub_at hj]
  omega
theorem rem_small {h : List (List Int)} {js : List Nat} {v : List Int} (hT : TF 6 (ent h) h.length fun i => js.getD i 0) : ∀ i, i ≤ h.length → ∀ k, k < i → 0 ≤ vF (remL h js v i) (js.getD k 0) ∧ vF (remL h js v i) (js.getD k 0) < ent h k (js.getD k 0)
 | 0, _, k, hk => by omega
 | i + 1, hi, k, hk => by
  have hp := hT.plt k (by omega)
  have hpos := hT.pos k (by omega)
  have e : vF (remL h js v (i + 1)) (js.getD k 0) = vF (remL h js v i) (js.getD k 0) - quoL h js v i * ent h i (js.getD k 0) := by
   show (remL h js v (i + 1)).getD _ 0 = _
   rw [remL_succ, sub_at hp]
   rfl
  rw [e]
  by_cases hki : k = i
  ·subst hki
   have eq : quoL h js v k = vF (remL h js v k) (js.getD k 0) / ent h k (js.getD k 0) := rfl
   rw [eq]
   have h1 := Int.emod_def (vF (remL h js v k) (js.getD k 0)) (ent h k (js.getD k 0))
   have h2 := Int.emod_nonneg (vF (remL h js v k) (js.getD k 0)) (b := ent h k (js.getD k 0)) (by omega)
   have h3 := Int.emod_lt_of_pos (vF (remL h js v k) (js.getD k 0)) hpos
   have h4 := Int.mul_comm (ent h k (js.getD k 0)) (vF (remL h js v k) (js.getD k 0) / ent h k (js.getD k 0))
   omega
  ·have hz : ent h i (js.getD k 0) = 0 := hT.zero i (by omega) _ (hT.up k i (by omega) (by omega))
   rw [hz, Int.mul_zero, Int.sub_zero]
   exact rem_small hT i (by omega) k (by omega)
theorem small_zero {N m : Nat} {h : Nat → Nat → Int} {p : Nat → Nat} (hT : TF N h m p) {w : Nat → Int} (hw : Sp N (rowsP h m) w) (hs : ∀ k, k < m → 0 ≤ w (p k) ∧ w (p k) < h k (p k)) : ∀ j, j < N → w j = 0 := by
 obtain ⟨c, hc⟩ := hw.coef
 have key : ∀ k, k ≤ m → ∀ i, i < k → c i = 0 := by
  intro k
  induction k with
  | zero => exact fun _ i hi => by omega
  | succ k ih =>
   intro hk i hi
   have ih := ih (by omega)
   by_cases hik : i = k
   ·subst hik
    have e := hc (p i) (hT.plt i (by omega))
    rw [hT.lead (by omega) ih] at e
    have hp := hT.pos i (by omega)
    obtain ⟨h1, h2⟩ := hs i (by omega)
    rw [e] at h1 h2
    by_cases h0 : c i = 0
    ·exact h0
    ·exfalso
     rcases Int.lt_or_gt_of_ne h0 with hneg | hpos
     ·have := Int.mul_le_mul_of_nonneg_right (show c i ≤ -1 by omega) (Int.le_of_lt hp)
      omega
     ·have := Int.mul_le_mul_of_nonneg_right (show 1 ≤ c i by omega) (Int.le_of_lt hp)
      omega
   ·exact ih i (by omega)
 intro j hj
 rw [hc j hj, ← psumF_zero m]
 exact psumF_congr fun i hi => by rw [key m (Nat.le_refl _) i hi, Int.zero_mul]
theorem rem_zero_iff {rows : List (List Int)} {v : List Int} (hv : VM rows) (h6 : Six rows) (hv6 : v.length = 6) : remL (hermF rows) (fwdF rows).js v (hermF rows).length = zer6 ↔ RowL (ent rows) rows.length (vF v) := by
 have hH := herm_lat hv h6
 have hHf := hH.hf.toTF
 rw [← hH.len] at hHf
 have hin := rem_in (h := hermF rows) (js := (fwdF rows).js) (v := v) _ (Nat.le_refl _)
 constructor
 ·intro h
  refine (hH.sp _).1 (hin.of_eq fun j hj => ?_)
  rw [h]
  show vF v j = vF v j - zer6.getD j 0
  have : zer6.getD j 0 = 0 := by
   have : ∀ j, j < 6 → zer6.getD j 0 = 0 := by decide
   exact this j hj
  omega
 ·intro h
  have hz := small_zero hHf (w := vF (remL (hermF rows) (fwdF rows).js v (hermF rows).length)) (Sp.sub ((hH.sp _).2 h) hin fun j _ => by omega) fun k hk => rem_small hHf _ (Nat.le_refl _) k hk
  refine getD_ext (by rw [remL_len hv6]; rfl) fun t ht => ?_
  rw [remL_len hv6] at ht
  have e := hz t ht
  have : ∀ j, j < 6 → zer6.getD j 0 = 0 := by decide
  rw [this t ht]
  exact e
theorem memD_iff {rows : List (List Int)} {v : List Int} (h6 : Six rows) (hv6 : v.length = 6) (he : errD rows v = 0) : remD rows v = zer6 ↔ RowL (ent rows) rows.length (vF v) := by
 unfold errD at he
 split at he
 ·rename_i h1
  split at he
  ·rename_i h2
   rw [show remD rows v = remL (hermF rows) (fwdF rows).js v (hermF rows).length from if_pos ⟨h1, h2⟩]
   exact rem_zero_iff h1.1 h6 hv6
  ·cases he
 ·cases he
theorem herm_tf {rows : List (List Int)} (hv : VM rows) (h6 : Six rows) : TF 6 (ent (hermF rows)) (hermF rows).length fun i => (fwdF rows).js.getD i 0 := by
 have hH := herm_lat hv h6
 have h := hH.hf.toTF
 rwa [← hH.len] at h
theorem small_zero2 {N m : Nat} {h : Nat → Nat → Int} {p : Nat → Nat} (hT : TF N h m p) {w : Nat → Int} (hw : Sp N (rowsP h m) w) (hs : ∀ k, k < m → -(h k (p k)) < w (p k) ∧ w (p k) < h k (p k)) : ∀ j, j < N → w j = 0 := by
 obtain ⟨c, hc⟩ := hw.coef
 have key : ∀ i, i < m → c i = 0 := by
  intro i
  induction i using Nat.strongRecOn with
  | ind i ih =>
   intro hi
   have e := hc (p i) (hT.plt i hi)
   rw [hT.lead hi fun k hk => ih k hk (by omega)] at e
   have hp := hT.pos i hi
   obtain ⟨h1, h2⟩ := hs i hi
   rw [e] at h1 h2
   apply Decidable.byContradiction
   intro h0
   rcases Int.lt_or_gt_of_ne h0 with hneg | hpos
   ·have := Int.mul_le_mul_of_nonneg_right (show c i ≤ -1 by omega) (Int.le_of_lt hp)
    omega
   ·have := Int.mul_le_mul_of_nonneg_right (show 1 ≤ c i by omega) (Int.le_of_lt hp)
    omega
 intro j hj
 rw [hc j hj, ← psumF_zero m]
 exact psumF_congr fun i hi => by rw [key i hi, Int.zero_mul]
theorem coef_quo {h : List (List Int)} {js : List Nat} {v : List Int} {c : Nat → Int} (hT : TF 6 (ent h) h.length fun i => js.getD i 0) (hv : ∀ j, j < 6 → vF v j = psumF (fun k => c k * ent h k j) h.length) : ∀ i, i ≤ h.length → (∀ j, j < 6 → vF (remL h js v i) j = psumF (fun k => (if k < i then 0 else c k) * ent h k j) h.length) ∧ ∀ k, k < i → quoL h js v k = c k
 | 0, _ => ⟨fun j hj => by
   show vF v j = _
   rw [hv j hj]
   exact psumF_congr fun k _ => by rw [if_neg (by omega)], fun k hk => by omega⟩
 | i + 1, hi => by
  obtain ⟨i1, i2⟩ := coef_quo hT hv i (by omega)
  have hp := hT.plt i (by omega)
  have hpos := hT.pos i (by omega)
  have e := i1 _ hp
  rw [hT.lead (c := fun k => if k < i then 0 else c k) (k := i) (by omega) fun k hk => if_pos hk] at e
  try dsimp only at e
  rw [if_neg (by omega)] at e
  have eq : quoL h js v i = c i := by
   show vF (remL h js v i) (js.getD i 0) / ent h i (js.getD i 0) = c i
   rw [e]
   exact Int.mul_ediv_cancel _ (Int.ne_of_gt hpos)
  refine ⟨fun j hj => ?_, fun k hk => ?_⟩
  ·have e1 : vF (remL h js v (i + 1)) j = vF (remL h js v i) j - c i * ent h i j := by
    show (remL h js v (i + 1)).getD j 0 = _
    rw [remL_succ, sub_at hj, eq]
    rfl
   have e2 : psumF (fun k => (if k < i then 0 else c k) * ent h k j) h.length = psumF (fun k => (if k < i + 1 then 0 else c k) * ent h k j) h.length + c i * ent h i j := by
    have e3 : psumF (fun k => (if k = i then c i else 0) * ent h k j) h.length = c i * ent h i j := by
     rw [psumF_one (k := i) (by omega) fun t _ ht => by
      show (if t = i then c i else 0) * ent h t j = 0
      rw [if_neg ht, Int.zero_mul]]
     show (if i = i then c i else 0) * ent h i j = _
     rw [if_pos rfl]
    rw [← e3, ← psumF_add]
    refine psumF_congr fun k _ => ?_
    by_cases hki : k = i
    ·subst hki
     rw [if_neg (by omega), if_pos (by omega), if_pos rfl, Int.zero_mul, Int.zero_add]
    ·rw [if_neg hki, Int.zero_mul, Int.add_zero]
     by_cases hlt : k < i
     ·rw [if_pos hlt, if_pos (by omega)]
     ·rw [if_neg hlt, if_neg (by omega)]
   rw [e1, i1 j hj, e2]
   omega
  ·by_cases hki : k = i
   ·subst hki; exact eq
   ·exact i2 k (by omega)
theorem pprod_ge1 {c : Nat → Int} : ∀ {n : Nat}, (∀ i, i < n → 1 ≤ c i) → 1 ≤ pprodF c n
 | 0, _ => Int.le_refl _
 | n + 1, h => by
  have h1 := pprod_ge1 (n := n) fun i hi => h i (by omega)
  have h2 := h n (by omega)
  have := Int.mul_le_mul_of_nonneg_left h2 (show 0 ≤ pprodF c n by omega)
  show 1 ≤ pprodF c n * c n
  omega
def gcdN (p x : Int) : Nat := Nat.gcd p.natAbs x.natAbs
def ordK1 (p x : Int) : Int := p.tdiv (gcdN p x : Nat)
def scaleV (v : List Int) (k : Int) : List Int := (List.range 6).map fun j => v.getD j 0 * k
theorem scale_at {v : List Int} {k : Int} {t : Nat} (h : t < 6) : (scaleV v k).getD t 0 = v.getD t 0 * k := by
 unfold scaleV
 simp [List.getD_eq_getElem?_getD, h]
theorem scale_len (v : List Int) (k : Int) : (scaleV v k).length = 6 := by simp [scaleV]
def ordV (h : List (List Int)) (js : List Nat) (v : List Int) : Nat → List Int
 | 0 => v
 | i + 1 => subV (scaleV (ordV h js v i) (ordK1 ((rw_ h i).getD (js.getD i 0) 0) ((ordV h js v i).getD (js.getD i 0) 0))) (((scaleV (ordV h js v i) (ordK1 ((rw_ h i).getD (js.getD i 0) 0) ((ordV h js v i).getD (js.getD i 0) 0))).getD (js.getD i 0) 0).tdiv ((rw_ h i).getD (js.getD i 0) 0)) (rw_ h i)
def ordF (h : List (List Int)) (js : List Nat) (v : List Int) (i : Nat) : Int := ordK1 ((rw_ h i).getD (js.getD i 0) 0) ((ordV h js v i).getD (js.getD i 0) 0)
def ordS (h : List (List Int)) (js : List Nat) (v : List Int) (i : Nat) : List Int := scaleV (ordV h js v i) (ordF h js v i)
def ordQ (h : List (List Int)) (js : List Nat) (v : List Int) (i : Nat) : Int := ((ordS h js v i).getD (js.getD i 0) 0).tdiv ((rw_ h i).getD (js.getD i 0) 0)
theorem ordV_succ {h : List (List Int)} {js : List Nat} {v : List Int} {i : Nat} : ordV h js v (i + 1) = subV (ordS h js v i) (ordQ h js v i) (rw_ h i) := rfl
theorem ordV_len {h : List (List Int)} {js : List Nat} {v : List Int} (h6 : v.length = 6) : ∀ i, (ordV h js v i).length = 6
 | 0 => h6
 | i + 1 => sub_len _ _ _
theorem ordK_spec {p x : Int} (hp : 0 < p) : 1 ≤ ordK1 p x ∧ ordK1 p x ≤ p ∧ (∃ y, x * ordK1 p x = y * p) ∧ ∀ t : Int, p ∣ t * x → ordK1 p x ∣ t := by
 have hg : 0 < gcdN p x := Nat.gcd_pos_of_pos_left _ (by omega)
 have d1 : ((gcdN p x : Nat) : Int) ∣ p := Int.ofNat_dvd_left.2 (Nat.gcd_dvd_left _ _)
 have d2 : ((gcdN p x : Nat) : Int) ∣ x := Int.ofNat_dvd_left.2 (Nat.gcd_dvd_right _ _)
 have e1 : ordK1 p x * (gcdN p x : Nat) = p := Int.tdiv_mul_cancel d1
 have hmul : ∀ t : Int, p ∣ t * x → p ∣ t * (gcdN p x : Nat) := fun t ht => by
  have h1 : p.natAbs ∣ (t * p).natAbs := Int.natAbs_dvd_natAbs.2 (Int.dvd_mul_left t p)
  have h2 : p.natAbs ∣ (t * x).natAbs := Int.natAbs_dvd_natAbs.2 ht
  have h3 := Nat.dvd_gcd h1 h2
  rw [Int.natAbs_mul, Int.natAbs_mul, Nat.gcd_mul_left] at h3
  have h4 : (t * (gcdN p x : Nat)).natAbs = t.natAbs * Nat.gcd p.natAbs x.natAbs := by rw [Int.natAbs_mul]; rfl
  rw [← h4] at h3
  exact Int.natAbs_dvd_natAbs.1 h3
 have hg' : 0 < ((gcdN p x : Nat) : Int) := by omega
 generalize ordK1 p x = k at *
 generalize ((gcdN p x : Nat) : Int) = g at *
 have hk : 1 ≤ k := by
  apply Decidable.byContradiction
  intro hn
  have := Int.mul_le_mul_of_nonneg_right (show k ≤ 0 by omega) (Int.le_of_lt hg')
  omega
 have hkp : k * 1 ≤ k * g := Int.mul_le_mul_of_nonneg_left (show 1 ≤ g by omega) (by omega)
 refine ⟨hk, by omega, ?_, fun t ht => ?_⟩
 ·obtain ⟨y, rfl⟩ := d2
  exact ⟨y, by grind⟩
 ·obtain ⟨z, hz⟩ := hmul t ht
  refine ⟨z, Int.eq_of_mul_eq_mul_right (show g ≠ 0 by omega) ?_⟩
  grind
theorem ord_inv {h : List (List Int)} {js : List Nat} {v : List Int} (hT : TF 6 (ent h) h.length fun i => js.getD i 0) : ∀ i, i ≤ h.length →
  (Sp 6 (rowsP (ent h) h.length) fun j => pprodF (ordF h js v) i * vF v j - vF (ordV h js v i) j) ∧ (∀ t, t < i → vF (ordV h js v i) (js.getD t 0) = 0) ∧ (∀ K : Int, (Sp 6 (rowsP (ent h) h.length) fun j => K * vF v j) → ∃ K', K = pprodF (ordF h js v) i * K' ∧ Sp 6 (rowsP (ent h) h.length) fun j => K' * vF (ordV h js v i) j) ∧ ∀ t, t < i → 1 ≤ ordF h js v t ∧ ordF h js v t ≤ ent h t (js.getD t 0)
 | 0, _ => ⟨.zero fun j _ => by show 1 * v.getD j 0 - v.getD j 0 = 0; omega, fun t ht => by omega, fun K hK => ⟨K, by show K = 1 * K; omega, hK⟩, fun t ht => by omega⟩
 | i + 1, hi => by
  obtain ⟨i1, i2, i3, i4⟩ := ord_inv (v := v) hT i (by omega)
  have hp := hT.plt i (by omega)
  have hpos : 0 < ent h i (js.getD i 0) := hT.pos i (by omega)
  have hz := hT.zero i (by omega)
  obtain ⟨k1, k2, ⟨y, k3⟩, k4⟩ := ordK_spec (x := vF (ordV h js v i) (js.getD i 0)) hpos
  have ek : ordK1 (ent h i (js.getD i 0)) (vF (ordV h js v i) (js.getD i 0)) = ordF h js v i := rfl
  rw [ek] at k1 k2 k3 k4
  have eq : ordQ h js v i = y := by
   unfold ordQ ordS
   rw [scale_at hp]
   show (vF (ordV h js v i) (js.getD i 0) * ordF h js v i).tdiv (ent h i (js.getD i 0)) = y
   rw [k3]
   exact Int.mul_tdiv_cancel _ (by omega)
  have eV : ∀ j, j < 6 → vF (ordV h js v (i + 1)) j = vF (ordV h js v i) j * ordF h js v i - y * ent h i j := fun j hj => by
   show (ordV h js v (i + 1)).getD j 0 = _
   rw [ordV_succ, sub_at hj, eq]
   unfold ordS
   rw [scale_at hj]
   rfl
  have hrow := Sp.row (N := 6) (e := ent h) (show i < h.length by omega)
  refine ⟨?_, fun t ht => ?_, fun K hK => ?_, fun t ht => ?_⟩
  ·refine .add (i1.smul (ordF h js v i) (u := fun j => ordF h js v i * (pprodF (ordF h js v) i * vF v j - vF (ordV h js v i) j)) fun _ _ => rfl) (hrow.smul y (u := fun j => y * ent h i j) fun _ _ => rfl) fun j hj => ?_
   show pprodF (ordF h js v) i * ordF h js v i * vF v j - vF (ordV h js v (i + 1)) j = _
   rw [eV j hj]
   grind
  ·have hpt := hT.plt t (by omega)
   rw [eV _ hpt]
   by_cases e : t = i
   ·subst e
    rw [k3]
    omega
   ·rw [i2 t (by omega), hz _ (hT.up t i (by omega) (by omega)), Int.zero_mul, Int.mul_zero]
    rfl
  ·obtain ⟨K', e1, e2⟩ := i3 K hK
   obtain ⟨c, hc⟩ := e2.coef
   have hc0 := hT.coef0 hc (t := i) fun t ht htm => by
    show K' * vF _ _ = 0
    rw [i2 t ht, Int.mul_zero]
   have hl := hc _ hp
   rw [hT.lead (k := i) (by omega) fun t ht => hc0 t ht (by omega)] at hl
   obtain ⟨z, hz'⟩ := k4 K' ⟨c i, by rw [Int.mul_comm _ (c i)]; exact hl⟩
   refine ⟨z, ?_, ?_⟩
   ·show K = pprodF (ordF h js v) i * ordF h js v i * z
    rw [e1, hz']
    grind
   ·refine Sp.sub e2 (hrow.smul (z * y) (u := fun j => z * y * ent h i j) fun _ _ => rfl) fun j hj => ?_
    rw [eV j hj, hz']
    grind
  ·by_cases e : t = i
   ·subst e; exact ⟨k1, k2⟩
   ·exact i4 t (by omega)
def ordOk (h : List (List Int)) (js : List Nat) (v : List Int) : Prop := ∀ i, i < h.length → okB 1000000000 (ordS h js v i) ∧ okB 1000000000 (ordV h js v (i + 1))
instance (h : List (List Int)) (js : List Nat) (v : List Int) : Decidable (ordOk h js v) := by unfold ordOk; infer_instance
def errO (rows : List (List Int)) (v : List Int) : Int := if VM rows ∧ okB 1000000000 v then if ordOk (hermF rows) (fwdF rows).js v then 0 else 3 else 1
def ordN (rows : List (List Int)) (v : List Int) : Int := pprodF (ordF (hermF rows) (fwdF rows).js v) (hermF rows).length
def ordD (rows : List (List Int)) (v : List Int) : Int := if errO rows v = 0 then if ordV (hermF rows) (fwdF rows).js v (hermF rows).length = zer6 then ordN rows v else 0 else 0
theorem pprod_le2 {f g : Nat → Int} : ∀ {n : Nat}, (∀ i, i < n → 1 ≤ f i ∧ f i ≤ g i) → 1 ≤ pprodF f n ∧ pprodF f n ≤ pprodF g n
 | 0, _ => ⟨Int.le_refl _, Int.le_refl _⟩
 | n + 1, h => by
  obtain ⟨h1, h2⟩ := pprod_le2 (n := n) fun i hi => h i (by omega)
  obtain ⟨h3, h4⟩ := h n (by omega)
  refine ⟨pprod_ge1 fun i hi => (h i hi).1, ?_⟩
  show pprodF f n * f n ≤ pprodF g n * g n
  exact Int.mul_le_mul h2 h4 (by omega) (by omega)
theorem ordF_bd {rows : List (List Int)} {v : List Int} (hv : VM rows) (h6 : Six rows) : (∀ t, t < (hermF rows).length → 1 ≤ ordF (hermF rows) (fwdF rows).js v t ∧ ordF (hermF rows) (fwdF rows).js v t ≤ pivP rows t) ∧ ∀ i, i ≤ (hermF rows).length → 1 ≤ pprodF (ordF (hermF rows) (fwdF rows).js v) i ∧ pprodF (ordF (hermF rows) (fwdF rows).js v) i ≤ 1000000000 := by
 have hT := herm_tf hv h6
 have h1 := (ord_inv (v := v) hT _ (Nat.le_refl _)).2.2.2
 obtain ⟨p1, p2, _⟩ := pivP_all hv h6
 refine ⟨h1, fun i hi => ?_⟩
 obtain ⟨a1, a2⟩ := pprod_le2 (f := ordF (hermF rows) (fwdF rows).js v) (g := pivP rows) (n := i) fun t ht => h1 t (by omega)
 exact ⟨a1, Int.le_trans a2 (Int.le_trans ((pprod_mono _ p1 _ (Nat.le_refl _)).2 i hi) p2)⟩
theorem ord_iff {rows : List (List Int)} {v : List Int} (hv : VM rows) (h6 : Six rows) (hv6 : v.length = 6) {K : Int} (hK : 1 ≤ K) : (RowL (ent rows) rows.length fun j => K * vF v j) ↔ ordV (hermF rows) (fwdF rows).js v (hermF rows).length = zer6 ∧ ordN rows v ∣ K := by
 have hT := herm_tf hv h6
 have hH := herm_lat hv h6
 obtain ⟨i1, i2, i3, _⟩ := ord_inv (v := v) hT _ (Nat.le_refl _)
 have hN := (ordF_bd (v := v) hv h6).2 _ (Nat.le_refl _)
 have z6 : ∀ j, j < 6 → zer6.getD j 0 = 0 := by decide
 have eN : pprodF (ordF (hermF rows) (fwdF rows).js v) (hermF rows).length = ordN rows v := rfl
 rw [eN] at i1 i3 hN
 constructor
 ·intro h
  obtain ⟨K', e1, e2⟩ := i3 K ((hH.sp _).2 h)
  refine ⟨?_, ⟨K', e1⟩⟩
  have hz := small_zero2 hT e2 fun k hk => by
   have e := i2 k hk
   have := hT.pos k hk
   try dsimp only at this ⊢
   rw [e, Int.mul_zero]
   omega
  have hK' : K' ≠ 0 := fun h0 => by rw [h0, Int.mul_zero] at e1; omega
  refine getD_ext (by rw [ordV_len hv6]; rfl) fun t ht => ?_
  rw [ordV_len hv6] at ht
  have e := hz t ht
  rw [z6 t ht]
  rcases Int.mul_eq_zero.1 e with h | h
  ·exact absurd h hK'
  ·exact h
 ·rintro ⟨h1, c, rfl⟩
  refine (hH.sp _).1 (i1.smul c fun j hj => ?_)
  rw [h1]
  have e : vF zer6 j = 0 := z6 j hj
  rw [e]
  grind
end Go.Proofs.Ytnilimjkibimcaa

