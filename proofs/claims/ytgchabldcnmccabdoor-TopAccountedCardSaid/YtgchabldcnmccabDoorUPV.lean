import Derived.Test.YtgchabldcnmccabDoorULA
import Derived.Test.YtgchabldcnmccabDoorUPS

set_option linter.unusedSimpArgs false
set_option linter.unusedVariables false

namespace Go.Proofs.YtgchabldcnmccabDoor
open Go.Zz
def vF (v : List Int) (j : Nat) : Int := v.getD j 0
theorem zm0 {rows : List (List Int)} (hv : VM rows) (h6 : Six rows) : TF 6 (ent (zaI rows)) (zaI rows).length fun i => (zbx rows).js.getD i 0 := by
 have hH := zd8 hv h6;have h := hH.hf.toTF
 rwa [<- hH.len] at h
theorem zjM {N m : Nat} {h : Nat -> Nat -> Int} {p : Nat -> Nat} (hT : TF N h m p) {w : Nat -> Int} (hw : Sp N (zbv h m) w) (hs : ∀ k, k < m -> -(h k (p k)) < w (p k) /\ w (p k) < h k (p k)) : ∀ j, j < N -> w j = 0 := by
 obtain ⟨c, hc⟩ := hw.coef
 have key : ∀ i, i < m -> c i = 0 := by
  intro i
  induction i using Nat.strongRecOn with
  | ind i ih =>
   intro hi;have e := hc (p i) (hT.plt i hi);rw [hT.lead hi fun k hk => ih k hk (by omega)] at e;have hp := hT.pos i hi;obtain ⟨h1, h2⟩ := hs i hi;rw [e] at h1 h2;apply Decidable.byContradiction;intro h0
   rcases Int.lt_or_gt_of_ne h0 with hneg | hpos
   ·have := Int.mul_le_mul_of_nonneg_right (show c i <= -1 by omega) (Int.le_of_lt hp);omega
   ·have := Int.mul_le_mul_of_nonneg_right (show 1 <= c i by omega) (Int.le_of_lt hp);omega
 intro j hj;rw [hc j hj, <- za7 m]
 exact zac fun i hi => by rw [key i hi, Int.zero_mul]
theorem ziX {c : Nat -> Int} : ∀ {n : Nat}, (∀ i, i < n -> 1 <= c i) -> 1 <= zaP c n
 | 0, _ => Int.le_refl _
 | n + 1, h => by
  have h1 := ziX (n := n) fun i hi => h i (by omega)
  have h2 := h n (by omega);have := Int.mul_le_mul_of_nonneg_left h2 (show 0 <= zaP c n by omega)
  show 1 <= zaP c n * c n
  omega
def zoF (p x : Int) : Nat := Nat.gcd p.natAbs x.natAbs
def zgF (p x : Int) : Int := p.tdiv (zoF p x : Nat)
def zgO (v : List Int) (k : Int) : List Int := (List.range 6).map fun j => v.getD j 0 * k
theorem ziv {v : List Int} {k : Int} {t : Nat} (h : t < 6) : (zgO v k).getD t 0 = v.getD t 0 * k := by
 unfold zgO;simp [List.getD_eq_getElem?_getD, h]
theorem znV (v : List Int) (k : Int) : (zgO v k).length = 6 := by simp [zgO]
def zcD (h : List (List Int)) (js : List Nat) (v : List Int) : Nat -> List Int
 | 0 => v
 | i + 1 => zmm (zgO (zcD h js v i) (zgF ((rw_ h i).getD (js.getD i 0) 0) ((zcD h js v i).getD (js.getD i 0) 0))) (((zgO (zcD h js v i) (zgF ((rw_ h i).getD (js.getD i 0) 0) ((zcD h js v i).getD (js.getD i 0) 0))).getD (js.getD i 0) 0).tdiv ((rw_ h i).getD (js.getD i 0) 0)) (rw_ h i)
def zdA (h : List (List Int)) (js : List Nat) (v : List Int) (i : Nat) : Int := zgF ((rw_ h i).getD (js.getD i 0) 0) ((zcD h js v i).getD (js.getD i 0) 0)
def zjF (h : List (List Int)) (js : List Nat) (v : List Int) (i : Nat) : List Int := zgO (zcD h js v i) (zdA h js v i)
def zp8 (h : List (List Int)) (js : List Nat) (v : List Int) (i : Nat) : Int := ((zjF h js v i).getD (js.getD i 0) 0).tdiv ((rw_ h i).getD (js.getD i 0) 0)
theorem znt {h : List (List Int)} {js : List Nat} {v : List Int} {i : Nat} : zcD h js v (i + 1) = zmm (zjF h js v i) (zp8 h js v i) (rw_ h i) := rfl
theorem zge {h : List (List Int)} {js : List Nat} {v : List Int} (h6 : v.length = 6) : ∀ i, (zcD h js v i).length = 6
 | 0 => h6
 | i + 1 => zoc _ _ _
theorem znc {p x : Int} (hp : 0 < p) : 1 <= zgF p x /\ zgF p x <= p /\ (∃ y, x * zgF p x = y * p) /\ ∀ t : Int, p ∣ t * x -> zgF p x ∣ t := by
 have hg : 0 < zoF p x := Nat.gcd_pos_of_pos_left _ (by omega);have d1 : ((zoF p x : Nat) : Int) ∣ p := Int.ofNat_dvd_left.2 (Nat.gcd_dvd_left _ _);have d2 : ((zoF p x : Nat) : Int) ∣ x := Int.ofNat_dvd_left.2 (Nat.gcd_dvd_right _ _);have e1 : zgF p x * (zoF p x : Nat) = p := Int.tdiv_mul_cancel d1
 have hmul : ∀ t : Int, p ∣ t * x -> p ∣ t * (zoF p x : Nat) := fun t ht => by
  have h1 : p.natAbs ∣ (t * p).natAbs := Int.natAbs_dvd_natAbs.2 (Int.dvd_mul_left t p);have h2 : p.natAbs ∣ (t * x).natAbs := Int.natAbs_dvd_natAbs.2 ht;have h3 := Nat.dvd_gcd h1 h2;rw [Int.natAbs_mul, Int.natAbs_mul, Nat.gcd_mul_left] at h3
  have h4 : (t * (zoF p x : Nat)).natAbs = t.natAbs * Nat.gcd p.natAbs x.natAbs := by rw [Int.natAbs_mul]; rfl
  rw [<- h4] at h3;exact Int.natAbs_dvd_natAbs.1 h3
 have hg' : 0 < ((zoF p x : Nat) : Int) := by omega
 generalize zgF p x = k at *;generalize ((zoF p x : Nat) : Int) = g at *
 have hk : 1 <= k := by
  apply Decidable.byContradiction;intro hn;have := Int.mul_le_mul_of_nonneg_right (show k <= 0 by omega) (Int.le_of_lt hg');omega
 have hkp : k * 1 <= k * g := Int.mul_le_mul_of_nonneg_left (show 1 <= g by omega) (by omega);refine ⟨hk, by omega, ?_, fun t ht => ?_⟩
 ·obtain ⟨y, rfl⟩ := d2;exact ⟨y, by grind⟩
 ·obtain ⟨z, hz⟩ := hmul t ht;refine ⟨z, Int.eq_of_mul_eq_mul_right (show g ≠ 0 by omega) ?_⟩
  grind
theorem zjL {h : List (List Int)} {js : List Nat} {v : List Int} (hT : TF 6 (ent h) h.length fun i => js.getD i 0) : ∀ i, i <= h.length ->
  (Sp 6 (zbv (ent h) h.length) fun j => zaP (zdA h js v) i * vF v j - vF (zcD h js v i) j) /\ (∀ t, t < i -> vF (zcD h js v i) (js.getD t 0) = 0) /\ (∀ K : Int, (Sp 6 (zbv (ent h) h.length) fun j => K * vF v j) -> ∃ K', K = zaP (zdA h js v) i * K' /\ Sp 6 (zbv (ent h) h.length) fun j => K' * vF (zcD h js v i) j) /\ ∀ t, t < i -> 1 <= zdA h js v t /\ zdA h js v t <= ent h t (js.getD t 0)
 | 0, _ => ⟨.zero fun j _ => by show 1 * v.getD j 0 - v.getD j 0 = 0; omega, fun t ht => by omega, fun K hK => ⟨K, by show K = 1 * K; omega, hK⟩, fun t ht => by omega⟩
 | i + 1, hi => by
  obtain ⟨i1, i2, i3, i4⟩ := zjL (v := v) hT i (by omega);have hp := hT.plt i (by omega);have hpos : 0 < ent h i (js.getD i 0) := hT.pos i (by omega);have hz := hT.zero i (by omega);obtain ⟨k1, k2, ⟨y, k3⟩, k4⟩ := znc (x := vF (zcD h js v i) (js.getD i 0)) hpos;have ek : zgF (ent h i (js.getD i 0)) (vF (zcD h js v i) (js.getD i 0)) = zdA h js v i := rfl;rw [ek] at k1 k2 k3 k4
  have eq : zp8 h js v i = y := by
   unfold zp8 zjF;rw [ziv hp]
   show (vF (zcD h js v i) (js.getD i 0) * zdA h js v i).tdiv (ent h i (js.getD i 0)) = y
   rw [k3];exact Int.mul_tdiv_cancel _ (by omega)
  have eV : ∀ j, j < 6 -> vF (zcD h js v (i + 1)) j = vF (zcD h js v i) j * zdA h js v i - y * ent h i j := fun j hj => by
   show (zcD h js v (i + 1)).getD j 0 = _
   rw [znt, zp9 hj, eq];unfold zjF;rw [ziv hj];rfl
  have hrow := Sp.row (N := 6) (e := ent h) (show i < h.length by omega);refine ⟨?_, fun t ht => ?_, fun K hK => ?_, fun t ht => ?_⟩
  ·refine .add (i1.smul (zdA h js v i) (u := fun j => zdA h js v i * (zaP (zdA h js v) i * vF v j - vF (zcD h js v i) j)) fun _ _ => rfl) (hrow.smul y (u := fun j => y * ent h i j) fun _ _ => rfl) fun j hj => ?_
   show zaP (zdA h js v) i * zdA h js v i * vF v j - vF (zcD h js v (i + 1)) j = _
   rw [eV j hj]
   grind
  ·have hpt := hT.plt t (by omega);rw [eV _ hpt]
   by_cases e : t = i
   ·subst e;rw [k3];omega
   ·rw [i2 t (by omega), hz _ (hT.up t i (by omega) (by omega)), Int.zero_mul, Int.mul_zero];rfl
  ·obtain ⟨K', e1, e2⟩ := i3 K hK;obtain ⟨c, hc⟩ := e2.coef
   have hc0 := hT.coef0 hc (t := i) fun t ht htm => by
    show K' * vF _ _ = 0
    rw [i2 t ht, Int.mul_zero]
   have hl := hc _ hp;rw [hT.lead (k := i) (by omega) fun t ht => hc0 t ht (by omega)] at hl;obtain ⟨z, hz'⟩ := k4 K' ⟨c i, by rw [Int.mul_comm _ (c i)]; exact hl⟩;refine ⟨z, ?_, ?_⟩
   ·show K = zaP (zdA h js v) i * zdA h js v i * z
    rw [e1, hz']
    grind
   ·refine Sp.sub e2 (hrow.smul (z * y) (u := fun j => z * y * ent h i j) fun _ _ => rfl) fun j hj => ?_
    rw [eV j hj, hz']
    grind
  ·by_cases e : t = i
   ·subst e; exact ⟨k1, k2⟩
   ·exact i4 t (by omega)
def zjV (h : List (List Int)) (js : List Nat) (v : List Int) : Prop := ∀ i, i < h.length -> okB 1000000000 (zjF h js v i) /\ okB 1000000000 (zcD h js v (i + 1))
instance (h : List (List Int)) (js : List Nat) (v : List Int) : Decidable (zjV h js v) := by unfold zjV; infer_instance
def znj (rows : List (List Int)) (v : List Int) : Int := if VM rows /\ okB 1000000000 v then if zjV (zaI rows) (zbx rows).js v then 0 else 3 else 1
def zr1 (rows : List (List Int)) (v : List Int) : Int := zaP (zdA (zaI rows) (zbx rows).js v) (zaI rows).length
def zk0 (rows : List (List Int)) (v : List Int) : Int := if znj rows v = 0 then if zcD (zaI rows) (zbx rows).js v (zaI rows).length = zer6 then zr1 rows v else 0 else 0
theorem zjs {f g : Nat -> Int} : ∀ {n : Nat}, (∀ i, i < n -> 1 <= f i /\ f i <= g i) -> 1 <= zaP f n /\ zaP f n <= zaP g n
 | 0, _ => ⟨Int.le_refl _, Int.le_refl _⟩
 | n + 1, h => by
  obtain ⟨h1, h2⟩ := zjs (n := n) fun i hi => h i (by omega)
  obtain ⟨h3, h4⟩ := h n (by omega);refine ⟨ziX fun i hi => (h i hi).1, ?_⟩
  show zaP f n * f n <= zaP g n * g n
  exact Int.mul_le_mul h2 h4 (by omega) (by omega)
theorem zkv {rows : List (List Int)} {v : List Int} (hv : VM rows) (h6 : Six rows) : (∀ t, t < (zaI rows).length -> 1 <= zdA (zaI rows) (zbx rows).js v t /\ zdA (zaI rows) (zbx rows).js v t <= zls rows t) /\ ∀ i, i <= (zaI rows).length -> 1 <= zaP (zdA (zaI rows) (zbx rows).js v) i /\ zaP (zdA (zaI rows) (zbx rows).js v) i <= 1000000000 := by
 have hT := zm0 hv h6;have h1 := (zjL (v := v) hT _ (Nat.le_refl _)).2.2.2;obtain ⟨p1, p2, _⟩ := zkY hv h6;refine ⟨h1, fun i hi => ?_⟩
 obtain ⟨a1, a2⟩ := zjs (f := zdA (zaI rows) (zbx rows).js v) (g := zls rows) (n := i) fun t ht => h1 t (by omega)
 exact ⟨a1, Int.le_trans a2 (Int.le_trans ((zd1 _ p1 _ (Nat.le_refl _)).2 i hi) p2)⟩
theorem zkw {rows : List (List Int)} {v : List Int} (hv : VM rows) (h6 : Six rows) (hv6 : v.length = 6) {K : Int} (hK : 1 <= K) : (zd5 (ent rows) rows.length fun j => K * vF v j) ↔ zcD (zaI rows) (zbx rows).js v (zaI rows).length = zer6 /\ zr1 rows v ∣ K := by
 have hT := zm0 hv h6;have hH := zd8 hv h6;obtain ⟨i1, i2, i3, _⟩ := zjL (v := v) hT _ (Nat.le_refl _);have hN := (zkv (v := v) hv h6).2 _ (Nat.le_refl _)
 have z6 : ∀ j, j < 6 -> zer6.getD j 0 = 0 := by decide
 have eN : zaP (zdA (zaI rows) (zbx rows).js v) (zaI rows).length = zr1 rows v := rfl;rw [eN] at i1 i3 hN
 constructor
 ·intro h;obtain ⟨K', e1, e2⟩ := i3 K ((hH.sp _).2 h);refine ⟨?_, ⟨K', e1⟩⟩
  have hz := zjM hT e2 fun k hk => by
   have e := i2 k hk;have := hT.pos k hk
   try dsimp only at this ⊢
   rw [e, Int.mul_zero];omega
  have hK' : K' ≠ 0 := fun h0 => by rw [h0, Int.mul_zero] at e1; omega
  refine zbf (by rw [zge hv6]; rfl) fun t ht => ?_
  rw [zge hv6] at ht;have e := hz t ht;rw [z6 t ht]
  rcases Int.mul_eq_zero.1 e with h | h
  ·exact absurd h hK'
  ·exact h
 ·rintro ⟨h1, c, rfl⟩;refine (hH.sp _).1 (i1.smul c fun j hj => ?_);rw [h1];have e : vF zer6 j = 0 := z6 j hj;rw [e]
  grind
end Go.Proofs.YtgchabldcnmccabDoor

