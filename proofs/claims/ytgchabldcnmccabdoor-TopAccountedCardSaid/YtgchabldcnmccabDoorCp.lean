import Derived.Test.YtgchabldcnmccabDoorCC
import Derived.Test.YtgchabldcnmccabDoorULC
import Derived.Test.YtgchabldcnmccabDoorUTg
import Derived.Test.YtgchabldcnmccabDoorUPo

set_option linter.unusedSimpArgs false
set_option linter.unusedVariables false

namespace Go.Proofs.YtgchabldcnmccabDoor
open Go.Zz
theorem ztX {rows : List (List Int)} {y : Nat -> Int} (hv : VM rows) (h6 : Six rows) (hr : zb1 rows = rows.length) : KerP (ent (zf1 rows)) (zf1 rows).length y ↔ ∃ K : Int, 1 <= K /\ zd5 (ent rows) rows.length fun j => K * y j := by
 have hK := zj6 hv h6
 constructor
 ·intro hy;obtain ⟨q, hq, hl, hW⟩ := zii hr;have h := zon hv h6 hK hy (is := List.range' 0 rows.length) (js := zbk q) (by rw [hl]; simp) (fun x hx => by simpa using hx) (ztN q hq) (by rw [hl, hr]);generalize zab (ent rows) (List.range' 0 rows.length) (zbk q) = W at *
  by_cases hp : 0 < W
  ·exact ⟨W, by omega, h⟩
  ·refine ⟨-W, by omega, h.smul (-1) fun j _ => ?_⟩;simp [Int.neg_mul]
 ·rintro ⟨K, hK1, h⟩ i hi;have h0 := zmM hK h i hi
  have e : zag (fun j => ent (zf1 rows) i j * (K * y j)) 6 = K * zag (fun j => ent (zf1 rows) i j * y j) 6 := by
   rw [<- zaG]
   exact zac fun j _ => by simp only [Int.mul_left_comm]
  rw [e] at h0
  rcases Int.mul_eq_zero.1 h0 with h | h
  ·omega
  ·exact h
theorem ziD {cs : List (List Int)} (he : zhC cs = 0) : zg6 cs /\ VT (zf1 cs) /\ zcW cs = zf1 cs := by
 unfold zhC at he
 split at he
 ·rename_i h1
  split at he
  ·cases he
  ·split at he
   ·rename_i h2; exact ⟨h1, h2, if_pos ⟨h1, h2⟩⟩
   ·cases he
 ·cases he
theorem zmB {cs : List (List Int)} (hc : zg6 cs) (he : zhC cs ≠ 0) : zhC cs = 4 \/ zhC cs = 3 := by
 unfold zhC at he ⊢;rw [if_pos hc] at he ⊢
 split
 ·exact .inl rfl
 ·rename_i h1;rw [if_neg h1] at he
  split
  ·rename_i h2;rw [if_pos h2] at he;exact absurd rfl he
  ·exact .inr rfl
theorem zo2 {rows : List (List Int)} {v : List Int} (ht : VT rows) (hv : okB 48 v) : zes rows v = true ↔ KerP (ent rows) rows.length (vF v) := by
 unfold zes;rw [decide_eq_true_iff]
 constructor
 ·intro h i hi;have := h.2 i hi;rw [zkW hi] at this;exact this
 ·intro h;refine ⟨⟨ht, hv⟩, fun t hi => ?_⟩;rw [zkW hi];exact h t hi
theorem zpB {rows : List (List Int)} {v : List Int} (h6 : Six rows) (hr : zb1 rows = rows.length) (he : zhC rows = 0) (hv : okB 48 v) : zes (zcW rows) v = true ↔ ∃ K : Int, 1 <= K /\ zd5 (ent rows) rows.length fun j => K * vF v j := by
 obtain ⟨hc, ht, e⟩ := ziD he;rw [e, zo2 ht hv, ztX hc.1 h6 hr]
theorem zqI {rows : List (List Int)} {v : List Int} (hm : VM rows) (h6 : Six rows) (hv6 : v.length = 6) (he : znj rows v = 0) : (0 < zk0 rows v ↔ ∃ K : Int, 1 <= K /\ zd5 (ent rows) rows.length fun j => K * vF v j) /\ (zk0 rows v = 1 ↔ zd5 (ent rows) rows.length (vF v)) := by
 have hN := ((zkv (v := v) hm h6).2 _ (Nat.le_refl _)).1;have eN : zaP (zdA (zaI rows) (zbx rows).js v) (zaI rows).length = zr1 rows v := rfl;rw [eN] at hN;have h1 := zkw hm h6 hv6 (K := 1) (Int.le_refl _)
 have e1 : zd5 (ent rows) rows.length (vF v) ↔ zd5 (ent rows) rows.length fun j => 1 * vF v j := ⟨fun h => h.of_eq fun j _ => Int.one_mul _, fun h => h.of_eq fun j _ => (Int.one_mul _).symm⟩
 have hNN := zkw hm h6 hv6 hN;unfold zk0;rw [if_pos he]
 constructor
 ·constructor
  ·intro h
   split at h
   ·rename_i hz;exact ⟨_, hN, hNN.2 ⟨hz, Int.dvd_refl _⟩⟩
   ·omega
  ·rintro ⟨K, hK, h⟩;rw [if_pos ((zkw hm h6 hv6 hK).1 h).1];omega
 ·rw [e1, h1]
  constructor
  ·intro h
   split at h
   ·rename_i hz;exact ⟨hz, h ▸ Int.dvd_refl _⟩
   ·omega
  ·rintro ⟨hz, hd⟩;rw [if_pos hz];have := Int.le_of_dvd (by omega) hd;omega
theorem zqt {rows : List (List Int)} {v : List Int} (hm : VM rows) (hv : okB 48 v) : znj rows v = 0 \/ znj rows v = 3 := by
 unfold znj;rw [if_pos ⟨hm, fun j hj => by have := hv j hj; omega⟩]
 split
 ·exact .inl rfl
 ·exact .inr rfl
theorem zk3 {rows gens : List (List Int)} {v : List Int} (ht : zes rows v = true) : zoX rows gens v = zer6 := by
 unfold zoX
 split
 ·refine zbf (by simp [zcB]; rfl) fun k hk => ?_
  have hk : k < 6 := by simpa [zcB] using hk
  have h0 := (of_decide_eq_true ht).2
  have e : (zcB rows gens v).getD k 0 = zee rows gens v rows.length k := by simp [zcB, List.getD_eq_getElem?_getD, hk]
  have z : zer6.getD k 0 = 0 := by
   match k, hk with
   | 0, _ => rfl
   | 1, _ => rfl
   | 2, _ => rfl
   | 3, _ => rfl
   | 4, _ => rfl
   | 5, _ => rfl
  rw [e, z];unfold zee;exact (zac (g := fun _ => 0) fun t ht => by rw [h0 t ht, Int.zero_mul]).trans (za7 rows.length)
 ·rfl
end Go.Proofs.YtgchabldcnmccabDoor

