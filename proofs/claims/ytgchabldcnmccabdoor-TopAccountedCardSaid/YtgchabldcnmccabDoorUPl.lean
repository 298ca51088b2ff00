import Derived.Test.YtgchabldcnmccabDoorUPk
import Derived.Test.YtgchabldcnmccabDoorUNk

set_option linter.unusedSimpArgs false
set_option linter.unusedVariables false

namespace Go.Proofs.YtgchabldcnmccabDoor
open Go.Zz
theorem zpg {A B c c' xs : List AV} {a j : Nat} (hA : A.length = a) (h : Zz.over c j xs = some c') : Zz.over (A ++ (c ++ B)) (a + j) xs = some (A ++ (c' ++ B)) := by
 unfold Zz.over at h ⊢
 split at h
 ·rename_i hle;simp only [Option.some.injEq] at h;subst h hA;rw [if_pos (by simp; omega)]
  have e1 : (A ++ (c ++ B)).take (A.length + j) = A ++ c.take j := by
   rw [List.take_length_add_append, List.take_append_of_le_length (by omega)]
  have e2 : (A ++ (c ++ B)).drop (A.length + j + xs.length) = c.drop (j + xs.length) ++ B := by
   rw [Nat.add_assoc, List.drop_length_add_append, List.drop_append_of_le_length hle]
  rw [e1, e2];simp
 ·cases h
theorem zgD {R : List (List Int)} (h6 : ∀ r ∈ R, r.length = 6) {i : Nat} (hi : i < R.length) (r : List Int) : zbi (R.set i r) = zbi (R.take i) ++ (zaa r ++ zbi (R.drop (i + 1))) /\ (zbi (R.take i)).length = i * 6 := by
 refine ⟨?_, ?_⟩
 ·rw [List.set_eq_take_append_cons_drop, if_pos hi];simp [zbi]
 ·rw [zdQ fun r hr => h6 r (List.mem_of_mem_take hr), List.length_take, Nat.min_eq_left (by omega)]
theorem zqP {R : List (List Int)} {i : Nat} (hi : i < R.length) : R.getD i [] ∈ R := by
 rw [List.getD_eq_getElem?_getD, List.getElem?_eq_getElem hi];exact List.getElem_mem hi
theorem zf6 {R : List (List Int)} {i : Nat} (hi : i < R.length) : R.set i (R.getD i []) = R := by
 rw [List.getD_eq_getElem?_getD, List.getElem?_eq_getElem hi];exact List.set_getElem_self hi
theorem zpy {c xs : List AV} (h : c.length = xs.length) : Zz.over c 0 xs = some xs := by
 unfold Zz.over;rw [if_pos (by omega)];simp [<- h]
theorem zfI {R : List (List Int)} (h6 : ∀ r ∈ R, r.length = 6) {i : Nat} (hi : i < R.length) {r : List Int} (hr : r.length = 6) : Zz.over (zbi R) (i * 6) (zaa r) = some (zbi (R.set i r)) := by
 obtain ⟨e1, e2⟩ := zgD h6 hi (R.getD i []);rw [zf6 hi] at e1;rw [e1, (zgD h6 hi r).1];exact zpg (j := 0) e2 (zpy (by rw [zae, zae, h6 _ (zqP hi), hr]))
def ztb (R : List (List Int)) (i k : Nat) : List (List Int) := (R.set i (R.getD k [])).set k (R.getD i [])
def negC (R : List (List Int)) (k : Nat) : Nat -> List (List Int)
 | 0 => R
 | t + 1 => setE (negC R k t) k t (-(ent (negC R k t) k t))
def mulC (R : List (List Int)) (i k : Nat) (f : Int) : Nat -> List (List Int)
 | 0 => R
 | t + 1 => setE (mulC R i k f t) i t (ent (mulC R i k f t) i t + f * ent (mulC R i k f t) k t)
def changedR (R : List (List Int)) (i k : Nat) (f : Int) : List (List Int) := if i = k then negC (ztb R i k) k 6 else mulC (negC (ztb R i k) k 6) i k f 6
end Go.Proofs.YtgchabldcnmccabDoor

