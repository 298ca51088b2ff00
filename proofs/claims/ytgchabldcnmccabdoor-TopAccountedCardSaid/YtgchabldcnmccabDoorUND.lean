import Derived.Test.YtgchabldcnmccabDoorUNC
import Derived.Test.YtgchabldcnmccabDoorAbsI

set_option linter.unusedSimpArgs false
set_option linter.unusedVariables false

namespace Go.Proofs.YtgchabldcnmccabDoor
open Go.Zz
def run (s : Nat) : Nat -> List Nat
 | 0 => []
 | k + 1 => s :: run (s + 1) k
def zt4 (n : Nat) : List Nat -> Option (List Nat)
 | [] => none
 | a :: t => match zt4 n t with
  | some t' => some (a :: t')
  | none => if a + (t.length + 1) < n then some (run (a + 1) (t.length + 1)) else none
def zsR (n : Nat) : Nat -> List Nat -> List (List Nat)
 | 0, _ => []
 | f + 1, at_ => at_ :: match zt4 n at_ with
  | some a' => zsR n f a'
  | none => []
def zpV (n k : Nat) : List (List Nat) := zsR n 531441 (run 0 k)
def Inc (n : Nat) : Nat -> List Nat -> Prop
 | _, [] => True
 | s, a :: t => s <= a /\ a < n /\ Inc n (a + 1) t
theorem Inc.mono {n : Nat} {s s' : Nat} {l : List Nat} (h : Inc n s l) (hs : s' <= s) : Inc n s' l := by
 cases l with
 | nil => trivial
 | cons a t => exact ⟨by have := h.1; omega, h.2.1, h.2.2⟩
theorem Inc.run {n : Nat} : ∀ {k s : Nat}, s + k <= n -> Inc n s (run s k)
 | 0, _, _ => trivial
 | k + 1, s, h => ⟨Nat.le_refl _, by omega, Inc.run (by omega)⟩
theorem Inc.lt {n : Nat} : ∀ {s : Nat} {l : List Nat}, Inc n s l -> ∀ x ∈ l, s <= x /\ x < n
 | s, [], _, x, hx => by simp at hx
 | s, a :: t, h, x, hx => by
  rcases List.mem_cons.1 hx with rfl | hx
  ·exact ⟨h.1, h.2.1⟩
  ·have := h.2.2.lt x hx;have := h.1;omega
theorem Inc.nodup {n : Nat} : ∀ {s : Nat} {l : List Nat}, Inc n s l -> l.Nodup
 | s, [], _ => List.nodup_nil
 | s, a :: t, h => List.nodup_cons.2 ⟨fun hm => by have := h.2.2.lt a hm; omega, h.2.2.nodup⟩
theorem Inc.okJ {s : Nat} {l : List Nat} (h : Inc 6 s l) : okJ l := ⟨h.nodup, fun x hx => (h.lt x hx).2⟩
def val (n : Nat) : List Nat -> Nat
 | [] => 0
 | a :: t => a * (n + 1) ^ t.length + val n t
def lexLe : List Nat -> List Nat -> Prop
 | a :: t, c :: u => a < c \/ a = c /\ lexLe t u
 | _, _ => True
set_option maxRecDepth 100000
set_option maxHeartbeats 8000000
noncomputable def E23 : Env := E22
theorem ztH : EnvOk Tryd.prog E23 := ztO
set_option maxRecDepth 100000
set_option maxHeartbeats 8000000
def zso (rows : List (List Int)) (is : List Nat) (g : Nat) (js : List Nat) : Nat := Nat.gcd g (zbm (zab (ent rows) is js)).toNat
def gRow (rows : List (List Int)) (k : Nat) (g : Nat) (is : List Nat) : Nat := (zpV 6 k).foldl (zso rows is) g
def divK (rows : List (List Int)) (k : Nat) : Nat := (zpV rows.length k).foldl (gRow rows k) 0
def divF (rows : List (List Int)) : List Int := (List.range (zb1 rows)).map fun i => ((divK rows (i + 1) : Nat) : Int)
def divR (rows : List (List Int)) : List Int := if VM rows then divF rows else []
theorem zk9 {m : Nat} {l : List Nat} (hn : l.Nodup) (h : ∀ x ∈ l, x < m) : l.length <= m := by
 have h1 := zlc (a := fun _ => 1) (fun _ => by decide) m l hn h
 have h2 : ∀ l : List Nat, (l.map fun _ => (1 : Int)).sum = l.length := fun l => by
  induction l with
  | nil => rfl
  | cons x l ih => simp only [List.map_cons, List.sum_cons, ih, List.length_cons]; omega
 have h3 : ∀ m, zag (fun _ => 1) m = m := fun m => by
  induction m with
  | zero => rfl
  | succ m ih => simp only [zag, ih]; omega
 rw [h2, h3] at h1;omega
theorem znX {rows : List (List Int)} (hB : FrB rows (zbx rows)) : zb1 rows <= 6 /\ zb1 rows <= rows.length := by
 have h1 := hB.six;have h2 := hB.len;have e : zb1 rows = (zbx rows).is.length := rfl;exact ⟨by omega, by rw [e]; exact zk9 hB.nd hB.i⟩
theorem zqE {rows : List (List Int)} (hv : VM rows) (h6 : ∀ i, i < rows.length -> (rw_ rows i).length = 6) {is js : List Nat} (hi : Inc rows.length 0 is) (hj : Inc 6 0 js) : okI rows is /\ okW rows 1 js /\ okP rows 1 is /\ -1000000000 <= zab (ent rows) is js /\ zab (ent rows) is js <= 1000000000 := by
 have h1 : okI rows is := fun x hx => (hi.lt x hx).2
 have h2 := hj.okJ.toW h6;have h3 := (zch (by decide) h1 h2).1;have h4 := zc7 hv hi.nodup h1;refine ⟨h1, h2, fun s hs => ?_, by omega, by omega⟩
 have := zc7 hv (is := s) (hi.nodup.sublist hs.sublist) fun x hx => h1 x (hs.subset hx)
 omega
noncomputable def E24 : Env := E23
theorem zsD : EnvOk Tryd.prog E24 := ztH
end Go.Proofs.YtgchabldcnmccabDoor

