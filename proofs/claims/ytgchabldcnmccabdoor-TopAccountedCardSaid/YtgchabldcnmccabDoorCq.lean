import Derived.Test.YtgchabldcnmccabDoorCo
import Derived.Test.YtgchabldcnmccabDoorCp

set_option linter.unusedSimpArgs false
set_option linter.unusedVariables false

namespace Go.Proofs.YtgchabldcnmccabDoor
open Go.Zz
set_option maxRecDepth 100000
set_option maxHeartbeats 8000000
theorem g8 {r : List Int} (h6 : r.length = 6) : WF D11 (.func 8 [] []) [.agg (zaa r)] ⟨[], []⟩ fun y m' => y = .bool (decide (okB 48 r)) := by
 have hml : (zaa r).length = 6 := by rw [zae, h6]
 refine zx0 rfl (zaz Tryd.func8 cir8) (by show 1 <= 18; decide) ?_;unfold ir8;simp only [zaw, List.replicate, zNA, zAN]
 repeat' (first |refine zE (by intro; simp (disch := omega) only [go_sem]; rfl) ?_ |refine zy1 ?_ |refine zy2 ?_ |refine zy3 ?_ |(simp only [fl1]) |refine zy5 ?_)
 refine zx9 (fun m s => ∃ T j, s = ⟨T, [some ⟨0, zaa r⟩], []⟩ /\ T.length = 18 /\ gt T 1 = .pref 0 0 0 /\ gt T 3 = .int .i64 (j : Nat) /\ m + j = 6 /\ ∀ t, t < j -> -48 <= r.getD t 0 /\ r.getD t 0 <= 48) ?_ 6 _ ⟨_, 0, rfl, rfl, rfl, rfl, by omega, fun t ht => by omega⟩;rintro m _ ⟨T, j, rfl, hT, g1, g3, hm, hz⟩;obtain ⟨f, rfl⟩ := exG hT;clear hT;change f 1 = _ at g1;change f 3 = _ at g3;simp only [tb, Nat.reduceAdd, g1, g3]
 by_cases hj : j < 6
 ·have hia := zaK (r := r) (j := j) (by omega);generalize hx : r.getD j 0 = x at *
  by_cases hxb : -48 <= x /\ x <= 48
  ·have hxb1 := hxb
   repeat' (first |refine zx1 rfl ?_ |refine zE (by intro; simp (disch := omega) only [go_sem, Zz.look, Int.reduceNeg, Int.reduceAdd, hia, Nat.mul_one, Nat.zero_add]; rfl) ?_ |refine zy1 ?_ |refine zy2 ?_ |refine zy3 ?_ |(simp only [fl1, zbr]) |refine zy6 ?_ |refine zy5 ?_ |refine zx7 rfl (by intro hp; simp only [hp, decide_true]; rfl) (by intro hp; simp only [hp, decide_false]; rfl) (fun hp => ?_) (fun hp => ?_) <;> try (exfalso; first | omega | contradiction) |refine zy4 rfl (fun hp => ?_) (fun hp => ?_) <;> try (exfalso; first | omega | contradiction))
   exact ⟨m - 1, by omega, _, j + 1, rfl, rfl, rfl, rfl, by omega, fun t ht => by
    by_cases e : t = j
    ·subst e; rw [hx]; exact hxb
    ·exact hz t (by omega)⟩
  ·have hxb1 := hxb
   have hd : decide (okB 48 r) = false := decide_eq_false fun h => hxb (by have := h j hj; rw [hx] at this; exact this)
   repeat' (first |refine zx1 rfl ?_ |refine zN rfl ?_ |refine zE (by intro; simp (disch := omega) only [go_sem, Zz.look, Int.reduceNeg, Int.reduceAdd, hia, Nat.mul_one, Nat.zero_add]; rfl) ?_ |refine zy1 ?_ |refine zy2 ?_ |refine zy3 ?_ |(simp only [fl1, fl2, fl5, fl8]) |refine zy0 rfl ?_ |refine zy6 ?_ |refine zy7 ?_ |refine zy5 ?_ |refine zx7 rfl (by intro hp; simp only [hp, decide_true]; rfl) (by intro hp; simp only [hp, decide_false]; rfl) (fun hp => ?_) (fun hp => ?_) <;> try (exfalso; first | omega | contradiction) |refine zy4 rfl (fun hp => ?_) (fun hp => ?_) <;> try (exfalso; first | omega | contradiction))
   all_goals exact ⟨_, rfl, by rw [hd]; rfl⟩
 ·have hje : j = 6 := by omega
  subst hje;have hd : decide (okB 48 r) = true := decide_eq_true hz
  repeat' (first |refine zE (by intro; simp (disch := omega) only [go_sem]; rfl) ?_ |refine zy1 ?_ |refine zy2 ?_ |refine zy3 ?_ |(simp only [fl1]) |refine zy9 rfl ?_ |refine zy8 ?_ |refine zy7 ?_)
  exact ⟨_, rfl, by rw [hd]; rfl⟩
theorem s8b {r : List Int} (h6 : r.length = 6) {m : Mem} : zar D11 8 [.agg (zaa r)] m = some (.bool (decide (okB 48 r)), m) :=
 zaB (za1 (zjj r) rfl) ((g8 h6).mono fun y m' h => by rw [h]; rfl)
noncomputable def D12 : Env := D11.put 8 (zar D11 8)
theorem zsz : EnvOk Tryd.prog D12 := Env.put_ok zp1 (zax zp1 (zaq Tryd.func8 (by kernel_rfl)))
noncomputable def D13 : Env := D12.put 9 (zaA M4 9)
theorem ztz : EnvOk Tryd.prog D13 := Env.put_ok zsz (za6 M4_ok (zaq Tryd.func9 (by kernel_rfl)))
noncomputable def D14 : Env := D13.put 13 (zaA E24 13)
theorem zp0 : EnvOk Tryd.prog D14 := Env.put_ok ztz (za6 zsD (zaq Tryd.func13 (by kernel_rfl)))
def hCs : List Nm := [⟨⟨⟨[115, 121, 110, 116, 111, 110, 105, 99]⟩⟩, [-4, 4, -1, 0, 0, 0]⟩, ⟨⟨⟨[115, 99, 104, 105, 115, 109, 97]⟩⟩, [-15, 8, 1, 0, 0, 0]⟩, ⟨⟨⟨[115, 101, 112, 116, 105, 109, 97, 108]⟩⟩, [6, -2, 0, -1, 0, 0]⟩]
def hR : List (List Int) := [[-4, 4, -1, 0, 0, 0], [-15, 8, 1, 0, 0, 0], [6, -2, 0, -1, 0, 0]]
theorem hh1 : decide (NmOk hCs) = true := by kernel_rfl
theorem hh2 : zhC hR = 0 := by kernel_rfl
theorem hh3 : zes (zcW hR) [7, 0, -3, 0, 0, 0] = true := by kernel_rfl
theorem hh4 : zes (zcW hR) [-1, 1, 0, 0, 0, 0] = false := by kernel_rfl
theorem hh5 : zn9 (zcW hR) [7, 0, -3, 0, 0, 0] = 0 := by kernel_rfl
theorem hh6 : zn9 (zcW hR) [-1, 1, 0, 0, 0, 0] = 0 := by kernel_rfl
theorem hh7 : zk0 [[-8, 8, -2, 0, 0, 0]] [-4, 4, -1, 0, 0, 0] = 2 := by kernel_rfl
theorem hh8 : znj [[-8, 8, -2, 0, 0, 0]] [-4, 4, -1, 0, 0, 0] = 0 := by kernel_rfl
theorem hh9 : zb1 hR = 3 := by kernel_rfl
theorem hh10 : IsC hR [7, 0, -3, 0, 0, 0] [2, -1, 0] := ⟨rfl, by decide⟩
end Go.Proofs.YtgchabldcnmccabDoor

