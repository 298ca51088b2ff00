import Derived.Test.YtgchabldcnmccabDoorCA

set_option linter.unusedSimpArgs false
set_option linter.unusedVariables false

namespace Go.Proofs.YtgchabldcnmccabDoor
open Go.Zz
set_option maxRecDepth 100000
set_option maxHeartbeats 8000000
def zaL (cs : List Nm) : List (List Int) := cs.map Nm.v
def ivF (rows : List (List Int)) : List AV := (rows.map zaa).flatten
theorem zgb (l : List (List Int)) : (ivF l).all za9 = true := by
 rw [List.all_eq_true];intro v hv;obtain ⟨c, hc, hvc⟩ := List.mem_flatten.1 hv;obtain ⟨p, _, rfl⟩ := List.mem_map.1 hc;obtain ⟨n, _, rfl⟩ := List.mem_map.1 hvc;rfl
theorem znB {rows : List (List Int)} (h6 : ∀ r ∈ rows, r.length = 6) : RwL (slV (ivF rows) rows.length) rows := by
 have hcs : ∀ c ∈ rows.map zaa, c.length = 6 := by
  intro c hc;obtain ⟨p, hp, rfl⟩ := List.mem_map.1 hc;rw [zae];exact h6 p hp
 unfold slV
 split
 ·rename_i h;have : rows = [] := List.eq_nil_of_length_eq_zero h;subst this;exact ⟨hcs, .inl ⟨rfl, rfl⟩⟩
 ·exact ⟨hcs, .inr ⟨false, by rw [List.length_map]; rfl⟩⟩
theorem f17 {z : AV} {cs : List Nm} (hz : NmL z cs) (hn : cs.length <= 1000) : WF D3 (.func 17 [] []) [z] ⟨[], []⟩ fun y m' => resV m'.heap y = some (slV (ivF (zaL cs)) cs.length) := by
 refine zx0 rfl (zaz Tryd.func17 cir17) (by show 1 <= 20; decide) ?_;unfold ir17;simp only [zaw, List.replicate, zNA, zAN]
 repeat' (first |refine zE (by intro; simp (disch := omega) only [go_sem]; rfl) ?_ |refine zy1 ?_ |refine zy2 ?_ |refine zy3 ?_ |(simp only [fl1]) |refine zy5 ?_)
 refine zx9 (fun m st => ∃ T i x H, st = ⟨T, H, []⟩ /\ T.length = 20 /\ gt T 0 = z /\ gt T 3 = x /\ gt T 4 = .int .i64 (i : Nat) /\ m + i = cs.length /\ SlH H x 6 (ivF (zaL (cs.take i))) i) ?_ cs.length _ ⟨_, 0, .snil, [], rfl, rfl, rfl, rfl, rfl, by omega, ⟨rfl, .inl ⟨rfl, rfl⟩⟩⟩;rintro m _ ⟨T, i, x, H, rfl, hT, g0, g3, g4, hml, hsl⟩;obtain ⟨f, rfl⟩ := exG hT;clear hT;change f 0 = _ at g0;change f 3 = _ at g3;change f 4 = _ at g4;simp only [tb, Nat.reduceAdd, g0, g3, g4]
 by_cases hi : i < cs.length
 ·obtain ⟨⟨hw1, hw2⟩, hat⟩ := hz.at hi
  have hnx : ivF (zaL (cs.take (i + 1))) = ivF (zaL (cs.take i)) ++ zaa (zbR cs i).v := by
   have e : zbR cs i = cs[i] := by simp [zbR, hi]
   rw [List.take_succ_eq_append_getElem hi, e];unfold zaL ivF;rw [List.map_append, List.map_append, List.flatten_append];simp
  generalize zbR cs i = c at *;obtain ⟨n, v⟩ := c;simp only at hw1 hw2 hat hnx
  obtain ⟨v0, v1, v2, v3, v4, v5, rfl⟩ : ∃ v0 v1 v2 v3 v4 v5, v = [v0, v1, v2, v3, v4, v5] := by
   match v, hw2 with
   | [a, b, c, d, e, g], _ => exact ⟨a, b, c, d, e, g, rfl⟩
  simp only [List.map_cons, List.map_nil, zCA, zNA] at hat
  have hcut : ∀ {x1 x2 x3 x4 x5 x6 : AV} {l : List AV}, Zz.cut (x1 :: x2 :: x3 :: x4 :: x5 :: x6 :: l) 0 6 = some [x1, x2, x3, x4, x5, x6] := fun {x1 x2 x3 x4 x5 x6 l} => by simp [Zz.cut]
  repeat' (first |refine zE (by intro; simp (disch := omega) only [go_sem, za0, zfo, zaZ, Option.bind_eq_bind, Nat.reduceAdd, hat, hcut, List.drop_succ_cons, List.drop_zero]; rfl) ?_ |refine zE (by intro; exact zaf (by simp only [go_sem]; exact hz.len)) ?_ |refine zy1 ?_ |refine zy2 ?_ |refine zy3 ?_ |(simp only [fl1, fl4]) |refine zy6 ?_ |refine zy5 ?_ |refine zy4 rfl (fun hp => ?_) (fun hp => ?_) <;> try (exfalso; first | omega | contradiction))
  refine WO.appendSl (c := zaa [v0, v1, v2, v3, v4, v5]) (z := x) rfl rfl (hsl.keep fun j hj => List.getElem?_append_left (zkK hsl hj)) (by decide) (lk0 rfl) rfl ⟨by show (i + 1) * 48 <= _; omega, by omega⟩ ?_;intro z' H' e2 e3 e4;simp only [pt8, pt2]
  repeat' (first |refine zE (by intro; simp (disch := omega) only [go_sem]; rfl) ?_ |refine zy2 ?_ |refine zy3 ?_ |(simp only [zbr]))
  exact ⟨m - 1, by omega, _, i + 1, z', H', rfl, rfl, rfl, rfl, rfl, by omega, hnx ▸ e2⟩
 ·have hie : i = cs.length := by omega
  subst hie;rw [List.take_length] at hsl
  repeat' (first |refine zE (by intro; simp (disch := omega) only [go_sem]; rfl) ?_ |refine zE (by intro; exact zaf (by simp only [go_sem]; exact hz.len)) ?_ |refine zy1 ?_ |refine zy2 ?_ |refine zy3 ?_ |(simp only [fl1]) |refine zy8 ?_ |refine zy7 ?_ |refine zy4 rfl (fun hp => ?_) (fun hp => ?_) <;> try (exfalso; first | omega | contradiction))
  refine ⟨_, rfl, ?_⟩
  have e1 := hsl.resA (zgb _) fun j _ => rfl
  obtain ⟨_, ⟨rfl, _⟩ | ⟨_, id, g, rfl, _⟩⟩ := hsl <;> exact e1
theorem NmL.pureA {x : AV} {cs : List Nm} (h : NmL x cs) : Zz.pureA x = true := by
 obtain ⟨_, _, ⟨rfl, _⟩ | ⟨f, rfl⟩⟩ := h
 ·rfl
 ·show (cs.map Nm.cells).flatten.all za9 = true
  rw [List.all_eq_true];intro v hv;obtain ⟨c, hc, hvc⟩ := List.mem_flatten.1 hv;exact List.all_eq_true.1 (Nm.flat cs c hc) v hvc
theorem s17 {z : AV} {cs : List Nm} (hz : NmL z cs) (hn : cs.length <= 1000) {m : Mem} : zar D3 17 [z] m = some (slV (ivF (zaL cs)) cs.length, m) :=
 zaB (by rw [List.all_cons, hz.pureA]; rfl) (f17 hz hn)
noncomputable def D4 : Env := D3.put 17 (zar D3 17)
theorem ztD : EnvOk Tryd.prog D4 := Env.put_ok zsd (zax zsd (zaq Tryd.func17 (by kernel_rfl)))
set_option maxRecDepth 100000
set_option maxHeartbeats 8000000
instance (cs : List Nm) (i : Nat) : Decidable (zrW cs i) := by unfold zrW; infer_instance
def NmOk (cs : List Nm) : Prop := 1 <= cs.length /\ cs.length <= 6 /\ (∀ i < cs.length, zbF (zbR cs i).s /\ okB 48 (zbR cs i).v) /\ zrW cs cs.length /\ VM (zaL cs) /\ zb1 (zaL cs) = cs.length
instance (cs : List Nm) : Decidable (NmOk cs) := by unfold NmOk; infer_instance
theorem zn7 {a b : ByteArray} : zb6 (.eql false) [.str a, .str b] = some (.bool (decide (a = b))) := by
 have h : (a.toList == b.toList) = decide (a = b) := by
  rw [Bool.eq_iff_iff];simp only [beq_iff_eq, decide_eq_true_eq, ByteArray.toList_eq]
  constructor
  ·intro h
   cases a; cases b
   simp only [Array.toList_inj] at h;rw [h]
  ·rintro rfl; rfl
 show some (AV.bool (a.toList == b.toList)) = _
 rw [h]
theorem zbU (cs : List Nm) : (zaL cs).length = cs.length := by simp [zaL]
theorem zf4 {x : AV} {cs : List Nm} (h : NmL x cs) : ∀ r ∈ zaL cs, r.length = 6 := by
 intro r hr;obtain ⟨c, hc, rfl⟩ := List.mem_map.1 hr;exact (h.1 c hc).2
theorem f5 {z : AV} {cs : List Nm} (hz : NmL z cs) : WF D4 (.func 5 [] []) [z] ⟨[], []⟩ fun y m' => y = .bool (decide (NmOk cs)) := by
 by_cases h16 : 1 <= cs.length /\ cs.length <= 6
 ·obtain ⟨h1, h6⟩ := h16;refine zx0 rfl (zaz Tryd.func5 cir5) (by show 1 <= 71; decide) ?_;unfold ir5;simp only [zaw, List.replicate, zNA, zAN]
  repeat' (first |refine zx1 rfl ?_ |refine zE (by intro; simp (disch := omega) only [go_sem]; rfl) ?_ |refine zE (by intro; exact zaf (by simp only [go_sem]; exact hz.len)) ?_ |refine zy1 ?_ |refine zy2 ?_ |refine zy3 ?_ |(simp only [fl1]) |refine zy6 ?_ |refine zy5 ?_ |refine zx7 rfl (by intro hp; simp only [hp, decide_true]; rfl) (by intro hp; simp only [hp, decide_false]; rfl) (fun hp => ?_) (fun hp => ?_) <;> try (exfalso; first | omega | contradiction) |refine zy4 rfl (fun hp => ?_) (fun hp => ?_) <;> try (exfalso; first | omega | contradiction))
  refine zx9 (fun m st => ∃ T i, st = ⟨T, [], []⟩ /\ T.length = 71 /\ gt T 0 = z /\ gt T 3 = .int .i64 (i : Nat) /\ m + i = cs.length /\ (∀ j < i, zbF (zbR cs j).s /\ okB 48 (zbR cs j).v) /\ zrW cs i) ?_ cs.length _ ⟨_, 0, rfl, rfl, rfl, rfl, by omega, fun j hj => by omega, fun j hj => by omega⟩;rintro m _ ⟨T, i, rfl, hT, g0, g3, hml, hok, hdf⟩;obtain ⟨f, rfl⟩ := exG hT;clear hT;change f 0 = _ at g0;change f 3 = _ at g3;simp only [tb, Nat.reduceAdd, g0, g3]
  by_cases hi : i < cs.length
  ·obtain ⟨⟨hw1, hw2⟩, hat⟩ := hz.at hi
   have hno : ¬ (zbF (zbR cs i).s /\ okB 48 (zbR cs i).v) -> decide (NmOk cs) = false := fun h => decide_eq_false fun hn => h (hn.2.2.1 i hi)
   have hnx : zbF (zbR cs i).s /\ okB 48 (zbR cs i).v -> ∀ j < i + 1, zbF (zbR cs j).s /\ okB 48 (zbR cs j).v := fun h j hj => by
    by_cases e : j = i
    ·rw [e]; exact h
    ·exact hok j (by omega)
   have hdn : (∀ k < i, (zbR cs k).s ≠ (zbR cs i).s) -> zrW cs (i + 1) := fun h j hj => by
    by_cases e : j = i
    ·rw [e]; exact h
    ·exact hdf j (by omega)
   have hdno : ∀ k < i, (zbR cs k).s = (zbR cs i).s -> decide (NmOk cs) = false := fun k hk h => decide_eq_false fun hn => hn.2.2.2.1 i hi k hk h
   generalize hc : zbR cs i = c at *;obtain ⟨n, v⟩ := c;simp only at hw1 hw2 hat hnx hno hdn hdno
   obtain ⟨v0, v1, v2, v3, v4, v5, rfl⟩ : ∃ v0 v1 v2 v3 v4 v5, v = [v0, v1, v2, v3, v4, v5] := by
    match v, hw2 with
    | [a, b, c, d, e, g], _ => exact ⟨a, b, c, d, e, g, rfl⟩
   simp only [List.map_cons, List.map_nil, zCA, zNA] at hat
   have hcut : ∀ {x1 x2 x3 x4 x5 x6 : AV} {l : List AV}, Zz.cut (x1 :: x2 :: x3 :: x4 :: x5 :: x6 :: l) 0 6 = some [x1, x2, x3, x4, x5, x6] := fun {x1 x2 x3 x4 x5 x6 l} => by simp [Zz.cut]
   have zrE := fun m => s14 (m := m) hw1
   have hs15 := fun m => s15 (m := m) (r := [v0, v1, v2, v3, v4, v5]) rfl
   by_cases hg : zbF n /\ okB 48 [v0, v1, v2, v3, v4, v5]
   ·rw [decide_eq_true hg.1] at zrE;rw [decide_eq_true hg.2] at hs15
    repeat' (first |refine zx1 rfl ?_ |refine zE (by intro; simp (disch := omega) only [go_sem, hat, hcut, List.drop_succ_cons, List.drop_zero]; rfl) ?_ |refine zE (by intro; exact zaf (by simp only [go_sem]; exact hz.len)) ?_ |refine zS rfl rfl (zrE _) ?_ |refine zS rfl rfl (hs15 _) ?_ |refine zy1 ?_ |refine zy2 ?_ |refine zy3 ?_ |(simp only [fl1]) |refine zy9 rfl ?_ |refine zy6 ?_ |refine zy5 ?_ |refine zy4 rfl (fun hp => ?_) (fun hp => ?_) <;> try (exfalso; first | omega | contradiction))
    refine zx9 (fun m st => ∃ T k, st = ⟨T, [], []⟩ /\ T.length = 71 /\ gt T 0 = z /\ gt T 3 = .int .i64 (i : Nat) /\ gt T 6 = .int .i64 (k : Nat) /\ m + k = i /\ ∀ j < k, (zbR cs j).s ≠ n) ?_ i _ ⟨_, 0, rfl, rfl, rfl, rfl, rfl, by omega, fun j hj => by omega⟩;rintro m2 _ ⟨T, k, rfl, hT, g0, g3, g6, hmk, hne⟩;obtain ⟨f, rfl⟩ := exG hT;clear hT;change f 0 = _ at g0;change f 3 = _ at g3;change f 6 = _ at g6;simp only [tb, Nat.reduceAdd, g0, g3, g6]
    by_cases hk : k < i
    ·obtain ⟨⟨kw1, kw2⟩, kat⟩ := hz.at (i := k) (by omega);have hdk := hdno k hk
     have hnk : (zbR cs k).s ≠ n -> ∀ j < k + 1, (zbR cs j).s ≠ n := fun h j hj => by
      by_cases e : j = k
      ·rw [e]; exact h
      ·exact hne j (by omega)
     generalize zbR cs k = ck at *;obtain ⟨nk, vk⟩ := ck;simp only at kw1 kw2 kat hdk hnk
     by_cases he : nk = n
     ·rw [hdk he]
      have hse : zb6 (.eql false) [.str nk, .str n] = some (.bool true) := by rw [zn7, decide_eq_true he]
      obtain ⟨w0, w1, w2, w3, w4, w5, rfl⟩ : ∃ v0 v1 v2 v3 v4 v5, vk = [v0, v1, v2, v3, v4, v5] := by
       match vk, kw2 with
       | [a, b, c, d, e, g], _ => exact ⟨a, b, c, d, e, g, rfl⟩
      simp only [List.map_cons, List.map_nil, zCA, zNA] at kat
      repeat' (first |refine zE (by intro; simp (disch := omega) only [go_sem, hat, kat, hse, List.map_cons, List.map_nil, List.drop_zero]; rfl) ?_ |refine zy1 ?_ |refine zy2 ?_ |refine zy3 ?_ |(simp only [fl1, fl2, fl5, fl8]) |refine zx5 rfl ?_ |refine zy0 rfl ?_ |refine zy6 ?_ |refine zy7 ?_ |refine zy5 ?_ |refine zy4 rfl (fun hp => ?_) (fun hp => ?_) <;> try (exfalso; first | omega | contradiction))
      exact ⟨_, rfl, rfl⟩
     ·have hse : zb6 (.eql false) [.str nk, .str n] = some (.bool false) := by rw [zn7, decide_eq_false he]
      obtain ⟨w0, w1, w2, w3, w4, w5, rfl⟩ : ∃ v0 v1 v2 v3 v4 v5, vk = [v0, v1, v2, v3, v4, v5] := by
       match vk, kw2 with
       | [a, b, c, d, e, g], _ => exact ⟨a, b, c, d, e, g, rfl⟩
      simp only [List.map_cons, List.map_nil, zCA, zNA] at kat
      repeat' (first |refine zE (by intro; simp (disch := omega) only [go_sem, hat, kat, hse, List.map_cons, List.map_nil, List.drop_zero]; rfl) ?_ |refine zy1 ?_ |refine zy2 ?_ |refine zy3 ?_ |(simp only [fl1, zbr]) |refine zx5 rfl ?_ |refine zy9 rfl ?_ |refine zy6 ?_ |refine zy5 ?_ |refine zy4 rfl (fun hp => ?_) (fun hp => ?_) <;> try (exfalso; first | omega | contradiction))
      exact ⟨m2 - 1, by omega, _, k + 1, rfl, rfl, rfl, rfl, rfl, by omega, hnk he⟩
    ·have hke : k = i := by omega
     subst hke
     repeat' (first |refine zE (by intro; simp (disch := omega) only [go_sem]; rfl) ?_ |refine zy1 ?_ |refine zy2 ?_ |refine zy3 ?_ |(simp only [fl1, zbr]) |refine zy8 ?_ |refine zy4 rfl (fun hp => ?_) (fun hp => ?_) <;> try (exfalso; first | omega | contradiction))
     exact ⟨m - 1, by omega, _, k + 1, rfl, rfl, rfl, rfl, by omega, hnx hg, hdn hne⟩
   ·rw [hno hg]
    by_cases hg1 : zbF n
    ·rw [decide_eq_true hg1] at zrE;rw [decide_eq_false fun h => hg ⟨hg1, h⟩] at hs15
     repeat' (first |refine zx1 rfl ?_ |refine zE (by intro; simp (disch := omega) only [go_sem, hat, hcut, List.drop_succ_cons, List.drop_zero]; rfl) ?_ |refine zE (by intro; exact zaf (by simp only [go_sem]; exact hz.len)) ?_ |refine zS rfl rfl (zrE _) ?_ |refine zS rfl rfl (hs15 _) ?_ |refine zy1 ?_ |refine zy2 ?_ |refine zy3 ?_ |(simp only [fl1, fl2, fl5, fl8]) |refine zy0 rfl ?_ |refine zy6 ?_ |refine zy7 ?_ |refine zy5 ?_ |refine zy4 rfl (fun hp => ?_) (fun hp => ?_) <;> try (exfalso; first | omega | contradiction))
     exact ⟨_, rfl, rfl⟩
    ·rw [decide_eq_false hg1] at zrE
     repeat' (first |refine zN rfl ?_ |refine zE (by intro; simp (disch := omega) only [go_sem, hat, hcut, List.drop_succ_cons, List.drop_zero]; rfl) ?_ |refine zE (by intro; exact zaf (by simp only [go_sem]; exact hz.len)) ?_ |refine zS rfl rfl (zrE _) ?_ |refine zS rfl rfl (hs15 _) ?_ |refine zy1 ?_ |refine zy2 ?_ |refine zy3 ?_ |(simp only [fl1, fl2, fl5, fl8]) |refine zy0 rfl ?_ |refine zy6 ?_ |refine zy7 ?_ |refine zy5 ?_ |refine zy4 rfl (fun hp => ?_) (fun hp => ?_) <;> try (exfalso; first | omega | contradiction))
     exact ⟨_, rfl, rfl⟩
  ·have hie : i = cs.length := by omega
   subst hie
   have hs17 := fun m => s17 (m := m) hz (by omega)
   have hrw := znB (zf4 hz);rw [zbU] at hrw
   have hs36 := fun m => s36 (m := m) hrw (by rw [zbU]; omega)
   have hd : NmOk cs ↔ VM (zaL cs) /\ zb1 (zaL cs) = cs.length := ⟨fun h => h.2.2.2.2, fun h => ⟨h1, h6, hok, hdf, h⟩⟩
   by_cases hv : VM (zaL cs)
   ·rw [if_pos hv, if_pos hv] at hs36
    have hd2 : decide (NmOk cs) = decide ((zb1 (zaL cs) : Int) = (cs.length : Int)) := by
     rw [decide_eq_decide, hd];exact ⟨fun h => by rw [h.2], fun h => ⟨hv, by omega⟩⟩
    rw [hd2]
    repeat' (first |refine zx1 rfl ?_ |refine zE (by intro; simp (disch := omega) only [go_sem]; rfl) ?_ |refine zE (by intro; exact zaf (by simp only [go_sem]; exact hz.len)) ?_ |refine zS rfl rfl (hs17 _) ?_ |refine zS rfl rfl (hs36 _) ?_ |refine zy1 ?_ |refine zy2 ?_ |refine zy3 ?_ |(simp only [fl1]) |refine zy8 ?_ |refine zy7 ?_ |refine zy4 rfl (fun hp => ?_) (fun hp => ?_) <;> try (exfalso; first | omega | contradiction))
    all_goals first | exact ⟨_, rfl, rfl⟩ | skip
   ·rw [if_neg hv, if_neg hv] at hs36;rw [decide_eq_false fun h => hv (hd.1 h).1]
    repeat' (first |refine zN rfl ?_ |refine zE (by intro; simp (disch := omega) only [go_sem]; rfl) ?_ |refine zE (by intro; exact zaf (by simp only [go_sem]; exact hz.len)) ?_ |refine zS rfl rfl (hs17 _) ?_ |refine zS rfl rfl (hs36 _) ?_ |refine zy1 ?_ |refine zy2 ?_ |refine zy3 ?_ |(simp only [fl1]) |refine zy8 ?_ |refine zy7 ?_ |refine zy4 rfl (fun hp => ?_) (fun hp => ?_) <;> try (exfalso; first | omega | contradiction))
    all_goals first | exact ⟨_, rfl, rfl⟩ | skip
 ·rw [decide_eq_false fun h : NmOk cs => h16 ⟨h.1, h.2.1⟩];refine zx0 rfl (zaz Tryd.func5 cir5) (by show 1 <= 71; decide) ?_;unfold ir5;simp only [zaw, List.replicate, zNA, zAN]
  repeat' (first |refine zx1 rfl ?_ |refine zN rfl ?_ |refine zE (by intro; simp (disch := omega) only [go_sem]; rfl) ?_ |refine zE (by intro; exact zaf (by simp only [go_sem]; exact hz.len)) ?_ |refine zy1 ?_ |refine zy2 ?_ |refine zy3 ?_ |(simp only [fl1, fl2]) |refine zy0 rfl ?_ |refine zy7 ?_ |refine zx7 rfl (by intro hp; simp only [hp, decide_true]; rfl) (by intro hp; simp only [hp, decide_false]; rfl) (fun hp => ?_) (fun hp => ?_) <;> try (exfalso; first | omega | contradiction) |refine zy4 rfl (fun hp => ?_) (fun hp => ?_) <;> try (exfalso; first | omega | contradiction))
  all_goals first
   | (exfalso; exact h16 ⟨by omega, by omega⟩)
   | exact ⟨_, rfl, rfl⟩
theorem s5 {z : AV} {cs : List Nm} (hz : NmL z cs) {m : Mem} : zar D4 5 [z] m = some (.bool (decide (NmOk cs)), m) :=
 zaB (by rw [List.all_cons, hz.pureA]; rfl) ((f5 hz).mono fun y m' h => by rw [h]; rfl)
noncomputable def D5 : Env := D4.put 5 (zar D4 5)
theorem ztI : EnvOk Tryd.prog D5 := Env.put_ok ztD (zax ztD (zaq Tryd.func5 (by kernel_rfl)))
set_option maxRecDepth 100000
set_option maxHeartbeats 8000000
theorem SlH.byVal {H : Hp} {z : AV} {k len : Nat} {l : List AV} (h : SlH H z k l len) (hf : l.all za9 = true) : Zz.byVal H z = some (slV l len) := by
 obtain ⟨h1, ⟨rfl, rfl⟩ | ⟨h2, id, g, rfl, h3⟩⟩ := h
 ·rfl
 ·have e2 : Zz.cut l 0 (len * k) = some l := by
   unfold Zz.cut;rw [if_pos (by omega)];simp [<- h1]
  simp only [Zz.byVal, Zz.byC, h3, e2, hf, if_true, slV];rw [if_neg (by omega)];rfl
theorem lkk {H : Hp} {a : Option Blk} {l : List AV} : Zz.look (H ++ [a] ++ [some ⟨0, l⟩]) (H.length + 1) 0 = some l := by simp [Zz.look]
theorem zs6 {H : Hp} {a b : Option Blk} {j : Nat} (h : j < H.length) : (H ++ [a] ++ [b])[j]? = H[j]? := by
 rw [List.getElem?_append_left (by simp; omega), List.getElem?_append_left h]
theorem g26 {z : AV} {cs : List Nm} (hz : NmL z cs) : WF D5 (.func 26 [] []) [z] ⟨[], []⟩ fun y m' => y = .bool (decide (NmOk cs)) := by
 by_cases h16 : 1 <= cs.length /\ cs.length <= 6
 ·obtain ⟨h1, h6⟩ := h16;refine zx0 rfl (zaz Tryd.func26 zsw) (by show 1 <= 59; decide) ?_;unfold ir26;simp only [zaw, List.replicate, zNA, zAN]
  repeat' (first |refine zx1 rfl ?_ |refine zE (by intro; simp (disch := omega) only [go_sem]; rfl) ?_ |refine zE (by intro; exact zaf (by simp only [go_sem]; exact hz.len)) ?_ |refine zy1 ?_ |refine zy2 ?_ |refine zy3 ?_ |(simp only [fl1]) |refine zx7 rfl (by intro hp; simp only [hp, decide_true]; rfl) (by intro hp; simp only [hp, decide_false]; rfl) (fun hp => ?_) (fun hp => ?_) <;> try (exfalso; first | omega | contradiction))
  refine WO.call rfl rfl ((f51 (E := D5) rfl (zaz Tryd.func51 cir51) hz (by omega)).mono ?_);rintro y m' ⟨rfl, X, rfl⟩;simp only [pt8, pt2];obtain ⟨n1, n2, n3⟩ := zly cs cs.length;have hm : ([] ++ [some (zb3 (zhp cs cs.length))] : List (Option ALoop))[([] : List (Option ALoop)).length]? = some (some (zb3 (zhp cs cs.length))) := rfl;have hnl : (zb3 (zhp cs cs.length)).tmps.length = (zhp cs cs.length).length := rfl;generalize (zhp cs cs.length).length = nl at *
  by_cases hdf : zrW cs cs.length
  ·have hn2 := n3.2 hdf
   repeat' (first |refine zx1 rfl ?_ |refine zE (by intro; simp (disch := omega) only [go_sem]; rfl) ?_ |refine zE (by intro; exact zaf (by simp only [go_sem]; exact hz.len)) ?_ |refine zy1 ?_ |refine zy2 ?_ |refine zy3 ?_ |(simp only [fl1]) |refine zy6 ?_ |refine zy5 ?_ |refine zy4 rfl (fun hp => ?_) (fun hp => ?_) <;> try (exfalso; first | omega | contradiction))
   refine zx9 (fun m st => ∃ T i x H L, st = ⟨T, H, L⟩ /\ T.length = 59 /\ gt T 0 = z /\ gt T 3 = x /\ gt T 24 = z /\ gt T 25 = .int .i64 (cs.length : Nat) /\ gt T 26 = .int .i64 (i : Nat) /\ m + i = cs.length /\ SlH H x 6 (ivF (zaL (cs.take i))) i /\ ∀ j < i, zbF (zbR cs j).s /\ okB 48 (zbR cs j).v) ?_ cs.length _ ⟨_, 0, .snil, X, _, rfl, rfl, rfl, rfl, rfl, rfl, rfl, by omega, ⟨rfl, .inl ⟨rfl, rfl⟩⟩, fun j hj => by omega⟩;clear hm hnl;rintro m _ ⟨T, i, x, H, L, rfl, hT, g0, g3, g24, g25, g26, hml, hsl, hok⟩;obtain ⟨f, rfl⟩ := exG hT;clear hT;change f 0 = _ at g0;change f 3 = _ at g3;change f 24 = _ at g24;change f 25 = _ at g25;change f 26 = _ at g26;simp only [tb, Nat.reduceAdd, g0, g3, g24, g25, g26]
   by_cases hi : i < cs.length
   ·obtain ⟨⟨hw1, hw2⟩, hat⟩ := hz.at hi
    have hnx : ivF (zaL (cs.take (i + 1))) = ivF (zaL (cs.take i)) ++ zaa (zbR cs i).v := by
     have e : zbR cs i = cs[i] := by simp [zbR, hi]
     rw [List.take_succ_eq_append_getElem hi, e];unfold zaL ivF;rw [List.map_append, List.map_append, List.flatten_append];simp
    have hno : ¬ (zbF (zbR cs i).s /\ okB 48 (zbR cs i).v) -> decide (NmOk cs) = false := fun h => decide_eq_false fun hn => h (hn.2.2.1 i hi)
    have hnk : zbF (zbR cs i).s /\ okB 48 (zbR cs i).v -> ∀ j < i + 1, zbF (zbR cs j).s /\ okB 48 (zbR cs j).v := fun h j hj => by
     by_cases e : j = i
     ·rw [e]; exact h
     ·exact hok j (by omega)
    generalize zbR cs i = c at *;obtain ⟨n, v⟩ := c;simp only at hw1 hw2 hat hnx hno hnk
    obtain ⟨v0, v1, v2, v3, v4, v5, rfl⟩ : ∃ v0 v1 v2 v3 v4 v5, v = [v0, v1, v2, v3, v4, v5] := by
     match v, hw2 with
     | [a, b, c, d, e, g], _ => exact ⟨a, b, c, d, e, g, rfl⟩
    simp only [List.map_cons, List.map_nil, zCA, zNA] at hat
    have hcut6 : ∀ {x1 x2 x3 x4 x5 x6 : AV} {l : List AV}, Zz.cut (x1 :: x2 :: x3 :: x4 :: x5 :: x6 :: l) 0 6 = some [x1, x2, x3, x4, x5, x6] := fun {x1 x2 x3 x4 x5 x6 l} => by simp [Zz.cut]
    have hcut6b : ∀ {x0 x1 x2 x3 x4 x5 x6 : AV} {l : List AV}, Zz.cut (x0 :: x1 :: x2 :: x3 :: x4 :: x5 :: x6 :: l) 1 6 = some [x1, x2, x3, x4, x5, x6] := fun {x0 x1 x2 x3 x4 x5 x6 l} => by simp [Zz.cut]
    have hcut1 : ∀ {x0 : AV} {l : List AV}, Zz.cut (x0 :: l) 0 1 = some [x0] := fun {x0 l} => by simp [Zz.cut]
    have hcut : ∀ {x0 x1 x2 x3 x4 x5 x6 : AV} {l : List AV}, Zz.cut (x0 :: x1 :: x2 :: x3 :: x4 :: x5 :: x6 :: l) 0 7 = some [x0, x1, x2, x3, x4, x5, x6] := fun {x0 x1 x2 x3 x4 x5 x6 l} => by simp [Zz.cut]
    have hover : ∀ {y0 y1 y2 y3 y4 y5 y6 x0 x1 x2 x3 x4 x5 x6 : AV}, Zz.over [y0, y1, y2, y3, y4, y5, y6] 0 [x0, x1, x2, x3, x4, x5, x6] = some [x0, x1, x2, x3, x4, x5, x6] := fun {_ _ _ _ _ _ _ _ _ _ _ _ _ _} => by simp [Zz.over]
    have hs52 := fun m => s52 (m := m) hw1
    have hs61 := fun m => s61 (m := m) (r := [v0, v1, v2, v3, v4, v5]) rfl
    by_cases hg : zbF n /\ okB 48 [v0, v1, v2, v3, v4, v5]
    ·rw [decide_eq_true hg.1] at hs52;rw [decide_eq_true hg.2] at hs61
     repeat' (first |refine zx1 rfl ?_ |refine zE (by intro; simp (disch := omega) only [go_sem, za0, List.length_append, zfo, zaZ, Option.bind_eq_bind, Nat.reduceAdd, hat, hcut, hcut6b, lk0]; rfl) ?_ |refine zx2 (by intro; simp (disch := omega) only [go_sem, Option.bind_eq_bind, Nat.reduceAdd, hover, lk0, st0, zat]; rfl) ?_ |refine zS rfl rfl (hs52 _) ?_ |refine zS rfl rfl (hs61 _) ?_ |refine zy1 ?_ |refine zy2 ?_ |refine zy3 ?_ |(simp only [fl1, fl4]) |refine zy9 rfl ?_ |refine zy6 ?_ |refine zy5 ?_ |refine zy4 rfl (fun hp => ?_) (fun hp => ?_) <;> try (exfalso; first | omega | contradiction))
     refine WO.appendSl (c := zaa [v0, v1, v2, v3, v4, v5]) (z := x) rfl rfl (hsl.keep fun j hj => zs6 (zkK hsl hj)) (by decide) lkk rfl ⟨by show (i + 1) * 48 <= _; omega, by omega⟩ ?_;intro z' H' e2 e3 e4;simp only [pt8, pt4]
     repeat' (first |refine zE (by intro; simp (disch := omega) only [go_sem]; rfl) ?_ |refine zy2 ?_ |refine zy3 ?_ |(simp only [zbr]))
     exact ⟨m - 1, by omega, _, i + 1, z', H', _, rfl, rfl, rfl, rfl, rfl, rfl, rfl, by omega, hnx ▸ e2, hnk hg⟩
    ·rw [hno hg]
     by_cases hg1 : zbF n
     ·rw [decide_eq_true hg1] at hs52;rw [decide_eq_false fun h => hg ⟨hg1, h⟩] at hs61
      repeat' (first |refine zx1 rfl ?_ |refine zE (by intro; simp (disch := omega) only [go_sem, hat, hcut, hcut6b, lk0]; rfl) ?_ |refine zx2 (by intro; simp (disch := omega) only [go_sem, Option.bind_eq_bind, Nat.reduceAdd, hover, lk0, st0, zat]; rfl) ?_ |refine zS rfl rfl (hs52 _) ?_ |refine zS rfl rfl (hs61 _) ?_ |refine zy1 ?_ |refine zy2 ?_ |refine zy3 ?_ |(simp only [fl1, fl2, fl5, fl8]) |refine zy0 rfl ?_ |refine zy6 ?_ |refine zy7 ?_ |refine zy5 ?_ |refine zy4 rfl (fun hp => ?_) (fun hp => ?_) <;> try (exfalso; first | omega | contradiction))
      exact ⟨_, rfl, rfl⟩
     ·rw [decide_eq_false hg1] at hs52
      repeat' (first |refine zN rfl ?_ |refine zE (by intro; simp (disch := omega) only [go_sem, hat, hcut, lk0]; rfl) ?_ |refine zx2 (by intro; simp (disch := omega) only [go_sem, Option.bind_eq_bind, Nat.reduceAdd, hover, lk0, st0, zat]; rfl) ?_ |refine zS rfl rfl (hs52 _) ?_ |refine zy1 ?_ |refine zy2 ?_ |refine zy3 ?_ |(simp only [fl1, fl2, fl5, fl8]) |refine zy0 rfl ?_ |refine zy6 ?_ |refine zy7 ?_ |refine zy5 ?_ |refine zy4 rfl (fun hp => ?_) (fun hp => ?_) <;> try (exfalso; first | omega | contradiction))
      exact ⟨_, rfl, rfl⟩
   ·have hie : i = cs.length := by omega
    subst hie;rw [List.take_length] at hsl;have hrw := znB (zf4 hz);rw [zbU] at hrw;have hs35 := x35 (m := ⟨H, L⟩) (l' := x) hrw (by rw [zbU]; omega) (hsl.byVal (zgb _))
    have hd : NmOk cs ↔ VM (zaL cs) /\ zb1 (zaL cs) = cs.length := ⟨fun h => h.2.2.2.2, fun h => ⟨h1, h6, hok, hdf, h⟩⟩
    by_cases hv : VM (zaL cs)
    ·rw [if_pos hv, if_pos hv] at hs35
     have hd2 : decide (NmOk cs) = decide ((zb1 (zaL cs) : Int) = (cs.length : Int)) := by
      rw [decide_eq_decide, hd];exact ⟨fun h => by rw [h.2], fun h => ⟨hv, by omega⟩⟩
     rw [hd2]
     repeat' (first |refine zx1 rfl ?_ |refine zE (by intro; simp (disch := omega) only [go_sem]; rfl) ?_ |refine zE (by intro; exact zaf (by simp only [go_sem]; exact hz.len)) ?_ |refine zS rfl rfl (hs35) ?_ |refine zy1 ?_ |refine zy2 ?_ |refine zy3 ?_ |(simp only [fl1]) |refine zy8 ?_ |refine zy7 ?_ |refine zy4 rfl (fun hp => ?_) (fun hp => ?_) <;> try (exfalso; first | omega | contradiction))
     all_goals first | exact ⟨_, rfl, rfl⟩ | skip
    ·rw [if_neg hv, if_neg hv] at hs35;rw [decide_eq_false fun h => hv (hd.1 h).1]
     repeat' (first |refine zN rfl ?_ |refine zE (by intro; simp (disch := omega) only [go_sem]; rfl) ?_ |refine zS rfl rfl (hs35) ?_ |refine zy1 ?_ |refine zy2 ?_ |refine zy3 ?_ |(simp only [fl1]) |refine zy8 ?_ |refine zy7 ?_ |refine zy4 rfl (fun hp => ?_) (fun hp => ?_) <;> try (exfalso; first | omega | contradiction))
     all_goals first | exact ⟨_, rfl, rfl⟩ | skip
  ·have hn2 : nl ≠ 2 * cs.length := fun h => hdf (n3.1 h)
   rw [decide_eq_false fun h : NmOk cs => hdf h.2.2.2.1]
   repeat' (first |refine zx1 rfl ?_ |refine zE (by intro; simp (disch := omega) only [go_sem]; rfl) ?_ |refine zE (by intro; exact zaf (by simp only [go_sem]; exact hz.len)) ?_ |refine zy1 ?_ |refine zy2 ?_ |refine zy3 ?_ |(simp only [fl1, fl2]) |refine zy7 ?_ |refine zy4 rfl (fun hp => ?_) (fun hp => ?_) <;> try (exfalso; first | omega | contradiction))
   exact ⟨_, rfl, rfl⟩
 ·rw [decide_eq_false fun h : NmOk cs => h16 ⟨h.1, h.2.1⟩];refine zx0 rfl (zaz Tryd.func26 zsw) (by show 1 <= 59; decide) ?_;unfold ir26;simp only [zaw, List.replicate, zNA, zAN]
  repeat' (first |refine zx1 rfl ?_ |refine zN rfl ?_ |refine zE (by intro; simp (disch := omega) only [go_sem]; rfl) ?_ |refine zE (by intro; exact zaf (by simp only [go_sem]; exact hz.len)) ?_ |refine zy1 ?_ |refine zy2 ?_ |refine zy3 ?_ |(simp only [fl1, fl2]) |refine zy0 rfl ?_ |refine zy7 ?_ |refine zx7 rfl (by intro hp; simp only [hp, decide_true]; rfl) (by intro hp; simp only [hp, decide_false]; rfl) (fun hp => ?_) (fun hp => ?_) <;> try (exfalso; first | omega | contradiction))
  all_goals first
   | (exfalso; exact h16 ⟨by omega, by omega⟩)
   | exact ⟨_, rfl, rfl⟩
theorem s26b {z : AV} {cs : List Nm} (hz : NmL z cs) {m : Mem} : zar D5 26 [z] m = some (.bool (decide (NmOk cs)), m) :=
 zaB (by rw [List.all_cons, hz.pureA]; rfl) ((g26 hz).mono fun y m' h => by rw [h]; rfl)
noncomputable def D6 : Env := D5.put 26 (zar D5 26)
theorem zsK : EnvOk Tryd.prog D6 := Env.put_ok ztI (zax ztI (zaq Tryd.func26 (by kernel_rfl)))
set_option maxRecDepth 100000
set_option maxHeartbeats 8000000
def zbk (q : Nat) : List Nat := (List.range 6).filter fun j => q / 2 ^ j % 2 == 1
def zhk (q j : Nat) : Nat := ((List.range j).filter fun j => q / 2 ^ j % 2 == 1).length
theorem zrH : ∀ q < 64, ∀ j < 6, q / 2 ^ j % 2 = 1 -> zbk (q - 2 ^ j) = (zbk q).eraseIdx (zhk q j) /\ (zbk q).getD (zhk q j) 0 = j /\ zhk q j < (zbk q).length /\ zhk q (j + 1) = zhk q j + 1 /\ q - 2 ^ j < 64 := by decide +kernel
theorem zrm : ∀ q < 64, ∀ j < 6, q / 2 ^ j % 2 = 0 -> zhk q (j + 1) = zhk q j := by decide +kernel
theorem zll : ∀ q < 64, zhk q 6 = (zbk q).length /\ (zbk q).length <= 6 := by decide +kernel
theorem zqS : ∀ q < 64, (zbk q).length = (zbk (q / 2)).length + q % 2 := by decide +kernel
theorem zt8 : ∀ q < 64, ∀ j < 6, Int.fdiv ((q : Nat) : Int) (2 ^ min ((j : Nat) : Int).toNat 64) = ((q / 2 ^ j : Nat) : Int) := by decide +kernel
theorem ztE : ∀ q < 64, IntKind.i64.wrap (BitVec.ofInt 64 ((q : Nat) : Int) &&& BitVec.ofInt 64 1).toNat = ((q % 2 : Nat) : Int) := by decide +kernel
theorem zs8 : ∀ j < 6, IntKind.i64.wrap (1 * 2 ^ min ((j : Nat) : Int).toNat 64) = ((2 ^ j : Nat) : Int) := by decide +kernel
theorem zsV : ∀ q < 64, ∀ j < 6, q / 2 ^ j % 2 = 1 -> IntKind.i64.wrap (BitVec.ofInt 64 ((q : Nat) : Int) &&& ~~~ BitVec.ofInt 64 ((2 ^ j : Nat) : Int)).toNat = ((q - 2 ^ j : Nat) : Int) := by decide +kernel
theorem zkD {call} {T : List AV} {m : Mem} {x y : Opd} {q j : Nat} {k : IntKind} (hx : x.ev T = .int .i64 (q : Int)) (hy : y.ev T = .int k (j : Int)) (hq : q < 64) (hj : j < 6) : zaW call T m (.bin .shr x y) = some (.int .i64 ((q / 2 ^ j : Nat) : Int), m) := by
 rw [ziE, hx, hy];have e := zt8 q hq j hj;simp only [zjy, zif, zk7, IntKind.bits];rw [if_neg (by omega), e];rfl
theorem zh5 {call} {T : List AV} {m : Mem} {x y : Opd} {q : Nat} (hx : x.ev T = .int .i64 (q : Int)) (hy : y.ev T = .int .i64 1) (hq : q < 64) : zaW call T m (.bin .and x y) = some (.int .i64 ((q % 2 : Nat) : Int), m) := by
 rw [ziE, hx, hy];have e := ztE q hq
 show (some (AV.int .i64 (IntKind.i64.wrap (BitVec.ofInt 64 ((q : Nat) : Int) &&& BitVec.ofInt 64 1).toNat))).map _ = _
 rw [e];rfl
theorem ztj {call} {T : List AV} {m : Mem} {x y : Opd} {j : Nat} (hx : x.ev T = .int .i64 1) (hy : y.ev T = .int .i64 (j : Int)) (hj : j < 6) : zaW call T m (.bin .shl x y) = some (.int .i64 ((2 ^ j : Nat) : Int), m) := by
 rw [ziE, hx, hy];have e := zs8 j hj
 show ((if ((j : Nat) : Int) < 0 then none else some (AV.int .i64 (IntKind.i64.wrap (1 * 2 ^ min ((j : Nat) : Int).toNat 64)))).map _) = _
 rw [if_neg (by omega), e];rfl
theorem zs1 {call} {T : List AV} {m : Mem} {x y : Opd} {q j : Nat} (hx : x.ev T = .int .i64 (q : Int)) (hy : y.ev T = .int .i64 ((2 ^ j : Nat) : Int)) (hq : q < 64) (hj : j < 6) (hb : q / 2 ^ j % 2 = 1) : zaW call T m (.bin .andNot x y) = some (.int .i64 ((q - 2 ^ j : Nat) : Int), m) := by
 rw [ziE, hx, hy];have e := zsV q hq j hj hb
 show (some (AV.int .i64 (IntKind.i64.wrap (BitVec.ofInt 64 ((q : Nat) : Int) &&& ~~~ BitVec.ofInt 64 ((2 ^ j : Nat) : Int)).toNat))).map _ = _
 rw [e];rfl
theorem g27 {q0 : Nat} (hq0 : q0 < 64) : WF D6 (.func 27 [] []) [.int .i64 (q0 : Nat)] ⟨[], []⟩ fun y m' => y = .int .i64 ((zbk q0).length : Nat) := by
 refine zx0 rfl (zaz Tryd.func27 cir27) (by show 1 <= 13; decide) ?_;unfold ir27;simp only [zaw, List.replicate, zNA, zAN]
 repeat' (first |refine zE (by intro; simp (disch := omega) only [go_sem]; rfl) ?_ |refine zy1 ?_ |refine zy2 ?_ |refine zy3 ?_ |refine zy5 ?_)
 refine zx9 (fun m st => ∃ T q c, st = ⟨T, [], []⟩ /\ T.length = 13 /\ gt T 0 = .int .i64 (q : Nat) /\ gt T 3 = .int .i64 (c : Nat) /\ m = q /\ q < 64 /\ c + (zbk q).length = (zbk q0).length) ?_ q0 _ ⟨_, q0, 0, rfl, rfl, rfl, rfl, rfl, by omega, by omega⟩;rintro m _ ⟨T, q, c, rfl, hT, g0, g3, hml, hq, hc⟩;obtain ⟨f, rfl⟩ := exG hT;clear hT;change f 0 = _ at g0;change f 3 = _ at g3;simp only [tb, Nat.reduceAdd, g0, g3];have hsix := (zll q0 hq0).2
 by_cases hi : 0 < q
 ·have hh := zqS q hq
  repeat' (first |refine zE (by intro; exact zkD (k := .u64) (j := 1) rfl rfl hq (by omega)) ?_ |refine zE (by intro; exact zh5 rfl rfl hq) ?_ |refine zE (by intro; simp (disch := omega) only [go_sem]; rfl) ?_ |refine zy1 ?_ |refine zy2 ?_ |refine zy3 ?_ |(simp only [fl1, zbr]) |refine zy6 ?_ |refine zy5 ?_ |refine zy4 rfl (fun hp => ?_) (fun hp => ?_) <;> try (exfalso; first | omega | contradiction))
  exact ⟨q / 2, by omega, _, q / 2 ^ 1, c + q % 2, rfl, rfl, rfl, by simp only [Int.natCast_add]; rfl, by simp, by simp; omega, by simp; omega⟩
 ·have hie : q = 0 := by omega
  subst hie;have e0 : (zbk 0).length = 0 := rfl
  have hce : ((c : Nat) : Int) = ((zbk q0).length : Int) := by omega
  repeat' (first |refine zE (by intro; simp (disch := omega) only [go_sem]; rfl) ?_ |refine zy1 ?_ |refine zy2 ?_ |refine zy3 ?_ |(simp only [fl1]) |refine zy9 rfl ?_ |refine zy8 ?_ |refine zy7 ?_)
  refine ⟨_, rfl, ?_⟩;simp only [zbo, gt2];rw [hce]
theorem s27b {q : Nat} (hq : q < 64) {m : Mem} : zar D6 27 [.int .i64 (q : Nat)] m = some (.int .i64 ((zbk q).length : Nat), m) :=
 zaB rfl ((g27 hq).mono fun y m' h => by rw [h]; rfl)
noncomputable def D7 : Env := D6.put 27 (zar D6 27)
theorem zs7 : EnvOk Tryd.prog D7 := Env.put_ok zsK (zax zsK (zaq Tryd.func27 (by kernel_rfl)))
end Go.Proofs.YtgchabldcnmccabDoor

