import Derived.Test.YtgchabldcnmccabDoorUMC

set_option linter.unusedSimpArgs false
set_option linter.unusedVariables false

namespace Go.Proofs.YtgchabldcnmccabDoor
open Go.Zz
set_option maxRecDepth 100000
set_option maxHeartbeats 8000000
theorem f86 {E : Env} (hE : E.spec 61 = none) (hF : E.fn 61 = some ir61) (h58 : E.spec 59 = some (zdG E9 59)) {n : Nat} {d : Int} {H : Hp} {L : List (Option ALoop)} {rv : AV} {q : Nat} {xs : List AV} {bs : List Nat} {R : List (List Int)}
  (hn : n <= 8) (hd : 0 < d) (hd9 : d <= 1000000000) (hlat : LatM H rv q xs bs R) (hLB : LB R n d) (hqH : q < H.length) :
  WF E (.func 61 [] []) [.agg [.int .i64 d, rv]] ⟨H, L⟩ fun v m' => ∃ H', m' = ⟨H', L⟩ /\ LatM H' rv q xs bs (redI n R d n) /\ H.length <= H'.length /\ ∀ b, b < H.length -> b ∉ bs -> H'[b]? = H[b]? := by
 have hRn := hLB.len
 have hbH : ∀ k, k < n -> bs.getD k 0 ∈ bs /\ bs.getD k 0 < H.length := fun k hk => by
  have hbl := hlat.bl
  have : bs.getD k 0 ∈ bs := by
   rw [List.getD_eq_getElem?_getD, List.getElem?_eq_getElem (by omega), Option.getD_some];exact List.getElem_mem _
  exact ⟨this, hlat.blt this⟩
 have hrl := hlat.len
 have hrc : rv.cells = some [rv] := by
  rcases hlat.gs with ⟨rfl, _⟩ | ⟨g, rfl, _⟩ | ⟨g, n, rfl, _⟩ <;> rfl
 refine zx0 hE hF (by show 1 <= 85; decide) ?_;unfold ir61;simp only [zaw, List.replicate, zNA, zAN];have hlk : Zz.look (H ++ [some ⟨0, [.int .i64 d, rv]⟩]) H.length 0 = some [.int .i64 d, rv] := lk0 rfl
 repeat' (first |refine zE (by intro; simp (disch := omega) only [go_sem, hlk]; rfl) ?_ |refine WO.opE (by intro; exact zaf (by simp only [go_sem]; first | rfl | assumption)) (by simp only [pt8, pt1]; rfl) ?_ |refine zy1 ?_ |refine zy2 ?_ |refine zy3 ?_ |(simp only [fl1]) |refine zy5 ?_)
 refine zx9 (fun m s => ∃ T G, ∃ N : Nat, s = ⟨T, G, L⟩ /\ T.length = 85 /\ gt T 1 = .pref N 0 0 /\ gt T 2 = .int .i64 ((m : Int) - 1) /\ m <= n /\ N = H.length /\ G.length = N + 1 /\ Zz.look G N 0 = some [.int .i64 d, rv] /\ LatM G rv q xs bs (redI n R d (n - m)) /\ ∀ b, b < H.length -> b ∉ bs -> G[b]? = H[b]?) ?_ n _ ⟨_, _, H.length, rfl, rfl, rfl, by simp only [gt2]; rw [hRn], Nat.le_refl _, rfl, by simp, hlk, by rw [Nat.sub_self]; exact hlat.keep (List.getElem?_append_left hqH) fun b hb => List.getElem?_append_left (hlat.blt hb), fun b hb _ => List.getElem?_append_left hb⟩;rintro m _ ⟨T, G, N, rfl, hT, g1, g2, hm, hN, hGl, k0, hl, hkeep⟩;obtain ⟨f, rfl⟩ := exG hT;clear hT;change f 1 = _ at g1;change f 2 = _ at g2;simp only [tb, Nat.reduceAdd, g1, g2];have hlb := LB.redI hd hLB (show n - m <= n by omega)
 by_cases hm0 : m = 0
 ·subst hm0
  repeat' (first |refine zE (by intro; simp (disch := omega) only [go_sem]; rfl) ?_ |refine zy1 ?_ |refine zy2 ?_ |refine zy3 ?_ |(simp only [fl1, fl3, fl6, fl9]) |refine zy9 rfl ?_ |refine zy8 ?_)
  exact ⟨_, rfl, G, rfl, hl, by omega, hkeep⟩
 ·obtain ⟨i, rfl⟩ : ∃ i, m = i + 1 := ⟨m - 1, by omega⟩
  have hsucc : redI n R d (n - i) = redK n (redI n R d (n - (i + 1))) i d (n - (i + 1)) := by
   have e : n - i = (n - (i + 1)) + 1 := by omega
   have e2 : n - 1 - (n - (i + 1)) = i := by omega
   rw [e]
   show redK n _ (n - 1 - (n - (i + 1))) d (n - (i + 1)) = _
   rw [e2]
  generalize redI n R d (n - (i + 1)) = R0 at *;have hR0 := hlb.len;obtain ⟨gi, ai1, ai2, ai3, hRi⟩ := hl.at (i := i) (by omega)
  have ei : ((i + 1 : Nat) : Int) - 1 = (i : Int) := by omega
  rw [ei] at g2;have hx := hRi.len;have hxc := hRi.cell;unfold AV.cells at hxc;have hil := hlb.row i (by omega);rw [hil] at hx;generalize hxe : xs.getD i und = x at *
  repeat' (first |refine zE (by intro; simp (disch := omega) only [go_sem, k0, ai1, ai2, ai3, ei]; rfl) ?_ |refine zy1 ?_ |refine zy2 ?_ |refine zy3 ?_ |(simp only [fl1]) |refine zy0 rfl ?_ |refine zy6 ?_ |refine zy5 ?_)
  refine zx9 (fun m1 s => ∃ T G k, s = ⟨T, G, L⟩ /\ T.length = 85 /\ gt T 1 = .pref N 0 0 /\ gt T 2 = .int .i64 (i : Nat) /\ gt T 3 = x /\ gt T 4 = .int .i64 (k : Nat) /\ m1 + k = n /\ i + 1 <= k /\ G.length = N + 1 /\ Zz.look G N 0 = some [.int .i64 d, rv] /\ LatM G rv q xs bs (redK n R0 i d (k - (i + 1))) /\ ∀ b, b < H.length -> b ∉ bs -> G[b]? = H[b]?) ?_ (n - (i + 1)) _ ⟨_, G, i + 1, rfl, rfl, rfl, (show AV.int .i64 (((i + 1 : Nat) : Int) - 1) = _ by rw [ei]), rfl, rfl, by omega, Nat.le_refl _, hGl, k0, by rw [Nat.sub_self]; exact hl, hkeep⟩;clear g1 g2 f k0 hl hkeep hGl ai1 ai2 ai3 hRi;rintro m1 _ ⟨T, G, k, rfl, hT, g1, g2, g3, g4, hm1, hik, hGl, k0, hl, hkeep⟩;obtain ⟨f, rfl⟩ := exG hT;clear hT;change f 1 = _ at g1;change f 2 = _ at g2;change f 3 = _ at g3;change f 4 = _ at g4;simp only [tb, Nat.reduceAdd, g1, g2, g3, g4];have hlbk := LB.redK (i := i) hd hlb (t := k - (i + 1)) (by omega)
  by_cases hkn : k < n
  ·have hKs : redK n R0 i d (k + 1 - (i + 1)) = redJ (setE (redK n R0 i d (k - (i + 1))) i k (ent (redK n R0 i d (k - (i + 1))) i k % ent (redK n R0 i d (k - (i + 1))) k k)) i k (ent (redK n R0 i d (k - (i + 1))) i k / ent (redK n R0 i d (k - (i + 1))) k k) d (n - k - 1) := by
    have e : k + 1 - (i + 1) = (k - (i + 1)) + 1 := by omega
    have e2 : i + 1 + (k - (i + 1)) = k := by omega
    rw [e]
    show redJ (setE (redK n R0 i d (k - (i + 1))) i (i + 1 + (k - (i + 1))) _) i (i + 1 + (k - (i + 1))) _ d _ = _
    rw [e2]
   generalize redK n R0 i d (k - (i + 1)) = RK at *;have hRK := hlbk.len;obtain ⟨gi, ai1, ai2, ai3, hRi⟩ := hl.at (i := i) (by omega);obtain ⟨gk, ak1, ak2, ak3, hRk⟩ := hl.at (i := k) (by omega);rw [hxe] at hRi;have hil := hlbk.row i (by omega);have hkl := hlbk.row k (by omega);obtain ⟨g1', o1, c1, b1, b2, b3, b4⟩ := hRi.at (i := k) (by omega);obtain ⟨g2', o2, c2, d1, d2, d3, d4⟩ := hRk.at (i := k) (by omega);have hyc := hRk.cell;generalize hye : xs.getD k und = y at *;have ha := hlbk.el i k (by omega) hkn;have hp := hlbk.diag k hkn;have hpd := hlbk.el k k hkn hkn;have ea : (RK.getD i []).getD k 0 = ent RK i k := rfl;have ep : (RK.getD k []).getD k 0 = ent RK k k := rfl;rw [ea] at b3;rw [ep] at d3
   have hl' := fun r hr => hl.put (i := i) (by omega) (B := some ⟨g1', c1.set o1 (.int .i64 r)⟩) (r := (RK.getD i []).set k r) hr
   rw [hxe] at hl';have hl2 := hl' _ (b4 (ent RK i k % ent RK k k)).2;have hov := (b4 (ent RK i k % ent RK k k)).1;have hq1 : 0 <= ent RK i k / ent RK k k := Int.ediv_nonneg ha.1 (by omega);have hq2 : ent RK i k / ent RK k k <= ent RK i k := Int.ediv_le_self _ ha.1;have htd : (ent RK i k).tdiv (ent RK k k) = ent RK i k / ent RK k k := Int.tdiv_eq_ediv_of_nonneg ha.1
   have hmod : ent RK i k - ent RK i k / ent RK k k * ent RK k k = ent RK i k % ent RK k k := by
    have := Int.emod_add_mul_ediv (ent RK i k) (ent RK k k);rw [Int.mul_comm] at this;omega
   have hm1' := Int.emod_nonneg (ent RK i k) (show ent RK k k ≠ 0 by omega);have hm2' := Int.emod_lt_of_pos (ent RK i k) hp
   have hp0 : ¬ ent RK k k = 0 := by omega
   have hlen := hRi.len;rw [hil] at hlen
   repeat' (first |refine zE (by intro; simp (disch := omega) only [go_sem, k0, b1, b2, b3, d1, d2, d3, ak1, ak2, ak3, hp0, if_false, htd, hmod]; rfl) ?_ |refine zx2 (by intro; simp (disch := omega) only [go_sem, b2, hov]; rfl) ?_ |refine WO.opE (by intro; exact zaf (by simp only [go_sem]; first | rfl | assumption)) (by simp only [pt8, pt0]; rfl) ?_ |refine zy1 ?_ |refine zy2 ?_ |refine zy3 ?_ |(simp only [fl1]) |refine zx5 rfl ?_ |refine zy6 ?_ |refine zy5 ?_ |refine zy4 rfl (fun hp => ?_) (fun hp => ?_) <;> try (exfalso; first | omega | contradiction))
   obtain ⟨hbi, hbiH⟩ := hbH i (by omega)
   have k0s : ∀ B : Option Blk, Zz.look (G.set (bs.getD i 0) B) N 0 = some [.int .i64 d, rv] := fun B => (zad (List.getElem?_set_ne (by omega))).trans k0
   have hks : ∀ B : Option Blk, ∀ b, b < H.length -> b ∉ bs -> (G.set (bs.getD i 0) B)[b]? = H[b]? := fun B b hb hbn => by
    rw [List.getElem?_set_ne (fun e => hbn (by rw [<- e]; exact hbi))];exact hkeep b hb hbn
   have hlb2 : LB (setE RK i k (ent RK i k % ent RK k k)) n d := hlbk.setE (by omega) hkn ⟨hm1', by omega⟩ fun e => by omega
   generalize hqq : ent RK i k / ent RK k k = qq at *;have hl3 : LatM _ rv q xs bs (setE RK i k (ent RK i k % ent RK k k)) := hl2;refine zx9 (fun m2 s => ∃ T G j, s = ⟨T, G, L⟩ /\ T.length = 85 /\ gt T 1 = .pref N 0 0 /\ gt T 2 = .int .i64 (i : Nat) /\ gt T 3 = x /\ gt T 4 = .int .i64 (k : Nat) /\ gt T 5 = .int .i64 qq /\ gt T 6 = .int .i64 (j : Nat) /\ m2 + j = n /\ k + 1 <= j /\ G.length = N + 1 /\ Zz.look G N 0 = some [.int .i64 d, rv] /\ LatM G rv q xs bs (redJ (setE RK i k (ent RK i k % ent RK k k)) i k qq d (j - (k + 1))) /\ ∀ b, b < H.length -> b ∉ bs -> G[b]? = H[b]?) ?_ (n - (k + 1)) _ ⟨_, _, k + 1, rfl, rfl, rfl, rfl, rfl, rfl, rfl, rfl, by omega, Nat.le_refl _, by rw [List.length_set]; exact hGl, k0s _, by rw [Nat.sub_self]; exact hl3, hks _⟩;generalize setE RK i k (ent RK i k % ent RK k k) = R2 at *;clear g1 g2 g3 g4 f k0 hl hkeep hGl ai1 ai2 ai3 hRi ak1 ak2 ak3 hRk b1 b2 b3 b4 d1 d2 d3 d4 hl' hl2 hl3 hov k0s hks;rintro m2 _ ⟨T, G, j, rfl, hT, g1, g2, g3, g4, g5, g6, hm2, hkj, hGl, k0, hl, hkeep⟩;obtain ⟨f, rfl⟩ := exG hT;clear hT;change f 1 = _ at g1;change f 2 = _ at g2;change f 3 = _ at g3;change f 4 = _ at g4;change f 5 = _ at g5;change f 6 = _ at g6;simp only [tb, Nat.reduceAdd, g1, g2, g3, g4, g5, g6];have hlbj := LB.redJ (q := qq) hd (show i < k by omega) (t := j - (k + 1)) hlb2 (by omega) (by omega)
   by_cases hjn : j < n
   ·have hJs : redJ R2 i k qq d (j + 1 - (k + 1)) = setE (redJ R2 i k qq d (j - (k + 1))) i j ((ent (redJ R2 i k qq d (j - (k + 1))) i j - qq * ent (redJ R2 i k qq d (j - (k + 1))) k j) % d) := by
     have e : j + 1 - (k + 1) = (j - (k + 1)) + 1 := by omega
     have e2 : k + 1 + (j - (k + 1)) = j := by omega
     rw [e]
     show setE _ i (k + 1 + (j - (k + 1))) _ = _
     rw [e2]
    generalize redJ R2 i k qq d (j - (k + 1)) = RJ at *;have hRJ := hlbj.len;obtain ⟨gi, ai1, ai2, ai3, hRi⟩ := hl.at (i := i) (by omega);obtain ⟨gk, ak1, ak2, ak3, hRk⟩ := hl.at (i := k) (by omega);rw [hxe] at hRi;have hil := hlbj.row i (by omega);have hkl := hlbj.row k (by omega);obtain ⟨g1', o1, c1, b1, b2, b3, b4⟩ := hRi.at (i := j) (by omega);obtain ⟨g2', o2, c2, d1, d2, d3, d4⟩ := hRk.at (i := j) (by omega);rw [hye] at ak3 hRk d1;have ha' := hlbj.el i j (by omega) hjn;have hp' := hlbj.el k j hkn hjn;have ea' : (RJ.getD i []).getD j 0 = ent RJ i j := rfl;have ep' : (RJ.getD k []).getD j 0 = ent RJ k j := rfl;rw [ea'] at b3;rw [ep'] at d3
    have hl' := fun r hr => hl.put (i := i) (by omega) (B := some ⟨g1', c1.set o1 (.int .i64 r)⟩) (r := (RJ.getD i []).set j r) hr
    rw [hxe] at hl';have hl2 := hl' _ (b4 ((ent RJ i j - qq * ent RJ k j) % d)).2;have hov := (b4 ((ent RJ i j - qq * ent RJ k j) % d)).1;have hqp : 0 <= qq * ent RJ k j := Int.mul_nonneg hq1 hp'.1;have hqp2 : qq * ent RJ k j <= 1000000000 * 1000000000 := Int.mul_le_mul (by omega) (by omega) hp'.1 (by omega)
    have c58 := fun m => zrD (m := m) (r := rv) (d := d) (x := ent RJ i j - qq * ent RJ k j) hd (by omega) ⟨by omega, by omega⟩
    have k0s : ∀ B : Option Blk, Zz.look (G.set (bs.getD i 0) B) N 0 = some [.int .i64 d, rv] := fun B => (zad (List.getElem?_set_ne (by omega))).trans k0
    have hks : ∀ B : Option Blk, ∀ b, b < H.length -> b ∉ bs -> (G.set (bs.getD i 0) B)[b]? = H[b]? := fun B b hb hbn => by
     rw [List.getElem?_set_ne (fun e => hbn (by rw [<- e]; exact hbi))];exact hkeep b hb hbn
    have hl3 : LatM _ rv q xs bs (setE RJ i j ((ent RJ i j - qq * ent RJ k j) % d)) := hl2
    repeat' (first |refine zE (by intro; simp (disch := omega) only [go_sem]; rfl) ?_ |refine WO.opE (by intro; exact zaf (by simp only [go_sem]; first | rfl | assumption)) (by simp only [pt8, pt5]; rfl) ?_ |refine zP rfl h58 (fun V => c58 _) ?_ |refine zy1 ?_ |refine zy2 ?_ |refine zy3 ?_ |(simp only [fl1, fl4, zbr]) |refine zx4 ?_ |refine zx6 ?_ |refine zF rfl (by intro; simp (disch := omega) only [go_sem, k0, b1, b2, b3, d1, d2, d3, ak1, ak2, ak3]; rfl) rfl ?_ |refine WT.big rfl rfl (by intro; simp (disch := omega) only [go_sem, k0, b2, b3, d2, d3, ak2, ak3]; rfl) (by simp (disch := omega) only [go_sem, zbh]; rfl) (by first | exact .inl rfl | exact .inr (zan _) | exact .inr trivial | (right; apply zau; simp only [zaR, zNA, zCA, List.getElem?_cons_succ, List.getElem?_cons_zero, Tch.free, and_true, true_and]; first | done | omega)) (by simp only [pt8, pt0, pt2, pt3, pt5, pt7]; rfl) ?_ |refine zx3 rfl rfl (by intro; simp (disch := omega) only [go_sem, b2, hov]; rfl) (by simp (disch := omega) only [go_sem, zbh]; rfl) (by first | exact .inl rfl | exact .inr (zan _) | exact .inr trivial | (right; apply zau; simp only [zaR, zNA, zCA, List.getElem?_cons_succ, List.getElem?_cons_zero, Tch.free, and_true, true_and]; first | done | omega)) ?_ |refine zy6 ?_ |refine zy5 ?_ |refine zy4 rfl (fun hp => ?_) (fun hp => ?_) <;> try (exfalso; first | omega | contradiction))
    exact ⟨m2 - 1, by omega, _, _, j + 1, rfl, rfl, rfl, rfl, rfl, rfl, rfl, rfl, by omega, by omega, by rw [List.length_set]; exact hGl, k0s _, by rw [hJs]; exact hl3, hks _⟩
   ·have hje : j = n := by omega
    subst hje
    repeat' (first |refine zE (by intro; simp (disch := omega) only [go_sem]; rfl) ?_ |refine WO.opE (by intro; exact zaf (by simp only [go_sem]; first | rfl | assumption)) (by simp only [pt8, pt5]; rfl) ?_ |refine zy1 ?_ |refine zy2 ?_ |refine zy3 ?_ |(simp only [fl1, zbr]) |refine zy8 ?_ |refine zy4 rfl (fun hp => ?_) (fun hp => ?_) <;> try (exfalso; first | omega | contradiction))
    exact ⟨m1 - 1, by omega, _, G, k + 1, rfl, rfl, rfl, rfl, rfl, rfl, by omega, by omega, hGl, k0, by rw [hKs, show j - k - 1 = j - (k + 1) by omega]; exact hl, hkeep⟩
  ·have hke : k = n := by omega
   subst hke
   repeat' (first |refine zE (by intro; simp (disch := omega) only [go_sem]; rfl) ?_ |refine WO.opE (by intro; exact zaf (by simp only [go_sem]; first | rfl | assumption)) (by simp only [pt8, pt0]; rfl) ?_ |refine zy1 ?_ |refine zy2 ?_ |refine zy3 ?_ |(simp only [fl1, zbr]) |refine zy8 ?_ |refine zy4 rfl (fun hp => ?_) (fun hp => ?_) <;> try (exfalso; first | omega | contradiction))
   exact ⟨i, by omega, _, G, N, rfl, rfl, rfl, rfl, by omega, hN, hGl, k0, by rw [hsucc]; exact hl, hkeep⟩
set_option maxRecDepth 100000
set_option maxHeartbeats 8000000
def zb4 (a b : Nat) : Nat × Int × Int :=
 if h : b = 0 then (a, 1, 0) else ((zb4 b (a % b)).1, (zb4 b (a % b)).2.2, (zb4 b (a % b)).2.1 - ((a / b : Nat) : Int) * (zb4 b (a % b)).2.2)
termination_by b
decreasing_by all_goals exact Nat.mod_lt _ (by omega)
noncomputable def E16 : Env := E15
theorem znP : EnvOk Tryd.prog E16 := ztY
def zqh (R : List (List Int)) (v : List Int) (i : Nat) (X Y a b d : Int) : Nat -> List (List Int) × List Int
 | 0 => (R, v)
 | t + 1 => (setE (zqh R v i X Y a b d t).1 i (i + 1 + t) ((X * ent (zqh R v i X Y a b d t).1 i (i + 1 + t) + Y * (zqh R v i X Y a b d t).2.getD (i + 1 + t) 0) % d),
   (zqh R v i X Y a b d t).2.set (i + 1 + t) ((a * (zqh R v i X Y a b d t).2.getD (i + 1 + t) 0 - b * ent (zqh R v i X Y a b d t).1 i (i + 1 + t)) % d))
def insS (n : Nat) (R : List (List Int)) (v : List Int) (d : Int) (i : Nat) : List (List Int) × List Int :=
 if v.getD i 0 % d = 0 then (R, v.set i (v.getD i 0 % d)) else
  (setE (zqh R (v.set i (v.getD i 0 % d)) i (zb4 (ent R i i).toNat (v.getD i 0 % d).toNat).2.1 (zb4 (ent R i i).toNat (v.getD i 0 % d).toNat).2.2 (ent R i i / ((zb4 (ent R i i).toNat (v.getD i 0 % d).toNat).1 : Int)) (v.getD i 0 % d / ((zb4 (ent R i i).toNat (v.getD i 0 % d).toNat).1 : Int)) d (n - (i + 1))).1 i i ((zb4 (ent R i i).toNat (v.getD i 0 % d).toNat).1 : Int),
   (zqh R (v.set i (v.getD i 0 % d)) i (zb4 (ent R i i).toNat (v.getD i 0 % d).toNat).2.1 (zb4 (ent R i i).toNat (v.getD i 0 % d).toNat).2.2 (ent R i i / ((zb4 (ent R i i).toNat (v.getD i 0 % d).toNat).1 : Int)) (v.getD i 0 % d / ((zb4 (ent R i i).toNat (v.getD i 0 % d).toNat).1 : Int)) d (n - (i + 1))).2)
def insI (n : Nat) (R : List (List Int)) (v : List Int) (d : Int) : Nat -> List (List Int) × List Int
 | 0 => (R, v)
 | i + 1 => insS n (insI n R v d i).1 (insI n R v d i).2 d i
def VB (v : List Int) (n : Nat) (d : Int) : Prop := v.length = n /\ ∀ j, j < n -> 0 <= v.getD j 0 /\ v.getD j 0 <= d
theorem zc9 {x d : Int} (hd : 0 < d) : 0 <= x % d /\ x % d <= d := by
 have h1 := Int.emod_nonneg x (show d ≠ 0 by omega);have h2 := Int.emod_lt_of_pos x hd;omega
set_option maxRecDepth 100000
set_option maxHeartbeats 8000000
theorem RowM.wr {H : Hp} {x : AV} {b : Nat} {r : List Int} (h : RowM H x b r) {i : Nat} (hi : i < r.length) (y : Int) :
  ∃ g off c c', zaj 1 x (.int .i64 (i : Int)) = some (.pref b g off) /\ Zz.look H b g = some c /\ c[off]? = some (.int .i64 (r.getD i 0)) /\ Zz.over c off [.int .i64 y] = some c' /\ RowM (H.set b (some ⟨g, c'⟩)) x b (r.set i y) /\ Zz.look (H.set b (some ⟨g, c'⟩)) b g = some c' /\ c'[off]? = some (.int .i64 y) := by
 obtain ⟨g, off, c, a1, a2, a3, a4⟩ := h.at hi;obtain ⟨a5, a6⟩ := a4 y;refine ⟨g, off, c, _, a1, a2, a3, a5, a6, zaJ (zah a2), ?_⟩
 have : off < c.length := by
  rcases Nat.lt_or_ge off c.length with h | h
  ·exact h
  ·rw [List.getElem?_eq_none h] at a3
   cases a3
 rw [List.getElem?_set, if_pos rfl, if_pos this]
theorem zjr {X x : Int} (h1 : -1000000000 <= X /\ X <= 1000000000) (h2 : 0 <= x /\ x <= 1000000000) : -1000000000000000000 <= X * x /\ X * x <= 1000000000000000000 := by
 have a := Int.mul_le_mul_of_nonneg_right h1.2 h2.1;have b := Int.mul_le_mul_of_nonneg_right h1.1 h2.1;omega
def addJ (R : List (List Int)) (v : List Int) (i : Nat) (q d : Int) : Nat -> List (List Int) × List Int
 | 0 => (R, v)
 | t + 1 => (setE (addJ R v i q d t).1 i (i + 1 + t) ((addJ R v i q d t).2.getD (i + 1 + t) 0 % d),
   (addJ R v i q d t).2.set (i + 1 + t) ((ent (addJ R v i q d t).1 i (i + 1 + t) - q * ((addJ R v i q d t).2.getD (i + 1 + t) 0 % d)) % d))
def addT (n : Nat) (R : List (List Int)) (v : List Int) (d : Int) (i : Nat) : List (List Int) × List Int :=
 addJ (setE R i i (v.getD i 0)) (v.set i (ent R i i % v.getD i 0)) i (ent R i i / v.getD i 0) d (n - (i + 1))
def addE (n : Nat) (d : Int) (i : Nat) : Nat -> List (List Int) -> List Int -> List (List Int) × List Int
 | 0, R, v => (R, v)
 | t + 1, R, v => if v.getD i 0 = 0 then (R, v) else addE n d i t (addT n R v d i).1 (addT n R v d i).2
def addS (n : Nat) (R : List (List Int)) (v : List Int) (d : Int) (i : Nat) : List (List Int) × List Int :=
 addE n d i (v.getD i 0 % d).toNat R (v.set i (v.getD i 0 % d))
def addI (n : Nat) (R : List (List Int)) (v : List Int) (d : Int) : Nat -> List (List Int) × List Int
 | 0 => (R, v)
 | i + 1 => addS n (addI n R v d i).1 (addI n R v d i).2 d i
def VC (v : List Int) (n : Nat) : Prop := v.length = n /\ ∀ j, j < n -> -1000000000 <= v.getD j 0 /\ v.getD j 0 <= 1000000000
theorem VC.set {v : List Int} {n j : Nat} {x : Int} (h : VC v n) (hj : j < n) (hx : -1000000000 <= x /\ x <= 1000000000) : VC (v.set j x) n := by
 refine ⟨by rw [List.length_set]; exact h.1, fun k hk => ?_⟩;have hl := h.1;rw [List.getD_eq_getElem?_getD, List.getElem?_set]
 by_cases e : j = k
 ·subst e;rw [if_pos rfl, if_pos (by omega)];exact hx
 ·rw [if_neg e, <- List.getD_eq_getElem?_getD];exact h.2 k hk
theorem zaD {v : List Int} {j : Nat} {x : Int} (h : j < v.length) : (v.set j x).getD j 0 = x := by
 rw [List.getD_eq_getElem?_getD, List.getElem?_set, if_pos rfl, if_pos h];rfl
theorem zay {v : List Int} {j k : Nat} {x : Int} (h : j ≠ k) : (v.set j x).getD k 0 = v.getD k 0 := by
 rw [List.getD_eq_getElem?_getD, List.getElem?_set, if_neg h, <- List.getD_eq_getElem?_getD]
theorem LB.addJ {n i : Nat} {d q : Int} (hd : 0 < d) (hd9 : d <= 1000000000) : ∀ {t : Nat} {R : List (List Int)} {v : List Int}, LB R n d -> VC v n -> i + 1 + t <= n -> LB (addJ R v i q d t).1 n d /\ VC (addJ R v i q d t).2 n /\ (YtgchabldcnmccabDoor.addJ R v i q d t).2.getD i 0 = v.getD i 0
 | 0, R, v, h, hv, _ => ⟨h, hv, rfl⟩
 | t + 1, R, v, h, hv, ht => by
  obtain ⟨h1, h2, h3⟩ := LB.addJ (i := i) (q := q) hd hd9 (t := t) h hv (by omega);refine ⟨h1.setE (by omega) (by omega) (zc9 hd) fun e => by omega, h2.set (by omega) ?_, ?_⟩
  ·have := zc9 (x := ent (YtgchabldcnmccabDoor.addJ R v i q d t).1 i (i + 1 + t) - q * ((YtgchabldcnmccabDoor.addJ R v i q d t).2.getD (i + 1 + t) 0 % d)) hd;omega
  ·show ((YtgchabldcnmccabDoor.addJ R v i q d t).2.set (i + 1 + t) _).getD i 0 = _
   rw [zay (by omega), h3]
theorem LB.addT {n i : Nat} {d : Int} (hd : 0 < d) (hd9 : d <= 1000000000) {R : List (List Int)} {v : List Int} (h : LB R n d) (hv : VC v n) (hi : i < n) (h0 : 0 < v.getD i 0) (h1 : v.getD i 0 <= d) :
  LB (addT n R v d i).1 n d /\ VC (addT n R v d i).2 n /\ 0 <= (YtgchabldcnmccabDoor.addT n R v d i).2.getD i 0 /\ (YtgchabldcnmccabDoor.addT n R v d i).2.getD i 0 < v.getD i 0 := by
 have e1 := Int.emod_nonneg (ent R i i) (show v.getD i 0 ≠ 0 by omega);have e2 := Int.emod_lt_of_pos (ent R i i) h0;obtain ⟨a1, a2, a3⟩ := LB.addJ (n := n) (i := i) (q := ent R i i / v.getD i 0) hd hd9 (t := n - (i + 1)) (h.setE hi hi (x := v.getD i 0) ⟨by omega, h1⟩ fun _ => h0) (hv.set hi (x := ent R i i % v.getD i 0) ⟨by omega, by omega⟩) (by omega);rw [zaD (by have := hv.1; omega)] at a3;exact ⟨a1, a2, by unfold YtgchabldcnmccabDoor.addT; rw [a3]; exact e1, by unfold YtgchabldcnmccabDoor.addT; rw [a3]; exact e2⟩
theorem LB.addE {n i : Nat} {d : Int} (hd : 0 < d) (hd9 : d <= 1000000000) (hi : i < n) : ∀ {t : Nat} {R : List (List Int)} {v : List Int}, LB R n d -> VC v n -> 0 <= v.getD i 0 -> v.getD i 0 <= d -> (v.getD i 0).toNat <= t ->
  LB (addE n d i t R v).1 n d /\ VC (addE n d i t R v).2 n /\ (YtgchabldcnmccabDoor.addE n d i t R v).2.getD i 0 = 0
 | 0, R, v, h, hv, h0, _, ht => ⟨h, hv, by show v.getD i 0 = 0; omega⟩
 | t + 1, R, v, h, hv, h0, h1, ht => by
  unfold YtgchabldcnmccabDoor.addE
  by_cases hz : v.getD i 0 = 0
  ·rw [if_pos hz];exact ⟨h, hv, hz⟩
  ·rw [if_neg hz];obtain ⟨a1, a2, a3, a4⟩ := LB.addT (n := n) hd hd9 h hv hi (by omega) h1;exact LB.addE hd hd9 hi a1 a2 a3 (by omega) (by omega)
theorem zc0 {n i : Nat} {d : Int} {R : List (List Int)} {v : List Int} (h : v.getD i 0 = 0) : ∀ t, addE n d i t R v = (R, v)
 | 0 => rfl
 | t + 1 => by unfold addE; rw [if_pos h]
theorem ziN {n i : Nat} {d : Int} (hd : 0 < d) (hd9 : d <= 1000000000) (hi : i < n) : ∀ {t s : Nat} {R : List (List Int)} {v : List Int}, LB R n d -> VC v n -> 0 <= v.getD i 0 -> v.getD i 0 <= d -> (v.getD i 0).toNat <= t -> (v.getD i 0).toNat <= s ->
  addE n d i t R v = addE n d i s R v
 | 0, s, R, v, h, hv, h0, _, ht, hs => by rw [zc0 (by omega), zc0 (by omega)]
 | t + 1, 0, R, v, h, hv, h0, _, ht, hs => by rw [zc0 (by omega), zc0 (by omega)]
 | t + 1, s + 1, R, v, h, hv, h0, h1, ht, hs => by
  by_cases hz : v.getD i 0 = 0
  ·rw [zc0 hz, zc0 hz]
  ·unfold addE;rw [if_neg hz, if_neg hz];obtain ⟨a1, a2, a3, a4⟩ := LB.addT (n := n) hd hd9 h hv hi (by omega) h1;exact ziN hd hd9 hi a1 a2 a3 (by omega) (by omega) (by omega)
theorem zoj {n i : Nat} {d : Int} (hd : 0 < d) (hd9 : d <= 1000000000) (hi : i < n) {R : List (List Int)} {v : List Int} (h : LB R n d) (hv : VC v n) (h0 : 0 < v.getD i 0) (h1 : v.getD i 0 <= d) :
  addE n d i (v.getD i 0).toNat R v = addE n d i ((addT n R v d i).2.getD i 0).toNat (addT n R v d i).1 (addT n R v d i).2 := by
 obtain ⟨a1, a2, a3, a4⟩ := LB.addT (n := n) hd hd9 h hv hi h0 h1
 obtain ⟨t, ht⟩ : ∃ t, (v.getD i 0).toNat = t + 1 := ⟨(v.getD i 0).toNat - 1, by omega⟩
 rw [ht]
 show (if v.getD i 0 = 0 then _ else _) = _
 rw [if_neg (by omega)];exact ziN hd hd9 hi a1 a2 a3 (by omega) (by omega) (Nat.le_refl _)
theorem LB.addS {n i : Nat} {d : Int} (hd : 0 < d) (hd9 : d <= 1000000000) {R : List (List Int)} {v : List Int} (h : LB R n d) (hv : VC v n) (hi : i < n) : LB (addS n R v d i).1 n d /\ VC (addS n R v d i).2 n := by
 have e := zc9 (x := v.getD i 0) hd;have hg : (v.set i (v.getD i 0 % d)).getD i 0 = v.getD i 0 % d := zaD (by have := hv.1; omega);obtain ⟨a1, a2, _⟩ := LB.addE (n := n) hd hd9 hi (t := (v.getD i 0 % d).toNat) h (hv.set hi (x := v.getD i 0 % d) ⟨by omega, by omega⟩) (by rw [hg]; omega) (by rw [hg]; omega) (by rw [hg]; omega);exact ⟨a1, a2⟩
theorem LB.addI {n : Nat} {d : Int} (hd : 0 < d) (hd9 : d <= 1000000000) {R : List (List Int)} {v : List Int} (h : LB R n d) (hv : VC v n) : ∀ {i : Nat}, i <= n -> LB (addI n R v d i).1 n d /\ VC (addI n R v d i).2 n
 | 0, _ => ⟨h, hv⟩
 | i + 1, hi => by
  obtain ⟨h1, h2⟩ := LB.addI hd hd9 h hv (i := i) (by omega);exact LB.addS hd hd9 h1 h2 (by omega)
set_option maxRecDepth 100000
set_option maxHeartbeats 8000000
theorem f85 {E : Env} (hE : E.spec 60 = none) (hF : E.fn 60 = some ir60) (h58 : E.spec 59 = some (zdG E9 59)) {n : Nat} {d : Int} {H : Hp} {L : List (Option ALoop)} {rv vv : AV} {q bv : Nat} {xs : List AV} {bs : List Nat} {R : List (List Int)} {v : List Int}
  (hn : n <= 8) (hd : 0 < d) (hd9 : d <= 1000000000) (hlat : LatM H rv q xs bs R) (hLB : LB R n d) (hqH : q < H.length) (hrow : RowM H vv bv v) (hVC : VC v n) (hbv : bv ∉ q :: bs) :
  WF E (.func 60 [] []) [.agg [.int .i64 d, rv], vv] ⟨H, L⟩ fun y m' => ∃ H', m' = ⟨H', L⟩ /\ LatM H' rv q xs bs (addI n R v d n).1 /\ RowM H' vv bv (addI n R v d n).2 /\ H.length <= H'.length /\ ∀ b, b < H.length -> b ∉ bs -> b ≠ bv -> H'[b]? = H[b]? := by
 have hRn := hLB.len;have hrl := hlat.len;rw [hRn] at hrl
 have hrc : rv.cells = some [rv] := by
  rcases hlat.gs with ⟨rfl, _⟩ | ⟨g, rfl, _⟩ | ⟨g, n, rfl, _⟩ <;> rfl
 have hbvl := hrow.lt
 have hbvq : bv ≠ q /\ bv ∉ bs := by
  rw [List.mem_cons] at hbv;exact ⟨fun e => hbv (.inl e), fun e => hbv (.inr e)⟩
 refine zx0 hE hF (by show 2 <= 99; decide) ?_;unfold ir60;simp only [zaw, List.replicate, zNA, zAN];have hlk : Zz.look (H ++ [some ⟨0, [.int .i64 d, rv]⟩]) H.length 0 = some [.int .i64 d, rv] := lk0 rfl
 repeat' (first |refine zE (by intro; simp (disch := omega) only [go_sem, hlk]; rfl) ?_ |refine WO.opE (by intro; exact zaf (by simp only [go_sem]; first | rfl | assumption)) (by simp only [pt8, pt2]; rfl) ?_ |refine zy1 ?_ |refine zy2 ?_ |refine zy3 ?_ |(simp only [fl1]) |refine zy5 ?_)
 refine zx9 (fun m s => ∃ T G i, ∃ N : Nat, s = ⟨T, G, L⟩ /\ T.length = 99 /\ gt T 1 = vv /\ gt T 2 = .pref N 0 0 /\ gt T 10 = .int .i64 (n : Nat) /\ gt T 11 = .int .i64 (i : Nat) /\ m + i = n /\ N = H.length /\ N + 1 <= G.length /\ Zz.look G N 0 = some [.int .i64 d, rv] /\ LatM G rv q xs bs (addI n R v d i).1 /\ RowM G vv bv (addI n R v d i).2 /\ ∀ b, b < H.length -> b ∉ bs -> b ≠ bv -> G[b]? = H[b]?) ?_ n _ ⟨_, _, 0, H.length, rfl, rfl, rfl, rfl, rfl, rfl, by omega, rfl, by simp, hlk, hlat.keep (List.getElem?_append_left hqH) fun b hb => List.getElem?_append_left (hlat.blt hb), hrow.same (List.getElem?_append_left hbvl), fun b hb _ _ => List.getElem?_append_left hb⟩;rintro m _ ⟨T, G, i, N, rfl, hT, g1, g2, g10, g11, hm, hN, hGl, k0, hl, hv, hkeep⟩;obtain ⟨f, rfl⟩ := exG hT;clear hT;change f 1 = _ at g1;change f 2 = _ at g2;change f 10 = _ at g10;change f 11 = _ at g11;simp only [tb, Nat.reduceAdd, g1, g2, g10, g11];obtain ⟨hlb, hvb⟩ := LB.addI hd hd9 hLB hVC (i := i) (by omega)
 by_cases hin : i < n
 ·have hs : addI n R v d (i + 1) = addS n (addI n R v d i).1 (addI n R v d i).2 d i := rfl;generalize addI n R v d i = S at *;obtain ⟨R1, v1⟩ := S;simp only at hl hv hlb hvb hs;have hvl := hvb.1;obtain ⟨gv, ov, cv, cv', b1, b2, b3, b4, b5, b6, b7⟩ := hv.wr (i := i) (by omega) (v1.getD i 0 % d);have hv0 := hvb.2 i hin
  have c58 := fun m => zrD (m := m) (r := rv) (d := d) (x := v1.getD i 0) hd (by omega) ⟨by omega, by omega⟩
  have hz := zc9 (x := v1.getD i 0) hd
  have hl1 : LatM (G.set bv (some ⟨gv, cv'⟩)) rv q xs bs R1 := hl.keep (List.getElem?_set_ne hbvq.1) fun b hb => List.getElem?_set_ne fun e => hbvq.2 (by rw [e]; exact hb)
  have hk1 : ∀ b, b < H.length -> b ∉ bs -> b ≠ bv -> (G.set bv (some ⟨gv, cv'⟩))[b]? = H[b]? := fun b h1 h2 h3 => by
   rw [List.getElem?_set_ne (Ne.symm h3)];exact hkeep b h1 h2 h3
  have k01 : Zz.look (G.set bv (some ⟨gv, cv'⟩)) N 0 = some [.int .i64 d, rv] := (zad (List.getElem?_set_ne (by omega))).trans k0;obtain ⟨gi, ai1, ai2, ai3, hRi⟩ := hl.at (i := i) (by have := hlb.len; omega);have hx := hRi.len;have hxc := hRi.cell;unfold AV.cells at hxc;have hil := hlb.row i (by omega);rw [hil] at hx;generalize hxe : xs.getD i und = x at *
  repeat' (first |refine zE (by intro; simp (disch := omega) only [go_sem, k0, ai1, ai2, ai3]; rfl) ?_ |refine zP rfl h58 (fun V => c58 _) ?_ |refine zy1 ?_ |refine zy2 ?_ |refine zy3 ?_ |(simp only [fl1]) |refine zx4 ?_ |refine zx6 ?_ |refine zF rfl (by intro; simp (disch := omega) only [go_sem, k0, b1, b2, b3]; rfl) rfl ?_ |refine WT.big rfl rfl (by intro; simp (disch := omega) only [go_sem, k0, b2, b3]; rfl) (by simp (disch := omega) only [go_sem, zbh]; rfl) (by first | exact .inl rfl | exact .inr (zan _) | exact .inr trivial | (right; apply zau; simp only [zaR, zNA, zCA, List.getElem?_cons_succ, List.getElem?_cons_zero, Tch.free, and_true, true_and]; first | done | omega)) (by simp only [pt8, pt1, pt5]; rfl) ?_ |refine zx3 rfl rfl (by intro; simp (disch := omega) only [go_sem, b2, b4]; rfl) (by simp (disch := omega) only [go_sem, zbh]; rfl) (by first | exact .inl rfl | exact .inr (zan _) | exact .inr trivial | (right; apply zau; simp only [zaR, zNA, zCA, List.getElem?_cons_succ, List.getElem?_cons_zero, Tch.free, and_true, true_and]; first | done | omega)) ?_ |refine zy6 ?_ |refine zy5 ?_ |refine zy4 rfl (fun hp => ?_) (fun hp => ?_) <;> try (exfalso; first | omega | contradiction))
  have hG1l : N + 1 <= (G.set bv (some ⟨gv, cv'⟩)).length := by rw [List.length_set]; exact hGl
  have hvz : VC (v1.set i (v1.getD i 0 % d)) n := hvb.set hin ⟨by omega, by omega⟩;have hvzi : (v1.set i (v1.getD i 0 % d)).getD i 0 = v1.getD i 0 % d := zaD (by omega);generalize hG1 : G.set bv (some ⟨gv, cv'⟩) = G1 at *
  obtain ⟨W, hsW⟩ : ∃ W, addS n R1 v1 d i = W := ⟨_, rfl⟩
  have hW0 : addE n d i ((v1.set i (v1.getD i 0 % d)).getD i 0).toNat R1 (v1.set i (v1.getD i 0 % d)) = W := by rw [hvzi]; exact hsW
  refine zx9 (fun m1 s => ∃ T G R2 v2, s = ⟨T, G, L⟩ /\ T.length = 99 /\ gt T 1 = vv /\ gt T 2 = .pref N 0 0 /\ gt T 4 = .int .i64 (i : Nat) /\ gt T 5 = x /\ gt T 10 = .int .i64 (n : Nat) /\ gt T 11 = .int .i64 (i : Nat) /\ (v2.getD i 0).toNat = m1 /\ 0 <= v2.getD i 0 /\ v2.getD i 0 <= d /\ N + 1 <= G.length /\ Zz.look G N 0 = some [.int .i64 d, rv] /\ LatM G rv q xs bs R2 /\ RowM G vv bv v2 /\ LB R2 n d /\ VC v2 n /\ addE n d i (v2.getD i 0).toNat R2 v2 = W /\ ∀ b, b < H.length -> b ∉ bs -> b ≠ bv -> G[b]? = H[b]?) ?_ ((v1.set i (v1.getD i 0 % d)).getD i 0).toNat _ ⟨_, G1, R1, v1.set i (v1.getD i 0 % d), rfl, rfl, rfl, rfl, rfl, rfl, rfl, rfl, rfl, by omega, by omega, hG1l, k01, hl1, b5, hlb, hvz, hW0, hk1⟩;clear g1 g2 g10 g11 f b1 b2 b3 b4 b7 ai1 ai2 ai3 hRi hl hv hkeep k0 hl1 hk1 k01 hG1l b5 b6 hW0 hG1 hxc hvz hvzi hlb hvb;rintro m1 _ ⟨T, G2, R2, v2, rfl, hT, g1, g2, g4, g5, g10, g11, hm1, hp0, hpd, hGl, k0, hl, hv, hlb, hvb, hW, hkeep⟩;obtain ⟨f, rfl⟩ := exG hT;clear hT;change f 1 = _ at g1;change f 2 = _ at g2;change f 4 = _ at g4;change f 5 = _ at g5;change f 10 = _ at g10;change f 11 = _ at g11;simp only [tb, Nat.reduceAdd, g1, g2, g4, g5, g10, g11];have hvl := hvb.1
  have hbi : bs.getD i 0 ∈ bs := by
   have := hl.bl;have := hlb.len;rw [List.getD_eq_getElem?_getD, List.getElem?_eq_getElem (by omega), Option.getD_some];exact List.getElem_mem _
  have hbiv : bs.getD i 0 ≠ bv := fun e => hbvq.2 (by rw [<- e]; exact hbi)
  have hbiH : bs.getD i 0 < H.length := hlat.blt hbi;obtain ⟨gi, ai1, ai2, ai3, hRi⟩ := hl.at (i := i) (by have := hlb.len; omega);rw [hxe] at hRi;have hil := hlb.row i (by omega)
  by_cases hz2 : v2.getD i 0 = 0
  ·obtain ⟨gv, ov, cv, b1, b2, b3, _⟩ := hv.at (i := i) (by omega);rw [hz2] at b3 hW
   repeat' (first |refine zE (by intro; simp (disch := omega) only [go_sem, b1, b2, b3]; rfl) ?_ |refine zy1 ?_ |refine zy2 ?_ |refine zy3 ?_ |(simp only [fl1, zbr]) |refine zy9 rfl ?_ |refine zy8 ?_)
   have hWe : (R2, v2) = addS n R1 v1 d i := by rw [hsW, <- hW]; rfl
   rw [<- hWe] at hs;exact ⟨m - 1, by omega, _, G2, i + 1, N, rfl, rfl, rfl, rfl, rfl, rfl, by omega, hN, hGl, k0, by rw [hs]; exact hl, by rw [hs]; exact hv, hkeep⟩
  ·have hst := zoj hd hd9 hin hlb hvb (by omega) hpd;have hel := hlb.el i i hin hin;obtain ⟨t1, t2, t3, t4⟩ := LB.addT hd hd9 hlb hvb hin (show 0 < v2.getD i 0 by omega) hpd;obtain ⟨h1', o1, c1, c1', d1, d2, d3, d4, d5, d6, d7⟩ := hRi.wr (i := i) (by omega) (v2.getD i 0);obtain ⟨gv, ov, cv, cv', b1, b2, b3, b4, b5, b6, b7⟩ := hv.wr (i := i) (by omega) (ent R2 i i % v2.getD i 0);have ea : (R2.getD i []).getD i 0 = ent R2 i i := rfl;rw [ea] at d3;have htd : (ent R2 i i).tdiv (v2.getD i 0) = ent R2 i i / v2.getD i 0 := Int.tdiv_eq_ediv_of_nonneg hel.1
   have hmod : ent R2 i i - ent R2 i i / v2.getD i 0 * v2.getD i 0 = ent R2 i i % v2.getD i 0 := by
    have := Int.emod_add_mul_ediv (ent R2 i i) (v2.getD i 0);rw [Int.mul_comm] at this;omega
   have hm1' := Int.emod_nonneg (ent R2 i i) (show v2.getD i 0 ≠ 0 by omega);have hm2' := Int.emod_lt_of_pos (ent R2 i i) (show 0 < v2.getD i 0 by omega);have hq1 : 0 <= ent R2 i i / v2.getD i 0 := Int.ediv_nonneg hel.1 (by omega);have hq2 : ent R2 i i / v2.getD i 0 <= ent R2 i i := Int.ediv_le_self _ hel.1
   have b2s : ∀ W : Option Blk, Zz.look (G2.set (bs.getD i 0) W) bv gv = some cv := fun W => (zad (List.getElem?_set_ne hbiv)).trans b2
   have hlatA := hl.put (i := i) (by have := hlb.len; omega) (B := some ⟨h1', c1'⟩) (r := (R2.getD i []).set i (v2.getD i 0)) (by rw [hxe]; exact d5)
   have hlatB : LatM ((G2.set (bs.getD i 0) (some ⟨h1', c1'⟩)).set bv (some ⟨gv, cv'⟩)) rv q xs bs (setE R2 i i (v2.getD i 0)) := hlatA.keep (List.getElem?_set_ne hbvq.1) fun b hb => List.getElem?_set_ne fun e => hbvq.2 (by rw [e]; exact hb)
   have hrowB : RowM ((G2.set (bs.getD i 0) (some ⟨h1', c1'⟩)).set bv (some ⟨gv, cv'⟩)) vv bv (v2.set i (ent R2 i i % v2.getD i 0)) := b5.same (by rw [List.getElem?_set_self (by rw [List.length_set]; exact zah b2), List.getElem?_set_self (zah b2)])
   have hkB : ∀ b, b < H.length -> b ∉ bs -> b ≠ bv -> ((G2.set (bs.getD i 0) (some ⟨h1', c1'⟩)).set bv (some ⟨gv, cv'⟩))[b]? = H[b]? := fun b x1 x2 x3 => by
    rw [List.getElem?_set_ne (Ne.symm x3), List.getElem?_set_ne (fun e => x2 (by rw [<- e]; exact hbi))];exact hkeep b x1 x2 x3
   have k0B : Zz.look ((G2.set (bs.getD i 0) (some ⟨h1', c1'⟩)).set bv (some ⟨gv, cv'⟩)) N 0 = some [.int .i64 d, rv] := (zad (by rw [List.getElem?_set_ne (by omega), List.getElem?_set_ne (by omega)])).trans k0
   have hlenB : N + 1 <= ((G2.set (bs.getD i 0) (some ⟨h1', c1'⟩)).set bv (some ⟨gv, cv'⟩)).length := by rw [List.length_set, List.length_set]; exact hGl
   have hlb3 : LB (setE R2 i i (v2.getD i 0)) n d := hlb.setE hin hin ⟨by omega, hpd⟩ fun _ => by omega
   have hvb3 : VC (v2.set i (ent R2 i i % v2.getD i 0)) n := hvb.set hin ⟨by omega, by omega⟩
   obtain ⟨WT1, hsT⟩ : ∃ W, addT n R2 v2 d i = W := ⟨_, rfl⟩
   rw [hsT] at hst t1 t2 t3 t4;have hsT' := hsT;unfold addT at hsT
   repeat' (first |refine zE (by intro; simp (disch := omega) only [go_sem, b1, b2, b3, d1, d2, d3, hz2, if_false, htd, hmod]; rfl) ?_ |refine zx2 (by intro; simp (disch := omega) only [go_sem, b4, b2s, d2, d4]; rfl) ?_ |refine zy1 ?_ |refine zy2 ?_ |refine zy3 ?_ |(simp only [fl1]) |refine zx5 rfl ?_ |refine zy0 rfl ?_ |refine zy6 ?_ |refine zy5 ?_)
   generalize hqq : ent R2 i i / v2.getD i 0 = qq at *;refine zx9 (fun m2 s => ∃ T G j, s = ⟨T, G, L⟩ /\ T.length = 99 /\ gt T 1 = vv /\ gt T 2 = .pref N 0 0 /\ gt T 4 = .int .i64 (i : Nat) /\ gt T 5 = x /\ gt T 6 = .int .i64 qq /\ gt T 7 = .int .i64 (j : Nat) /\ gt T 10 = .int .i64 (n : Nat) /\ gt T 11 = .int .i64 (i : Nat) /\ m2 + j = n /\ i + 1 <= j /\ N + 1 <= G.length /\ Zz.look G N 0 = some [.int .i64 d, rv] /\ LatM G rv q xs bs (addJ (setE R2 i i (v2.getD i 0)) (v2.set i (ent R2 i i % v2.getD i 0)) i qq d (j - (i + 1))).1 /\ RowM G vv bv (addJ (setE R2 i i (v2.getD i 0)) (v2.set i (ent R2 i i % v2.getD i 0)) i qq d (j - (i + 1))).2 /\ ∀ b, b < H.length -> b ∉ bs -> b ≠ bv -> G[b]? = H[b]?) ?_ (n - (i + 1)) _ ⟨_, (G2.set (bs.getD i 0) (some ⟨h1', c1'⟩)).set bv (some ⟨gv, cv'⟩), i + 1, rfl, rfl, rfl, rfl, rfl, rfl, rfl, rfl, rfl, rfl, by omega, Nat.le_refl _, hlenB, k0B, by rw [Nat.sub_self]; exact hlatB, by rw [Nat.sub_self]; exact hrowB, hkB⟩;generalize setE R2 i i (v2.getD i 0) = R3 at *;generalize v2.set i (ent R2 i i % v2.getD i 0) = v3 at *;clear g1 g2 g4 g5 g10 g11 f b1 b2 b3 b4 b5 b6 b7 b2s d1 d2 d3 d4 d5 d6 d7 ai1 ai2 ai3 hRi hl hv hkeep k0 hlatA hlatB hrowB hkB k0B hlenB;rintro m2 _ ⟨T, G4, j, rfl, hT, g1, g2, g4, g5, g6, g7, g10, g11, hm2, hij, hGl, k0, hl, hv, hkeep⟩;obtain ⟨f, rfl⟩ := exG hT;clear hT;change f 1 = _ at g1;change f 2 = _ at g2;change f 4 = _ at g4;change f 5 = _ at g5;change f 6 = _ at g6;change f 7 = _ at g7;change f 10 = _ at g10;change f 11 = _ at g11;simp only [tb, Nat.reduceAdd, g1, g2, g4, g5, g6, g7, g10, g11];obtain ⟨hlbj, hvbj, _⟩ := LB.addJ (i := i) (q := qq) hd hd9 (t := j - (i + 1)) hlb3 hvb3 (by omega)
   by_cases hjn : j < n
   ·have hJs : addJ R3 v3 i qq d (j + 1 - (i + 1)) = (setE (addJ R3 v3 i qq d (j - (i + 1))).1 i j ((addJ R3 v3 i qq d (j - (i + 1))).2.getD j 0 % d), (addJ R3 v3 i qq d (j - (i + 1))).2.set j ((ent (addJ R3 v3 i qq d (j - (i + 1))).1 i j - qq * ((addJ R3 v3 i qq d (j - (i + 1))).2.getD j 0 % d)) % d)) := by
     have e : j + 1 - (i + 1) = (j - (i + 1)) + 1 := by omega
     have e2 : i + 1 + (j - (i + 1)) = j := by omega
     rw [e, addJ, e2]
    generalize addJ R3 v3 i qq d (j - (i + 1)) = S4 at *;obtain ⟨R4, v4⟩ := S4;simp only at hl hv hlbj hvbj hJs;have hel4 := hlbj.el i j hin hjn;have hvj := hvbj.2 j hjn;have hz4 := zc9 (x := v4.getD j 0) hd;obtain ⟨gi, ai1, ai2, ai3, hRi⟩ := hl.at (i := i) (by have := hlbj.len; omega);rw [hxe] at hRi;have hxj := hRi.len;rw [hlbj.row i hin] at hxj;obtain ⟨h1', o1, c1, c1', d1, d2, d3, d4, d5, d6, d7⟩ := hRi.wr (i := j) (by have := hlbj.row i hin; omega) (v4.getD j 0 % d);obtain ⟨gv, ov, cv, cv', b1, b2, b3, b4, b5, b6, b7⟩ := hv.wr (i := j) (by have := hvbj.1; omega) ((ent R4 i j - qq * (v4.getD j 0 % d)) % d);have ea : (R4.getD i []).getD j 0 = ent R4 i j := rfl;rw [ea] at d3;have hqp : 0 <= qq * (v4.getD j 0 % d) := Int.mul_nonneg hq1 hz4.1;have hqp2 : qq * (v4.getD j 0 % d) <= 1000000000 * 1000000000 := Int.mul_le_mul (by omega) (by omega) hz4.1 (by omega)
    have c1s := fun m => zrD (m := m) (r := rv) (d := d) (x := v4.getD j 0) hd (by omega) ⟨by omega, by omega⟩
    have c2s := fun m => zrD (m := m) (r := rv) (d := d) (x := ent R4 i j - qq * (v4.getD j 0 % d)) hd (by omega) ⟨by omega, by omega⟩
    have b2s : ∀ W : Option Blk, Zz.look (G4.set (bs.getD i 0) W) bv gv = some cv := fun W => (zad (List.getElem?_set_ne hbiv)).trans b2
    have hlatA := hl.put (i := i) (by have := hlbj.len; omega) (B := some ⟨h1', c1'⟩) (r := (R4.getD i []).set j (v4.getD j 0 % d)) (by rw [hxe]; exact d5)
    have hlatB : LatM ((G4.set (bs.getD i 0) (some ⟨h1', c1'⟩)).set bv (some ⟨gv, cv'⟩)) rv q xs bs (setE R4 i j (v4.getD j 0 % d)) := hlatA.keep (List.getElem?_set_ne hbvq.1) fun b hb => List.getElem?_set_ne fun e => hbvq.2 (by rw [e]; exact hb)
    have hrowB : RowM ((G4.set (bs.getD i 0) (some ⟨h1', c1'⟩)).set bv (some ⟨gv, cv'⟩)) vv bv (v4.set j ((ent R4 i j - qq * (v4.getD j 0 % d)) % d)) := b5.same (by rw [List.getElem?_set_self (by rw [List.length_set]; exact zah b2), List.getElem?_set_self (zah b2)])
    have hkB : ∀ b, b < H.length -> b ∉ bs -> b ≠ bv -> ((G4.set (bs.getD i 0) (some ⟨h1', c1'⟩)).set bv (some ⟨gv, cv'⟩))[b]? = H[b]? := fun b x1 x2 x3 => by
     rw [List.getElem?_set_ne (Ne.symm x3), List.getElem?_set_ne (fun e => x2 (by rw [<- e]; exact hbi))];exact hkeep b x1 x2 x3
    have k0B : Zz.look ((G4.set (bs.getD i 0) (some ⟨h1', c1'⟩)).set bv (some ⟨gv, cv'⟩)) N 0 = some [.int .i64 d, rv] := (zad (by rw [List.getElem?_set_ne (by omega), List.getElem?_set_ne (by omega)])).trans k0
    have hlenB : N + 1 <= ((G4.set (bs.getD i 0) (some ⟨h1', c1'⟩)).set bv (some ⟨gv, cv'⟩)).length := by rw [List.length_set, List.length_set]; exact hGl
    repeat' (first |refine zE (by intro; simp (disch := omega) only [go_sem]; rfl) ?_ |refine WO.opE (by intro; exact zaf (by simp only [go_sem]; first | rfl | assumption)) (by simp only [pt8, pt3]; rfl) ?_ |refine zP rfl h58 (fun V => c1s _) ?_ |refine zP rfl h58 (fun V => c2s _) ?_ |refine zy1 ?_ |refine zy2 ?_ |refine zy3 ?_ |(simp only [fl1, fl4, zbr]) |refine zx4 ?_ |refine zx6 ?_ |refine zF rfl (by intro; simp (disch := omega) only [go_sem, k0, b1, b2, b3, d1, d2, d3]; rfl) rfl ?_ |refine WT.big rfl rfl (by intro; simp (disch := omega) only [go_sem, k0, b2, b3, d2, d3]; rfl) (by simp (disch := omega) only [go_sem, zbh]; rfl) (by first | exact .inl rfl | exact .inr (zan _) | exact .inr trivial | (right; apply zau; simp only [zaR, zNA, zCA, List.getElem?_cons_succ, List.getElem?_cons_zero, Tch.free, and_true, true_and]; first | done | omega)) (by simp only [pt8, pt1, pt3, pt5, pt7]; rfl) ?_ |refine zx3 rfl rfl (by intro; simp (disch := omega) only [go_sem, b4, b2s, d2, d4]; rfl) (by simp (disch := omega) only [go_sem, zbh]; rfl) (by first | exact .inl rfl | exact .inr (zan _) | exact .inr trivial | (right; apply zau; simp only [zaR, zNA, zCA, List.getElem?_cons_succ, List.getElem?_cons_zero, Tch.free, and_true, true_and]; first | done | omega)) ?_ |refine zy6 ?_ |refine zy5 ?_ |refine zy4 rfl (fun hp => ?_) (fun hp => ?_) <;> try (exfalso; first | omega | contradiction))
    exact ⟨m2 - 1, by omega, _, (G4.set (bs.getD i 0) (some ⟨h1', c1'⟩)).set bv (some ⟨gv, cv'⟩), j + 1, rfl, rfl, rfl, rfl, rfl, rfl, rfl, rfl, rfl, rfl, by omega, by omega, hlenB, k0B, by rw [hJs]; exact hlatB, by rw [hJs]; exact hrowB, hkB⟩
   ·have hje : j = n := by omega
    subst hje;rw [hsT] at hl hv;have hxj := hx
    repeat' (first |refine zE (by intro; simp (disch := omega) only [go_sem]; rfl) ?_ |refine WO.opE (by intro; exact zaf (by simp only [go_sem]; first | rfl | assumption)) (by simp only [pt8, pt3]; rfl) ?_ |refine zy1 ?_ |refine zy2 ?_ |refine zy3 ?_ |(simp only [fl1, fl3, fl4, fl6, fl9, zbr]) |refine zy8 ?_ |refine zy4 rfl (fun hp => ?_) (fun hp => ?_) <;> try (exfalso; first | omega | contradiction))
    exact ⟨_, by omega, _, G4, WT1.1, WT1.2, rfl, rfl, rfl, rfl, rfl, rfl, rfl, rfl, rfl, t3, by omega, hGl, k0, hl, hv, t1, t2, by rw [<- hst]; exact hW, hkeep⟩
 ·have hie : i = n := by omega
  subst hie
  repeat' (first |refine zE (by intro; simp (disch := omega) only [go_sem]; rfl) ?_ |refine zy1 ?_ |refine zy2 ?_ |refine zy3 ?_ |(simp only [fl3, fl6, fl9]) |refine zy8 ?_ |refine zy4 rfl (fun hp => ?_) (fun hp => ?_) <;> try (exfalso; first | omega | contradiction))
  exact ⟨_, rfl, G, rfl, hl, hv, by omega, hkeep⟩
end Go.Proofs.YtgchabldcnmccabDoor

