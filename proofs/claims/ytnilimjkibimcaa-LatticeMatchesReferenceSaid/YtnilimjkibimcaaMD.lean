import Derived.Test.YtnilimjkibimcaaMC

set_option linter.unusedSimpArgs false
set_option linter.unusedVariables false

namespace Go.Proofs.Ytnilimjkibimcaa
open Go.Zz
set_option maxRecDepth 100000
set_option maxHeartbeats 8000000
theorem f86 {E : Env} (hE : E.spec 86 = none) (hF : E.fn 86 = some ir86) (h58 : E.spec 132 = some (borrowQ E9 132)) {n : Nat} {d : Int} {H : Hp} {L : List (Option ALoop)} {rv : AV} {q : Nat} {xs : List AV} {bs : List Nat} {R : List (List Int)}
  (hn : n ≤ 8) (hd : 0 < d) (hd9 : d ≤ 1000000000) (hlat : LatM H rv q xs bs R) (hLB : LB R n d) (hqH : q < H.length) :
  WF E (.func 86 [] []) [.agg [.int .i64 d, rv]] ⟨H, L⟩ fun v m' => ∃ H', m' = ⟨H', L⟩ ∧ LatM H' rv q xs bs (redI n R d n) ∧ H.length ≤ H'.length ∧ ∀ b, b < H.length → b ∉ bs → H'[b]? = H[b]? := by
 have hRn := hLB.len
 have hbH : ∀ k, k < n → bs.getD k 0 ∈ bs ∧ bs.getD k 0 < H.length := fun k hk => by
  have hbl := hlat.bl
  have : bs.getD k 0 ∈ bs := by
   rw [List.getD_eq_getElem?_getD, List.getElem?_eq_getElem (by omega), Option.getD_some]
   exact List.getElem_mem _
  exact ⟨this, hlat.blt this⟩
 have hrl := hlat.len
 have hrc : rv.cells = some [rv] := by
  rcases hlat.gs with ⟨rfl, _⟩ | ⟨g, rfl, _⟩ | ⟨g, n, rfl, _⟩ <;> rfl
 refine WF.fnE hE hF (by show 1 ≤ 85; decide) ?_
 unfold ir86
 simp only [padTo, List.replicate, zNA, zAN]
 have hlk : Zz.look (H ++ [some ⟨0, [.int .i64 d, rv]⟩]) H.length 0 = some [.int .i64 d, rv] := lk0 rfl
 repeat' (first | (refine WO.opE (by intro; simp (disch := omega) only [go_sem, hlk]; rfl) (by simp only [pt8, pt0, pt1, pt2, pt7]; rfl) ?_) | (refine WO.opE (by intro; exact ev_lenS (by simp only [go_sem]; first | rfl | assumption)) (by simp only [pt8, pt1]; rfl) ?_) | (refine WC.seq ?_) | (refine WC.region ?_) | (refine WO.nil ?_) | (simp only [fl1]) | (refine WC.block ?_))
 refine WC.loopI (fun m s => ∃ T G, ∃ N : Nat, s = ⟨T, G, L⟩ ∧ T.length = 85 ∧ gt T 1 = .pref N 0 0 ∧ gt T 2 = .int .i64 ((m : Int) - 1) ∧ m ≤ n ∧ N = H.length ∧ G.length = N + 1 ∧ Zz.look G N 0 = some [.int .i64 d, rv] ∧ LatM G rv q xs bs (redI n R d (n - m)) ∧ ∀ b, b < H.length → b ∉ bs → G[b]? = H[b]?) ?_ n _ ⟨_, _, H.length, rfl, rfl, rfl, by simp only [gt2]; rw [hRn], Nat.le_refl _, rfl, by simp, hlk, by rw [Nat.sub_self]; exact hlat.keep (List.getElem?_append_left hqH) fun b hb => List.getElem?_append_left (hlat.blt hb), fun b hb _ => List.getElem?_append_left hb⟩
 rintro m _ ⟨T, G, N, rfl, hT, g1, g2, hm, hN, hGl, k0, hl, hkeep⟩
 obtain ⟨f, rfl⟩ := ex85 hT
 clear hT
 replace g1 : f 1 = .pref N 0 0 := g1
 replace g2 : f 2 = .int .i64 ((m : Int) - 1) := g2
 simp only [g1, g2]
 have hlb := LB.redI hd hLB (show n - m ≤ n by omega)
 by_cases hm0 : m = 0
 ·subst hm0
  repeat' (first | (refine WO.opE (by intro; simp (disch := omega) only [go_sem]; rfl) (by simp only [pt8, pt3, pt4]; rfl) ?_) | (refine WC.seq ?_) | (refine WC.region ?_) | (refine WO.nil ?_) | (simp only [fl1, fl3, fl6, fl9]) | (refine WC.no rfl ?_) | (refine WC.exit ?_))
  exact ⟨_, rfl, G, rfl, hl, by omega, hkeep⟩
 ·obtain ⟨i, rfl⟩ : ∃ i, m = i + 1 := ⟨m - 1, by omega⟩
  have hsucc : redI n R d (n - i) = redK n (redI n R d (n - (i + 1))) i d (n - (i + 1)) := by
   have e : n - i = (n - (i + 1)) + 1 := by omega
   have e2 : n - 1 - (n - (i + 1)) = i := by omega
   rw [e]
   show redK n _ (n - 1 - (n - (i + 1))) d (n - (i + 1)) = _
   rw [e2]
  generalize redI n R d (n - (i + 1)) = R0 at *
  have hR0 := hlb.len
  obtain ⟨gi, ai1, ai2, ai3, hRi⟩ := hl.at (i := i) (by omega)
  have ei : ((i + 1 : Nat) : Int) - 1 = (i : Int) := by omega
  rw [ei] at g2
  have hx := hRi.len
  have hxc := hRi.cell
  unfold AV.cells at hxc
  have hil := hlb.row i (by omega)
  rw [hil] at hx
  generalize hxe : xs.getD i und = x at *
  repeat' (first | (refine WO.opE (by intro; simp (disch := omega) only [go_sem, k0, ai1, ai2, ai3, ei]; rfl) (by simp only [pt8, pt0, pt1, pt2, pt3, pt4, pt5, pt7]; rfl) ?_) | (refine WC.seq ?_) | (refine WC.region ?_) | (refine WO.nil ?_) | (simp only [fl1]) | (refine WC.yes rfl ?_) | (refine WC.skip ?_) | (refine WC.block ?_))
  refine WC.loopI (fun m1 s => ∃ T G k, s = ⟨T, G, L⟩ ∧ T.length = 85 ∧ gt T 1 = .pref N 0 0 ∧ gt T 2 = .int .i64 (i : Nat) ∧ gt T 3 = x ∧ gt T 4 = .int .i64 (k : Nat) ∧ m1 + k = n ∧ i + 1 ≤ k ∧ G.length = N + 1 ∧ Zz.look G N 0 = some [.int .i64 d, rv] ∧ LatM G rv q xs bs (redK n R0 i d (k - (i + 1))) ∧ ∀ b, b < H.length → b ∉ bs → G[b]? = H[b]?) ?_ (n - (i + 1)) _ ⟨_, G, i + 1, rfl, rfl, rfl, (show AV.int .i64 (((i + 1 : Nat) : Int) - 1) = _ by rw [ei]), rfl, rfl, by omega, Nat.le_refl _, hGl, k0, by rw [Nat.sub_self]; exact hl, hkeep⟩
  clear g1 g2 f k0 hl hkeep hGl ai1 ai2 ai3 hRi
  rintro m1 _ ⟨T, G, k, rfl, hT, g1, g2, g3, g4, hm1, hik, hGl, k0, hl, hkeep⟩
  obtain ⟨f, rfl⟩ := ex85 hT
  clear hT
  replace g1 : f 1 = .pref N 0 0 := g1
  replace g2 : f 2 = .int .i64 (i : Nat) := g2
  replace g3 : f 3 = x := g3
  replace g4 : f 4 = .int .i64 (k : Nat) := g4
  simp only [g1, g2, g3, g4]
  have hlbk := LB.redK (i := i) hd hlb (t := k - (i + 1)) (by omega)
  by_cases hkn : k < n
  ·have hKs : redK n R0 i d (k + 1 - (i + 1)) = redJ (setE (redK n R0 i d (k - (i + 1))) i k (ent (redK n R0 i d (k - (i + 1))) i k % ent (redK n R0 i d (k - (i + 1))) k k)) i k (ent (redK n R0 i d (k - (i + 1))) i k / ent (redK n R0 i d (k - (i + 1))) k k) d (n - k - 1) := by
    have e : k + 1 - (i + 1) = (k - (i + 1)) + 1 := by omega
    have e2 : i + 1 + (k - (i + 1)) = k := by omega
    rw [e]
    show redJ (setE (redK n R0 i d (k - (i + 1))) i (i + 1 + (k - (i + 1))) _) i (i + 1 + (k - (i + 1))) _ d _ = _
    rw [e2]
   generalize redK n R0 i d (k - (i + 1)) = RK at *
   have hRK := hlbk.len
   obtain ⟨gi, ai1, ai2, ai3, hRi⟩ := hl.at (i := i) (by omega)
   obtain ⟨gk, ak1, ak2, ak3, hRk⟩ := hl.at (i := k) (by omega)
   rw [hxe] at hRi
   have hil := hlbk.row i (by omega)
   have hkl := hlbk.row k (by omega)
   obtain ⟨g1', o1, c1, b1, b2, b3, b4⟩ := hRi.at (i := k) (by omega)
   obtain ⟨g2', o2, c2, d1, d2, d3, d4⟩ := hRk.at (i := k) (by omega)
   have hyc := hRk.cell
   generalize hye : xs.getD k und = y at *
   have ha := hlbk.el i k (by omega) hkn
   have hp := hlbk.diag k hkn
   have hpd := hlbk.el k k hkn hkn
   have ea : (RK.getD i []).getD k 0 = ent RK i k := rfl
   have ep : (RK.getD k []).getD k 0 = ent RK k k := rfl
   rw [ea] at b3
   rw [ep] at d3
   have hl' := fun r hr => hl.put (i := i) (by omega) (B := some ⟨g1', c1.set o1 (.int .i64 r)⟩) (r := (RK.getD i []).set k r) hr
   rw [hxe] at hl'
   have hl2 := hl' _ (b4 (ent RK i k % ent RK k k)).2
   have hov := (b4 (ent RK i k % ent RK k k)).1
   have hq1 : 0 ≤ ent RK i k / ent RK k k := Int.ediv_nonneg ha.1 (by omega)
   have hq2 : ent RK i k / ent RK k k ≤ ent RK i k := Int.ediv_le_self _ ha.1
   have htd : (ent RK i k).tdiv (ent RK k k) = ent RK i k / ent RK k k := Int.tdiv_eq_ediv_of_nonneg ha.1
   have hmod : ent RK i k - ent RK i k / ent RK k k * ent RK k k = ent RK i k % ent RK k k := by
    have := Int.emod_add_mul_ediv (ent RK i k) (ent RK k k)
    rw [Int.mul_comm] at this
    omega
   have hm1' := Int.emod_nonneg (ent RK i k) (show ent RK k k ≠ 0 by omega)
   have hm2' := Int.emod_lt_of_pos (ent RK i k) hp
   have hp0 : ¬ ent RK k k = 0 := by omega
   have hlen := hRi.len
   rw [hil] at hlen
   repeat' (first | (refine WO.opE (by intro; simp (disch := omega) only [go_sem, k0, b1, b2, b3, d1, d2, d3, ak1, ak2, ak3, hp0, if_false, htd, hmod]; rfl) (by simp only [pt8, pt0, pt1, pt2, pt3, pt4, pt5, pt6, pt7]; rfl) ?_) | (refine WO.opN (by intro; simp (disch := omega) only [go_sem, b2, hov]; rfl) ?_) | (refine WO.opE (by intro; exact ev_lenS (by simp only [go_sem]; first | rfl | assumption)) (by simp only [pt8, pt0]; rfl) ?_) | (refine WC.seq ?_) | (refine WC.region ?_) | (refine WO.nil ?_) | (simp only [fl1]) | (refine WC.calm rfl ?_) | (refine WC.skip ?_) | (refine WC.block ?_) | (refine WC.em2 rfl (fun hp => ?_) (fun hp => ?_) <;> try (exfalso; first | omega | contradiction)))
   obtain ⟨hbi, hbiH⟩ := hbH i (by omega)
   have k0s : ∀ B : Option Blk, Zz.look (G.set (bs.getD i 0) B) N 0 = some [.int .i64 d, rv] := fun B => (look_of_get (List.getElem?_set_ne (by omega))).trans k0
   have hks : ∀ B : Option Blk, ∀ b, b < H.length → b ∉ bs → (G.set (bs.getD i 0) B)[b]? = H[b]? := fun B b hb hbn => by
    rw [List.getElem?_set_ne (fun e => hbn (by rw [← e]; exact hbi))]
    exact hkeep b hb hbn
   have hlb2 : LB (setE RK i k (ent RK i k % ent RK k k)) n d := hlbk.setE (by omega) hkn ⟨hm1', by omega⟩ fun e => by omega
   generalize hqq : ent RK i k / ent RK k k = qq at *
   have hl3 : LatM _ rv q xs bs (setE RK i k (ent RK i k % ent RK k k)) := hl2
   refine WC.loopI (fun m2 s => ∃ T G j, s = ⟨T, G, L⟩ ∧ T.length = 85 ∧ gt T 1 = .pref N 0 0 ∧ gt T 2 = .int .i64 (i : Nat) ∧ gt T 3 = x ∧ gt T 4 = .int .i64 (k : Nat) ∧ gt T 5 = .int .i64 qq ∧ gt T 6 = .int .i64 (j : Nat) ∧ m2 + j = n ∧ k + 1 ≤ j ∧ G.length = N + 1 ∧ Zz.look G N 0 = some [.int .i64 d, rv] ∧ LatM G rv q xs bs (redJ (setE RK i k (ent RK i k % ent RK k k)) i k qq d (j - (k + 1))) ∧ ∀ b, b < H.length → b ∉ bs → G[b]? = H[b]?) ?_ (n - (k + 1)) _ ⟨_, _, k + 1, rfl, rfl, rfl, rfl, rfl, rfl, rfl, rfl, by omega, Nat.le_refl _, by rw [List.length_set]; exact hGl, k0s _, by rw [Nat.sub_self]; exact hl3, hks _⟩
   generalize setE RK i k (ent RK i k % ent RK k k) = R2 at *
   clear g1 g2 g3 g4 f k0 hl hkeep hGl ai1 ai2 ai3 hRi ak1 ak2 ak3 hRk b1 b2 b3 b4 d1 d2 d3 d4 hl' hl2 hl3 hov k0s hks
   rintro m2 _ ⟨T, G, j, rfl, hT, g1, g2, g3, g4, g5, g6, hm2, hkj, hGl, k0, hl, hkeep⟩
   obtain ⟨f, rfl⟩ := ex85 hT
   clear hT
   replace g1 : f 1 = .pref N 0 0 := g1
   replace g2 : f 2 = .int .i64 (i : Nat) := g2
   replace g3 : f 3 = x := g3
   replace g4 : f 4 = .int .i64 (k : Nat) := g4
   replace g5 : f 5 = .int .i64 qq := g5
   replace g6 : f 6 = .int .i64 (j : Nat) := g6
   simp only [g1, g2, g3, g4, g5, g6]
   have hlbj := LB.redJ (q := qq) hd (show i < k by omega) (t := j - (k + 1)) hlb2 (by omega) (by omega)
   by_cases hjn : j < n
   ·have hJs : redJ R2 i k qq d (j + 1 - (k + 1)) = setE (redJ R2 i k qq d (j - (k + 1))) i j ((ent (redJ R2 i k qq d (j - (k + 1))) i j - qq * ent (redJ R2 i k qq d (j - (k + 1))) k j) % d) := by
     have e : j + 1 - (k + 1) = (j - (k + 1)) + 1 := by omega
     have e2 : k + 1 + (j - (k + 1)) = j := by omega
     rw [e]
     show setE _ i (k + 1 + (j - (k + 1))) _ = _
     rw [e2]
    generalize redJ R2 i k qq d (j - (k + 1)) = RJ at *
    have hRJ := hlbj.len
    obtain ⟨gi, ai1, ai2, ai3, hRi⟩ := hl.at (i := i) (by omega)
    obtain ⟨gk, ak1, ak2, ak3, hRk⟩ := hl.at (i := k) (by omega)
    rw [hxe] at hRi
    have hil := hlbj.row i (by omega)
    have hkl := hlbj.row k (by omega)
    obtain ⟨g1', o1, c1, b1, b2, b3, b4⟩ := hRi.at (i := j) (by omega)
    obtain ⟨g2', o2, c2, d1, d2, d3, d4⟩ := hRk.at (i := j) (by omega)
    rw [hye] at ak3 hRk d1
    have ha' := hlbj.el i j (by omega) hjn
    have hp' := hlbj.el k j hkn hjn
    have ea' : (RJ.getD i []).getD j 0 = ent RJ i j := rfl
    have ep' : (RJ.getD k []).getD j 0 = ent RJ k j := rfl
    rw [ea'] at b3
    rw [ep'] at d3
    have hl' := fun r hr => hl.put (i := i) (by omega) (B := some ⟨g1', c1.set o1 (.int .i64 r)⟩) (r := (RJ.getD i []).set j r) hr
    rw [hxe] at hl'
    have hl2 := hl' _ (b4 ((ent RJ i j - qq * ent RJ k j) % d)).2
    have hov := (b4 ((ent RJ i j - qq * ent RJ k j) % d)).1
    have hqp : 0 ≤ qq * ent RJ k j := Int.mul_nonneg hq1 hp'.1
    have hqp2 : qq * ent RJ k j ≤ 1000000000 * 1000000000 := Int.mul_le_mul (by omega) (by omega) hp'.1 (by omega)
    have c58 := fun m => s132 (m := m) (r := rv) (d := d) (x := ent RJ i j - qq * ent RJ k j) hd (by omega) ⟨by omega, by omega⟩
    have k0s : ∀ B : Option Blk, Zz.look (G.set (bs.getD i 0) B) N 0 = some [.int .i64 d, rv] := fun B => (look_of_get (List.getElem?_set_ne (by omega))).trans k0
    have hks : ∀ B : Option Blk, ∀ b, b < H.length → b ∉ bs → (G.set (bs.getD i 0) B)[b]? = H[b]? := fun B b hb hbn => by
     rw [List.getElem?_set_ne (fun e => hbn (by rw [← e]; exact hbi))]
     exact hkeep b hb hbn
    have hl3 : LatM _ rv q xs bs (setE RJ i j ((ent RJ i j - qq * ent RJ k j) % d)) := hl2
    repeat' (first | (refine WO.opE (by intro; simp (disch := omega) only [go_sem]; rfl) (by simp only [pt8, pt0, pt3, pt4, pt6, pt7]; rfl) ?_) | (refine WO.opE (by intro; exact ev_lenS (by simp only [go_sem]; first | rfl | assumption)) (by simp only [pt8, pt5]; rfl) ?_) | (refine WT.spec rfl h58 (fun V => c58 _) (by simp only [pt8, pt3]; rfl) ?_) | (refine WC.seq ?_) | (refine WC.region ?_) | (refine WO.nil ?_) | (simp only [fl1, fl4, fl10]) | (refine WC.drawT ?_) | (refine WT.nil ?_) | (refine WT.free rfl (by intro; simp (disch := omega) only [go_sem, k0, b1, b2, b3, d1, d2, d3, ak1, ak2, ak3]; rfl) rfl (by simp only [pt8, pt0, pt1, pt2, pt3, pt4, pt5, pt6, pt7]; rfl) ?_) | (refine WT.big rfl rfl (by intro; simp (disch := omega) only [go_sem, k0, b2, b3, d2, d3, ak2, ak3]; rfl) (by simp (disch := omega) only [go_sem, touch]; rfl) (by first | exact .inl rfl | exact .inr (apart_nil _) | exact .inr trivial | (right; apply apart_mk; simp only [apartL, zNA, zCA, List.getElem?_cons_succ, List.getElem?_cons_zero, Tch.free, and_true, true_and]; first | done | omega)) (by simp only [pt8, pt0, pt2, pt3, pt5, pt7]; rfl) ?_) | (refine WT.bigN rfl rfl (by intro; simp (disch := omega) only [go_sem, b2, hov]; rfl) (by simp (disch := omega) only [go_sem, touch]; rfl) (by first | exact .inl rfl | exact .inr (apart_nil _) | exact .inr trivial | (right; apply apart_mk; simp only [apartL, zNA, zCA, List.getElem?_cons_succ, List.getElem?_cons_zero, Tch.free, and_true, true_and]; first | done | omega)) ?_) | (refine WC.skip ?_) | (refine WC.block ?_) | (refine WC.em2 rfl (fun hp => ?_) (fun hp => ?_) <;> try (exfalso; first | omega | contradiction)))
    exact ⟨m2 - 1, by omega, _, _, j + 1, rfl, rfl, rfl, rfl, rfl, rfl, rfl, rfl, by omega, by omega, by rw [List.length_set]; exact hGl, k0s _, by rw [hJs]; exact hl3, hks _⟩
   ·have hje : j = n := by omega
    subst hje
    repeat' (first | (refine WO.opE (by intro; simp (disch := omega) only [go_sem]; rfl) (by simp only [pt8, pt2, pt3, pt4, pt6]; rfl) ?_) | (refine WO.opE (by intro; exact ev_lenS (by simp only [go_sem]; first | rfl | assumption)) (by simp only [pt8, pt5]; rfl) ?_) | (refine WC.seq ?_) | (refine WC.region ?_) | (refine WO.nil ?_) | (simp only [fl1, fl10]) | (refine WC.exit ?_) | (refine WC.em2 rfl (fun hp => ?_) (fun hp => ?_) <;> try (exfalso; first | omega | contradiction)))
    exact ⟨m1 - 1, by omega, _, G, k + 1, rfl, rfl, rfl, rfl, rfl, rfl, by omega, by omega, hGl, k0, by rw [hKs, show j - k - 1 = j - (k + 1) by omega]; exact hl, hkeep⟩
  ·have hke : k = n := by omega
   subst hke
   repeat' (first | (refine WO.opE (by intro; simp (disch := omega) only [go_sem]; rfl) (by simp only [pt8, pt1, pt2, pt5, pt6, pt7]; rfl) ?_) | (refine WO.opE (by intro; exact ev_lenS (by simp only [go_sem]; first | rfl | assumption)) (by simp only [pt8, pt0]; rfl) ?_) | (refine WC.seq ?_) | (refine WC.region ?_) | (refine WO.nil ?_) | (simp only [fl1, fl10]) | (refine WC.exit ?_) | (refine WC.em2 rfl (fun hp => ?_) (fun hp => ?_) <;> try (exfalso; first | omega | contradiction)))
   exact ⟨i, by omega, _, G, N, rfl, rfl, rfl, rfl, by omega, hN, hGl, k0, by rw [hsucc]; exact hl, hkeep⟩
set_option maxRecDepth 100000
set_option maxHeartbeats 8000000
theorem f93 {E : Env} (hE : E.spec 93 = none) (hF : E.fn 93 = some ir93) (h40 : E.spec 91 = some (borrowQ E9 91)) {n : Nat} {d : Int} {H : Hp} {L : List (Option ALoop)} {rv : AV} {q : Nat} {xs : List AV} {bs : List Nat} {R : List (List Int)}
  (hn : n ≤ 8) (hd : 0 < d) (hd9 : d ≤ 1000000000) (hlat : LatM H rv q xs bs R) (hLB : LB R n d) (hqH : q < H.length) :
  WF E (.func 93 [] []) [rv, .int .i64 d] ⟨H, L⟩ fun v m' => ∃ H', m' = ⟨H', L⟩ ∧ LatM H' rv q xs bs (redI n R d n) ∧ H.length ≤ H'.length ∧ ∀ b, b < H.length → b ∉ bs → H'[b]? = H[b]? := by
 have hRn := hLB.len
 have hbH : ∀ k, k < n → bs.getD k 0 ∈ bs ∧ bs.getD k 0 < H.length := fun k hk => by
  have hbl := hlat.bl
  have : bs.getD k 0 ∈ bs := by
   rw [List.getD_eq_getElem?_getD, List.getElem?_eq_getElem (by omega), Option.getD_some]
   exact List.getElem_mem _
  exact ⟨this, hlat.blt this⟩
 have hrl := hlat.len
 rw [hRn] at hrl
 have hrc : rv.cells = some [rv] := by
  rcases hlat.gs with ⟨rfl, _⟩ | ⟨g, rfl, _⟩ | ⟨g, n, rfl, _⟩ <;> rfl
 refine WF.fnE hE hF (by show 2 ≤ 89; decide) ?_
 unfold ir93
 simp only [padTo, List.replicate, zNA, zAN]
 repeat' (first | (refine WO.opE (by intro; simp (disch := omega) only [go_sem]; rfl) (by simp only [pt8, pt0, pt2, pt4]; rfl) ?_) | (refine WO.opE (by intro; exact ev_lenS (by simp only [go_sem]; first | rfl | assumption)) (by simp only [pt8, pt1]; rfl) ?_) | (refine WC.seq ?_) | (refine WC.region ?_) | (refine WO.nil ?_) | (simp only [fl1]) | (refine WC.block ?_))
 refine WC.loopI (fun m s => ∃ T G, s = ⟨T, G, L⟩ ∧ T.length = 89 ∧ gt T 0 = rv ∧ gt T 1 = .int .i64 d ∧ gt T 4 = .int .i64 ((m : Int) - 1) ∧ m ≤ n ∧ G.length = H.length ∧ LatM G rv q xs bs (redI n R d (n - m)) ∧ ∀ b, b < H.length → b ∉ bs → G[b]? = H[b]?) ?_ n _ ⟨_, H, rfl, rfl, rfl, rfl, rfl, Nat.le_refl _, rfl, by rw [Nat.sub_self]; exact hlat, fun b hb _ => rfl⟩
 rintro m _ ⟨T, G, rfl, hT, g0, g1, g4, hm, hGl, hl, hkeep⟩
 obtain ⟨f, rfl⟩ := ex89 hT
 clear hT
 replace g0 : f 0 = rv := g0
 replace g1 : f 1 = .int .i64 d := g1
 replace g4 : f 4 = .int .i64 ((m : Int) - 1) := g4
 simp only [g0, g1, g4]
 have hlb := LB.redI hd hLB (show n - m ≤ n by omega)
 by_cases hm0 : m = 0
 ·subst hm0
  repeat' (first | (refine WO.opE (by intro; simp (disch := omega) only [go_sem]; rfl) (by simp only [pt8, pt3, pt4]; rfl) ?_) | (refine WC.seq ?_) | (refine WC.region ?_) | (refine WO.nil ?_) | (simp only [fl1, fl3, fl6, fl9]) | (refine WC.no rfl ?_) | (refine WC.exit ?_))
  exact ⟨_, rfl, G, rfl, hl, by omega, hkeep⟩
 ·obtain ⟨i, rfl⟩ : ∃ i, m = i + 1 := ⟨m - 1, by omega⟩
  have hsucc : redI n R d (n - i) = redK n (redI n R d (n - (i + 1))) i d (n - (i + 1)) := by
   have e : n - i = (n - (i + 1)) + 1 := by omega
   have e2 : n - 1 - (n - (i + 1)) = i := by omega
   rw [e]
   show redK n _ (n - 1 - (n - (i + 1))) d (n - (i + 1)) = _
   rw [e2]
  generalize redI n R d (n - (i + 1)) = R0 at *
  have hR0 := hlb.len
  obtain ⟨gi, ai1, ai2, ai3, hRi⟩ := hl.at (i := i) (by omega)
  have ei : ((i + 1 : Nat) : Int) - 1 = (i : Int) := by omega
  rw [ei] at g4
  have hx := hRi.len
  have hxc := hRi.cell
  unfold AV.cells at hxc
  have hil := hlb.row i (by omega)
  rw [hil] at hx
  generalize hxe : xs.getD i und = x at *
  repeat' (first | (refine WO.opE (by intro; simp (disch := omega) only [go_sem, ei]; rfl) (by simp only [pt8, pt0, pt3, pt4, pt5, pt7]; rfl) ?_) | (refine WC.seq ?_) | (refine WC.region ?_) | (refine WO.nil ?_) | (simp only [fl1]) | (refine WC.yes rfl ?_) | (refine WC.skip ?_) | (refine WC.block ?_))
  refine WC.loopI (fun m1 s => ∃ T G k, s = ⟨T, G, L⟩ ∧ T.length = 89 ∧ gt T 0 = rv ∧ gt T 1 = .int .i64 d ∧ gt T 4 = .int .i64 (i : Nat) ∧ gt T 5 = .int .i64 (k : Nat) ∧ m1 + k = n ∧ i + 1 ≤ k ∧ G.length = H.length ∧ LatM G rv q xs bs (redK n R0 i d (k - (i + 1))) ∧ ∀ b, b < H.length → b ∉ bs → G[b]? = H[b]?) ?_ (n - (i + 1)) _ ⟨_, G, i + 1, rfl, rfl, rfl, rfl, (show AV.int .i64 (((i + 1 : Nat) : Int) - 1) = _ by rw [ei]), rfl, by omega, Nat.le_refl _, hGl, by rw [Nat.sub_self]; exact hl, hkeep⟩
  clear g0 g1 g4 f hl hkeep hGl ai1 ai2 ai3 hRi
  rintro m1 _ ⟨T, G, k, rfl, hT, g0, g1, g4, g5, hm1, hik, hGl, hl, hkeep⟩
  obtain ⟨f, rfl⟩ := ex89 hT
  clear hT
  replace g0 : f 0 = rv := g0
  replace g1 : f 1 = .int .i64 d := g1
  replace g4 : f 4 = .int .i64 (i : Nat) := g4
  replace g5 : f 5 = .int .i64 (k : Nat) := g5
  simp only [g0, g1, g4, g5]
  have hlbk := LB.redK (i := i) hd hlb (t := k - (i + 1)) (by omega)
  by_cases hkn : k < n
  ·have hKs : redK n R0 i d (k + 1 - (i + 1)) = redJ (setE (redK n R0 i d (k - (i + 1))) i k (ent (redK n R0 i d (k - (i + 1))) i k % ent (redK n R0 i d (k - (i + 1))) k k)) i k (ent (redK n R0 i d (k - (i + 1))) i k / ent (redK n R0 i d (k - (i + 1))) k k) d (n - k - 1) := by
    have e : k + 1 - (i + 1) = (k - (i + 1)) + 1 := by omega
    have e2 : i + 1 + (k - (i + 1)) = k := by omega
    rw [e]
    show redJ (setE (redK n R0 i d (k - (i + 1))) i (i + 1 + (k - (i + 1))) _) i (i + 1 + (k - (i + 1))) _ d _ = _
    rw [e2]
   generalize redK n R0 i d (k - (i + 1)) = RK at *
   have hRK := hlbk.len
   obtain ⟨gi, ai1, ai2, ai3, hRi⟩ := hl.at (i := i) (by omega)
   obtain ⟨gk, ak1, ak2, ak3, hRk⟩ := hl.at (i := k) (by omega)
   rw [hxe] at hRi ai3
   have hil := hlbk.row i (by omega)
   have hkl := hlbk.row k (by omega)
   obtain ⟨g1', o1, c1, b1, b2, b3, b4⟩ := hRi.at (i := k) (by omega)
   obtain ⟨g2', o2, c2, d1, d2, d3, d4⟩ := hRk.at (i := k) (by omega)
   have hyc := hRk.cell
   generalize hye : xs.getD k und = y at *
   have ha := hlbk.el i k (by omega) hkn
   have hp := hlbk.diag k hkn
   have hpd := hlbk.el k k hkn hkn
   have ea : (RK.getD i []).getD k 0 = ent RK i k := rfl
   have ep : (RK.getD k []).getD k 0 = ent RK k k := rfl
   rw [ea] at b3
   rw [ep] at d3
   have hl' := fun r hr => hl.put (i := i) (by omega) (B := some ⟨g1', c1.set o1 (.int .i64 r)⟩) (r := (RK.getD i []).set k r) hr
   rw [hxe] at hl'
   have hl2 := hl' _ (b4 (ent RK i k % ent RK k k)).2
   have hov := (b4 (ent RK i k % ent RK k k)).1
   have hq1 : 0 ≤ ent RK i k / ent RK k k := Int.ediv_nonneg ha.1 (by omega)
   have hq2 : ent RK i k / ent RK k k ≤ ent RK i k := Int.ediv_le_self _ ha.1
   have htd : (ent RK i k).tdiv (ent RK k k) = ent RK i k / ent RK k k := Int.tdiv_eq_ediv_of_nonneg ha.1
   have hmod : ent RK i k - ent RK i k / ent RK k k * ent RK k k = ent RK i k % ent RK k k := by
    have := Int.emod_add_mul_ediv (ent RK i k) (ent RK k k)
    rw [Int.mul_comm] at this
    omega
   have hm1' := Int.emod_nonneg (ent RK i k) (show ent RK k k ≠ 0 by omega)
   have hm2' := Int.emod_lt_of_pos (ent RK i k) hp
   have hp0 : ¬ ent RK k k = 0 := by omega
   have hlen := hRi.len
   rw [hil] at hlen
   repeat' (first | (refine WO.opE (by intro; simp (disch := omega) only [go_sem, b1, b2, b3, d1, d2, d3, ai1, ai2, ai3, ak1, ak2, ak3, hp0, if_false, htd, hmod]; rfl) (by simp only [pt8, pt0, pt1, pt2, pt3, pt4, pt5, pt6, pt7]; rfl) ?_) | (refine WO.opN (by intro; simp (disch := omega) only [go_sem, b2, hov]; rfl) ?_) | (refine WO.opE (by intro; exact ev_lenS (by simp only [go_sem]; first | rfl | assumption)) (by simp only [pt8, pt3]; rfl) ?_) | (refine WC.seq ?_) | (refine WC.region ?_) | (refine WO.nil ?_) | (simp only [fl1]) | (refine WC.calm rfl ?_) | (refine WC.skip ?_) | (refine WC.block ?_) | (refine WC.em2 rfl (fun hp => ?_) (fun hp => ?_) <;> try (exfalso; first | omega | contradiction)))
   obtain ⟨hbi, hbiH⟩ := hbH i (by omega)
   have hks : ∀ B : Option Blk, ∀ b, b < H.length → b ∉ bs → (G.set (bs.getD i 0) B)[b]? = H[b]? := fun B b hb hbn => by
    rw [List.getElem?_set_ne (fun e => hbn (by rw [← e]; exact hbi))]
    exact hkeep b hb hbn
   have hlb2 : LB (setE RK i k (ent RK i k % ent RK k k)) n d := hlbk.setE (by omega) hkn ⟨hm1', by omega⟩ fun e => by omega
   generalize hqq : ent RK i k / ent RK k k = qq at *
   have hl3 : LatM _ rv q xs bs (setE RK i k (ent RK i k % ent RK k k)) := hl2
   refine WC.loopI (fun m2 s => ∃ T G j, s = ⟨T, G, L⟩ ∧ T.length = 89 ∧ gt T 0 = rv ∧ gt T 1 = .int .i64 d ∧ gt T 4 = .int .i64 (i : Nat) ∧ gt T 5 = .int .i64 (k : Nat) ∧ gt T 6 = .int .i64 qq ∧ gt T 7 = .int .i64 (j : Nat) ∧ m2 + j = n ∧ k + 1 ≤ j ∧ G.length = H.length ∧ LatM G rv q xs bs (redJ (setE RK i k (ent RK i k % ent RK k k)) i k qq d (j - (k + 1))) ∧ ∀ b, b < H.length → b ∉ bs → G[b]? = H[b]?) ?_ (n - (k + 1)) _ ⟨_, G.set (bs.getD i 0) (some ⟨g1', c1.set o1 (.int .i64 (ent RK i k % ent RK k k))⟩), k + 1, rfl, rfl, rfl, rfl, rfl, rfl, rfl, rfl, by omega, Nat.le_refl _, by rw [List.length_set]; exact hGl, by rw [Nat.sub_self]; exact hl3, fun b hb hbn => hks _ b hb hbn⟩
   generalize setE RK i k (ent RK i k % ent RK k k) = R2 at *
   clear g0 g1 g4 g5 f hl hkeep hGl ai1 ai2 ai3 hRi ak1 ak2 ak3 hRk b1 b2 b3 b4 d1 d2 d3 d4 hl' hl2 hl3 hov hks
   rintro m2 _ ⟨T, G, j, rfl, hT, g0, g1, g4, g5, g6, g7, hm2, hkj, hGl, hl, hkeep⟩
   obtain ⟨f, rfl⟩ := ex89 hT
   clear hT
   replace g0 : f 0 = rv := g0
   replace g1 : f 1 = .int .i64 d := g1
   replace g4 : f 4 = .int .i64 (i : Nat) := g4
   replace g5 : f 5 = .int .i64 (k : Nat) := g5
   replace g6 : f 6 = .int .i64 qq := g6
   replace g7 : f 7 = .int .i64 (j : Nat) := g7
   simp only [g0, g1, g4, g5, g6, g7]
   have hlbj := LB.redJ (q := qq) hd (show i < k by omega) (t := j - (k + 1)) hlb2 (by omega) (by omega)
   by_cases hjn : j < n
   ·have hJs : redJ R2 i k qq d (j + 1 - (k + 1)) = setE (redJ R2 i k qq d (j - (k + 1))) i j ((ent (redJ R2 i k qq d (j - (k + 1))) i j - qq * ent (redJ R2 i k qq d (j - (k + 1))) k j) % d) := by
     have e : j + 1 - (k + 1) = (j - (k + 1)) + 1 := by omega
     have e2 : k + 1 + (j - (k + 1)) = j := by omega
     rw [e]
     show setE _ i (k + 1 + (j - (k + 1))) _ = _
     rw [e2]
    generalize redJ R2 i k qq d (j - (k + 1)) = RJ at *
    have hRJ := hlbj.len
    obtain ⟨gi, ai1, ai2, ai3, hRi⟩ := hl.at (i := i) (by omega)
    obtain ⟨gk, ak1, ak2, ak3, hRk⟩ := hl.at (i := k) (by omega)
    rw [hxe] at hRi ai3
    have hil := hlbj.row i (by omega)
    have hkl := hlbj.row k (by omega)
    obtain ⟨g1', o1, c1, b1, b2, b3, b4⟩ := hRi.at (i := j) (by omega)
    obtain ⟨g2', o2, c2, d1, d2, d3, d4⟩ := hRk.at (i := j) (by omega)
    rw [hye] at ak3 hRk d1
    have ha' := hlbj.el i j (by omega) hjn
    have hp' := hlbj.el k j hkn hjn
    have ea' : (RJ.getD i []).getD j 0 = ent RJ i j := rfl
    have ep' : (RJ.getD k []).getD j 0 = ent RJ k j := rfl
    rw [ea'] at b3
    rw [ep'] at d3
    have hl' := fun r hr => hl.put (i := i) (by omega) (B := some ⟨g1', c1.set o1 (.int .i64 r)⟩) (r := (RJ.getD i []).set j r) hr
    rw [hxe] at hl'
    have hl2 := hl' _ (b4 ((ent RJ i j - qq * ent RJ k j) % d)).2
    have hov := (b4 ((ent RJ i j - qq * ent RJ k j) % d)).1
    have hqp : 0 ≤ qq * ent RJ k j := Int.mul_nonneg hq1 hp'.1
    have hqp2 : qq * ent RJ k j ≤ 1000000000 * 1000000000 := Int.mul_le_mul (by omega) (by omega) hp'.1 (by omega)
    have c40 := fun m => s91 (m := m) (d := d) (x := ent RJ i j - qq * ent RJ k j) hd (by omega) ⟨by omega, by omega⟩
    have hks : ∀ B : Option Blk, ∀ b, b < H.length → b ∉ bs → (G.set (bs.getD i 0) B)[b]? = H[b]? := fun B b hb hbn => by
     rw [List.getElem?_set_ne (fun e => hbn (by rw [← e]; exact hbi))]
     exact hkeep b hb hbn
    have hl3 : LatM _ rv q xs bs (setE RJ i j ((ent RJ i j - qq * ent RJ k j) % d)) := hl2
    repeat' (first | (refine WO.opE (by intro; simp (disch := omega) only [go_sem]; rfl) (by simp only [pt8, pt2, pt3, pt5, pt6, pt7]; rfl) ?_) | (refine WO.opE (by intro; exact ev_lenS (by simp only [go_sem]; first | rfl | assumption)) (by simp only [pt8, pt4]; rfl) ?_) | (refine WT.spec rfl h40 (fun V => c40 _) (by simp only [pt8, pt7]; rfl) ?_) | (refine WC.seq ?_) | (refine WC.region ?_) | (refine WO.nil ?_) | (simp only [fl1, fl4, fl10]) | (refine WC.drawT ?_) | (refine WT.nil ?_) | (refine WT.free rfl (by intro; simp (disch := omega) only [go_sem, b1, b2, b3, d1, d2, d3, ai1, ai2, ai3, ak1, ak2, ak3]; rfl) rfl (by simp only [pt8, pt0, pt1, pt2, pt3, pt4, pt5, pt6, pt7]; rfl) ?_) | (refine WT.big rfl rfl (by intro; simp (disch := omega) only [go_sem, b2, b3, d2, d3, ai2, ai3, ak2, ak3]; rfl) (by simp (disch := omega) only [go_sem, touch]; rfl) (by first | exact .inl rfl | exact .inr (apart_nil _) | exact .inr trivial | (right; apply apart_mk; simp only [apartL, zNA, zCA, List.getElem?_cons_succ, List.getElem?_cons_zero, Tch.free, and_true, true_and]; first | done | omega)) (by simp only [pt8, pt0, pt3]; rfl) ?_) | (refine WT.bigN rfl rfl (by intro; simp (disch := omega) only [go_sem, b2, hov]; rfl) (by simp (disch := omega) only [go_sem, touch]; rfl) (by first | exact .inl rfl | exact .inr (apart_nil _) | exact .inr trivial | (right; apply apart_mk; simp only [apartL, zNA, zCA, List.getElem?_cons_succ, List.getElem?_cons_zero, Tch.free, and_true, true_and]; first | done | omega)) ?_) | (refine WC.skip ?_) | (refine WC.block ?_) | (refine WC.em2 rfl (fun hp => ?_) (fun hp => ?_) <;> try (exfalso; first | omega | contradiction)))
    exact ⟨m2 - 1, by omega, _, _, j + 1, rfl, rfl, rfl, rfl, rfl, rfl, rfl, rfl, by omega, by omega, by rw [List.length_set]; exact hGl, by rw [hJs]; exact hl3, hks _⟩
   ·have hje : j = n := by omega
    subst hje
    repeat' (first | (refine WO.opE (by intro; simp (disch := omega) only [go_sem]; rfl) (by simp only [pt8, pt2, pt3, pt5, pt6]; rfl) ?_) | (refine WO.opE (by intro; exact ev_lenS (by simp only [go_sem]; first | rfl | assumption)) (by simp only [pt8, pt4]; rfl) ?_) | (refine WC.seq ?_) | (refine WC.region ?_) | (refine WO.nil ?_) | (simp only [fl1, fl10]) | (refine WC.exit ?_) | (refine WC.em2 rfl (fun hp => ?_) (fun hp => ?_) <;> try (exfalso; first | omega | contradiction)))
    exact ⟨m1 - 1, by omega, _, G, k + 1, rfl, rfl, rfl, rfl, rfl, rfl, by omega, by omega, hGl, by rw [hKs, show j - k - 1 = j - (k + 1) by omega]; exact hl, hkeep⟩
  ·have hke : k = n := by omega
   subst hke
   repeat' (first | (refine WO.opE (by intro; simp (disch := omega) only [go_sem]; rfl) (by simp only [pt8, pt1, pt2, pt4, pt5, pt6]; rfl) ?_) | (refine WO.opE (by intro; exact ev_lenS (by simp only [go_sem]; first | rfl | assumption)) (by simp only [pt8, pt3]; rfl) ?_) | (refine WC.seq ?_) | (refine WC.region ?_) | (refine WO.nil ?_) | (simp only [fl1, fl10]) | (refine WC.exit ?_) | (refine WC.em2 rfl (fun hp => ?_) (fun hp => ?_) <;> try (exfalso; first | omega | contradiction)))
   exact ⟨i, by omega, _, G, rfl, rfl, rfl, rfl, rfl, by omega, hGl, by rw [hsucc]; exact hl, hkeep⟩
set_option maxRecDepth 100000
set_option maxHeartbeats 8000000
def euclidF (a b : Nat) : Nat × Int × Int :=
 if h : b = 0 then (a, 1, 0) else ((euclidF b (a % b)).1, (euclidF b (a % b)).2.2, (euclidF b (a % b)).2.1 - ((a / b : Nat) : Int) * (euclidF b (a % b)).2.2)
termination_by b
decreasing_by all_goals exact Nat.mod_lt _ (by omega)
theorem euclidF_zero (a : Nat) : euclidF a 0 = (a, 1, 0) := by
 rw [euclidF]
 rfl
theorem euclidF_pos {a b : Nat} (h : b ≠ 0) : euclidF a b = ((euclidF b (a % b)).1, (euclidF b (a % b)).2.2, (euclidF b (a % b)).2.1 - ((a / b : Nat) : Int) * (euclidF b (a % b)).2.2) := by
 rw [euclidF]
 rw [dif_neg h]
theorem euclid_bd : ∀ (b a : Nat), 0 < a → (0 < b → -(b : Int) ≤ (euclidF a b).2.1 ∧ (euclidF a b).2.1 ≤ b) ∧ -(a : Int) ≤ (euclidF a b).2.2 ∧ (euclidF a b).2.2 ≤ a := by
 intro b
 induction b using Nat.strongRecOn with
 | ind b ih =>
  intro a ha
  by_cases hb : b = 0
  ·subst hb
   rw [euclidF_zero]
   exact ⟨fun h => by omega, by show -(a : Int) ≤ 0; omega, by show (0 : Int) ≤ a; omega⟩
  ·rw [euclidF_pos hb]
   have hlt := Nat.mod_lt a (show b > 0 by omega)
   obtain ⟨h1, h2, h3⟩ := ih (a % b) hlt b (by omega)
   refine ⟨fun _ => ⟨h2, h3⟩, ?_⟩
   have hdm := Nat.div_add_mod a b
   by_cases hr : a % b = 0
   ·rw [hr, euclidF_zero]
    show -(a : Int) ≤ 1 - ((a / b : Nat) : Int) * 0 ∧ 1 - ((a / b : Nat) : Int) * 0 ≤ (a : Int)
    rw [Int.mul_zero]
    omega
   ·obtain ⟨h4, h5⟩ := h1 (by omega)
    generalize (euclidF b (a % b)).2.1 = X at *
    generalize (euclidF b (a % b)).2.2 = Y at *
    have e : ((a / b : Nat) : Int) * (b : Int) = (a : Int) - ((a % b : Nat) : Int) := by
     have : ((b * (a / b) + a % b : Nat) : Int) = (a : Int) := by rw [hdm]
     rw [Int.natCast_add, Int.natCast_mul] at this
     rw [Int.mul_comm]
     omega
    have h6 := Int.mul_le_mul_of_nonneg_left h3 (Int.natCast_nonneg (a / b))
    have h7 := Int.mul_le_mul_of_nonneg_left h2 (Int.natCast_nonneg (a / b))
    rw [e] at h6
    rw [Int.mul_neg, e] at h7
    show -(a : Int) ≤ X - ((a / b : Nat) : Int) * Y ∧ X - ((a / b : Nat) : Int) * Y ≤ (a : Int)
    omega
theorem f133 {E : Env} (hE : E.spec 133 = none) (hF : E.fn 133 = some ir133) {L : List (Option ALoop)} : ∀ (b a : Nat) (H : Hp), 0 < a → a ≤ 2000000000 → b ≤ 2000000000 →
  WF E (.func 133 [] []) [.int .i64 (a : Nat), .int .i64 (b : Nat)] ⟨H, L⟩ fun y m' => y = .agg [.int .i64 ((euclidF a b).1 : Nat), .int .i64 (euclidF a b).2.1, .int .i64 (euclidF a b).2.2] ∧ ∃ R, m' = ⟨H ++ R, L⟩ := by
 intro b
 induction b using Nat.strongRecOn with
 | ind b ih =>
  intro a H ha ha9 hb9
  have cut3z : ∀ a b c : AV, Zz.cut [a, b, c] 0 3 = some [a, b, c] := fun a b c => by simp [Zz.cut]
  have hlk0 : ∀ c : List AV, Zz.look (H ++ [some ⟨0, c⟩]) H.length 0 = some c := fun c => lk0 rfl
  refine WF.fnE hE hF (by show 2 ≤ 29; decide) ?_
  unfold ir133
  simp only [padTo, List.replicate, zNA, zAN]
  by_cases hb : b = 0
  ·subst hb
   rw [euclidF_zero]
   repeat' (first | (refine WO.opE (by intro; simp (disch := omega) only [go_sem, fillP, Option.bind_eq_bind, ov_one0, ov_one1]; rfl) (by simp only [pt8, pt0, pt1, pt4, pt6, pt7]; rfl) ?_) | (refine WO.opN (by intro; simp (disch := omega) only [go_sem, Option.bind_eq_bind, app_s0, ov_all3, Nat.reduceAdd, hlk0]; rfl) ?_) | (refine WC.seq ?_) | (refine WC.region ?_) | (refine WO.nil ?_) | (simp only [fl1, fl2]) | (refine WC.yes rfl ?_) | (refine WC.ret ?_))
   exact ⟨_, by simp only [evRes, gt4, loadCs, hlk0, cut3z, if_true, Option.bind_some, Option.map_some]; rfl, rfl, _, rfl⟩
  ·rw [euclidF_pos hb]
   have hlt := Nat.mod_lt a (show b > 0 by omega)
   have hb0 : ¬ (b : Int) = 0 := by omega
   obtain ⟨hX, hY1, hY2⟩ := euclid_bd (a % b) b (by omega)
   have hih := ih (a % b) hlt b
   have hfull := (euclid_bd b a ha).2
   rw [euclidF_pos hb] at hfull
   have hX' : -2000000000 ≤ (euclidF b (a % b)).2.1 ∧ (euclidF b (a % b)).2.1 ≤ 2000000000 := by
    by_cases hr : a % b = 0
    ·rw [hr, euclidF_zero]
     show (-2000000000 : Int) ≤ 1 ∧ (1 : Int) ≤ 2000000000
     omega
    ·have := hX (by omega)
     omega
   have hdv := Nat.div_le_self a b
   clear hX ih
   generalize euclidF b (a % b) = e at *
   have hrem : ((a : Nat) : Int).tmod (b : Int) = ((a % b : Nat) : Int) := by rw [Int.ofNat_tmod]
   have hquo : ((a : Nat) : Int).tdiv (b : Int) = ((a / b : Nat) : Int) := by rw [Int.ofNat_tdiv]
   generalize a / b = w at *
   obtain ⟨e1, e2, e3⟩ := e
   simp only at hfull hX' hih hY1 hY2 ⊢
   repeat' (first | (refine WO.opE (by intro; simp (disch := omega) only [go_sem, hb0, if_false, hrem]; rfl) (by simp only [pt8, pt2, pt3, pt4, pt5, pt6, pt7]; rfl) ?_) | (refine WC.seq ?_) | (refine WC.region ?_) | (refine WO.nil ?_) | (simp only [fl1]) | (refine WC.no rfl ?_) | (refine WC.skip ?_))
   refine WO.call rfl rfl ((hih _ (by omega) hb9 (by omega)).mono ?_)
   rintro v m' ⟨rfl, R, rfl⟩
   simp only [pt8, pt6]
   generalize hG : (H ++ [(some ⟨0, [.int .i64 0, .int .i64 0, .int .i64 0]⟩ : Option Blk)]) ++ R = G at *
   have hext : Ext H G := by rw [← hG, List.append_assoc]; exact Ext.app _ _
   have hGN : Zz.look G H.length 0 = some [.int .i64 0, .int .i64 0, .int .i64 0] := by rw [← hG, List.append_assoc]; exact lk0 rfl
   have hNG := look_lt hGN
   have hg5 : ∀ c : List AV, Zz.look (G ++ [some ⟨0, c⟩]) G.length 0 = some c := fun c => lk0 rfl
   repeat' (first | (refine WO.opE (by intro; simp (disch := omega) only [go_sem, fillP, Option.bind_eq_bind, ov_one0, ov_one1, ov_one2, hg5, hb0, if_false, hquo]; rfl) (by simp only [pt8, pt0, pt1, pt2, pt3, pt4, pt5, pt6, pt7]; rfl) ?_) | (refine WO.opN (by intro; simp (disch := omega) only [go_sem, Option.bind_eq_bind, app_s0, ov_all3, Nat.reduceAdd, hg5, hGN, look_left]; rfl) ?_) | (refine WC.seq ?_) | (refine WO.nil ?_) | (simp only [fl1]) | (refine WC.calm rfl ?_) | (refine WC.ret ?_))
   obtain ⟨R', hR'⟩ : ∃ R', (G ++ [(some ⟨0, [.int .i64 (e1 : Nat), .int .i64 e2, .int .i64 e3]⟩ : Option Blk)]).set H.length (some ⟨0, [.int .i64 (e1 : Nat), .int .i64 e3, .int .i64 (e2 - (w : Nat) * e3)]⟩) = H ++ R' := Ext.split ⟨by have := hext.1; simp; omega, fun j hj => by rw [List.getElem?_set_ne (by omega), List.getElem?_append_left (by omega), hext.2 j hj]⟩
   have hks : ∀ (c : List AV) (B : Option Blk), Zz.look ((G ++ [B]).set H.length (some ⟨0, c⟩)) H.length 0 = some c := fun c B => look_set (by rw [List.length_append]; omega)
   exact ⟨_, by simp only [evRes, gt4, loadCs, hks, cut3z, if_true, Option.bind_some, Option.map_some]; rfl, rfl, R', by show (⟨_, L⟩ : Mem) = _; rw [← hR']⟩
theorem s133 {a b : Nat} (ha : 0 < a) (ha9 : a ≤ 2000000000) (hb9 : b ≤ 2000000000) {m : Mem} : borrowE E15 133 [.int .i64 (a : Nat), .int .i64 (b : Nat)] m = some (.agg [.int .i64 ((euclidF a b).1 : Nat), .int .i64 (euclidF a b).2.1, .int .i64 (euclidF a b).2.2], m) :=
 borrowE_of rfl ((f133 (E := E15) rfl (fn_of Try.func133 cir133) b a [] ha ha9 hb9).mono fun y m' h => by rw [h.1]; rfl)
noncomputable def E16 : Env := E15.put 133 (borrowE E15 133)
theorem E16_ok : EnvOk Try.prog E16 := Env.put_ok E15_ok (borrowE_ok E15_ok (callable Try.func133 (by kernel_rfl)))
theorem euclid_gcd : ∀ (b a : Nat), (euclidF a b).1 = Nat.gcd a b := by
 intro b
 induction b using Nat.strongRecOn with
 | ind b ih =>
  intro a
  by_cases hb : b = 0
  ·subst hb
   rw [euclidF_zero, Nat.gcd_zero_right]
  ·rw [euclidF_pos hb]
   show (euclidF b (a % b)).1 = _
   rw [ih (a % b) (Nat.mod_lt _ (by omega)) b, Nat.gcd_comm b, ← Nat.gcd_rec, Nat.gcd_comm]
def insJ (R : List (List Int)) (v : List Int) (i : Nat) (X Y a b d : Int) : Nat → List (List Int) × List Int
 | 0 => (R, v)
 | t + 1 => (setE (insJ R v i X Y a b d t).1 i (i + 1 + t) ((X * ent (insJ R v i X Y a b d t).1 i (i + 1 + t) + Y * (insJ R v i X Y a b d t).2.getD (i + 1 + t) 0) % d),
   (insJ R v i X Y a b d t).2.set (i + 1 + t) ((a * (insJ R v i X Y a b d t).2.getD (i + 1 + t) 0 - b * ent (insJ R v i X Y a b d t).1 i (i + 1 + t)) % d))
def insS (n : Nat) (R : List (List Int)) (v : List Int) (d : Int) (i : Nat) : List (List Int) × List Int :=
 if v.getD i 0 % d = 0 then (R, v.set i (v.getD i 0 % d)) else
  (setE (insJ R (v.set i (v.getD i 0 % d)) i (euclidF (ent R i i).toNat (v.getD i 0 % d).toNat).2.1 (euclidF (ent R i i).toNat (v.getD i 0 % d).toNat).2.2 (ent R i i / ((euclidF (ent R i i).toNat (v.getD i 0 % d).toNat).1 : Int)) (v.getD i 0 % d / ((euclidF (ent R i i).toNat (v.getD i 0 % d).toNat).1 : Int)) d (n - (i + 1))).1 i i ((euclidF (ent R i i).toNat (v.getD i 0 % d).toNat).1 : Int),
   (insJ R (v.set i (v.getD i 0 % d)) i (euclidF (ent R i i).toNat (v.getD i 0 % d).toNat).2.1 (euclidF (ent R i i).toNat (v.getD i 0 % d).toNat).2.2 (ent R i i / ((euclidF (ent R i i).toNat (v.getD i 0 % d).toNat).1 : Int)) (v.getD i 0 % d / ((euclidF (ent R i i).toNat (v.getD i 0 % d).toNat).1 : Int)) d (n - (i + 1))).2)
def insI (n : Nat) (R : List (List Int)) (v : List Int) (d : Int) : Nat → List (List Int) × List Int
 | 0 => (R, v)
 | i + 1 => insS n (insI n R v d i).1 (insI n R v d i).2 d i
def VB (v : List Int) (n : Nat) (d : Int) : Prop := v.length = n ∧ ∀ j, j < n → 0 ≤ v.getD j 0 ∧ v.getD j 0 ≤ d
theorem VB.set {v : List Int} {n j : Nat} {d x : Int} (h : VB v n d) (hj : j < n) (hx : 0 ≤ x ∧ x ≤ d) : VB (v.set j x) n d := by
 refine ⟨by rw [List.length_set]; exact h.1, fun k hk => ?_⟩
 have hl := h.1
 rw [List.getD_eq_getElem?_getD, List.getElem?_set]
 by_cases e : j = k
 ·subst e
  rw [if_pos rfl, if_pos (by omega)]
  exact hx
 ·rw [if_neg e, ← List.getD_eq_getElem?_getD]
  exact h.2 k hk
theorem emod_in {x d : Int} (hd : 0 < d) : 0 ≤ x % d ∧ x % d ≤ d := by
 have h1 := Int.emod_nonneg x (show d ≠ 0 by omega)
 have h2 := Int.emod_lt_of_pos x hd
 omega
theorem LB.insJ {n i : Nat} {d X Y a b : Int} (hd : 0 < d) : ∀ {t : Nat} {R : List (List Int)} {v : List Int}, LB R n d → VB v n d → i + 1 + t ≤ n → LB (insJ R v i X Y a b d t).1 n d ∧ VB (insJ R v i X Y a b d t).2 n d
 | 0, R, v, h, hv, _ => ⟨h, hv⟩
 | t + 1, R, v, h, hv, ht => by
  obtain ⟨h1, h2⟩ := LB.insJ (i := i) (X := X) (Y := Y) (a := a) (b := b) hd (t := t) h hv (by omega)
  exact ⟨h1.setE (by omega) (by omega) (emod_in hd) fun e => by omega, h2.set (by omega) (emod_in hd)⟩
theorem LB.insS {n i : Nat} {d : Int} (hd : 0 < d) {R : List (List Int)} {v : List Int} (h : LB R n d) (hv : VB v n d) (hi : i < n) : LB (insS n R v d i).1 n d ∧ VB (insS n R v d i).2 n d := by
 have hv1 : VB (v.set i (v.getD i 0 % d)) n d := hv.set hi (emod_in hd)
 unfold Ytnilimjkibimcaa.insS
 split
 ·exact ⟨h, hv1⟩
 ·obtain ⟨h1, h2⟩ := LB.insJ (i := i) (X := (euclidF (ent R i i).toNat (v.getD i 0 % d).toNat).2.1) (Y := (euclidF (ent R i i).toNat (v.getD i 0 % d).toNat).2.2) (a := ent R i i / ((euclidF (ent R i i).toNat (v.getD i 0 % d).toNat).1 : Int)) (b := v.getD i 0 % d / ((euclidF (ent R i i).toNat (v.getD i 0 % d).toNat).1 : Int)) hd (t := n - (i + 1)) h hv1 (by omega)
  have hdi := h.diag i hi
  have hel := h.el i i hi hi
  have hg1 := Nat.gcd_pos_of_pos_left (v.getD i 0 % d).toNat (show 0 < (ent R i i).toNat by omega)
  have hg2 := Nat.gcd_le_left (v.getD i 0 % d).toNat (show 0 < (ent R i i).toNat by omega)
  have hg := euclid_gcd (v.getD i 0 % d).toNat (ent R i i).toNat
  exact ⟨h1.setE hi hi ⟨by omega, by omega⟩ fun _ => by omega, h2⟩
theorem LB.insI {n : Nat} {d : Int} (hd : 0 < d) {R : List (List Int)} {v : List Int} (h : LB R n d) (hv : VB v n d) : ∀ {i : Nat}, i ≤ n → LB (insI n R v d i).1 n d ∧ VB (insI n R v d i).2 n d
 | 0, _ => ⟨h, hv⟩
 | i + 1, hi => by
  obtain ⟨h1, h2⟩ := LB.insI hd h hv (i := i) (by omega)
  exact LB.insS hd h1 h2 (by omega)
set_option maxRecDepth 100000
set_option maxHeartbeats 8000000
theorem RowM.wr {H : Hp} {x : AV} {b : Nat} {r : List Int} (h : RowM H x b r) {i : Nat} (hi : i < r.length) (y : Int) :
  ∃ g off c c', indexAddrAV 1 x (.int .i64 (i : Int)) = some (.pref b g off) ∧ Zz.look H b g = some c ∧ c[off]? = some (.int .i64 (r.getD i 0)) ∧ Zz.over c off [.int .i64 y] = some c' ∧ RowM (H.set b (some ⟨g, c'⟩)) x b (r.set i y) ∧ Zz.look (H.set b (some ⟨g, c'⟩)) b g = some c' ∧ c'[off]? = some (.int .i64 y) := by
 obtain ⟨g, off, c, a1, a2, a3, a4⟩ := h.at hi
 obtain ⟨a5, a6⟩ := a4 y
 refine ⟨g, off, c, _, a1, a2, a3, a5, a6, look_set (look_lt a2), ?_⟩
 have : off < c.length := by
  rcases Nat.lt_or_ge off c.length with h | h
  ·exact h
  ·rw [List.getElem?_eq_none h] at a3
   cases a3
 rw [List.getElem?_set, if_pos rfl, if_pos this]
theorem mul_bd {X x : Int} (h1 : -1000000000 ≤ X ∧ X ≤ 1000000000) (h2 : 0 ≤ x ∧ x ≤ 1000000000) : -1000000000000000000 ≤ X * x ∧ X * x ≤ 1000000000000000000 := by
 have a := Int.mul_le_mul_of_nonneg_right h1.2 h2.1
 have b := Int.mul_le_mul_of_nonneg_right h1.1 h2.1
 omega
theorem f92 {E : Env} (hE : E.spec 92 = none) (hF : E.fn 92 = some ir92) (h40 : E.spec 91 = some (borrowQ E9 91)) (h59 : E.spec 133 = some (borrowE E15 133)) {n : Nat} {d : Int} {H : Hp} {L : List (Option ALoop)} {rv vv : AV} {q bv : Nat} {xs : List AV} {bs : List Nat} {R : List (List Int)} {v : List Int}
  (hn : n ≤ 8) (hd : 0 < d) (hd9 : d ≤ 1000000000) (hlat : LatM H rv q xs bs R) (hLB : LB R n d) (hqH : q < H.length) (hrow : RowM H vv bv v) (hVB : VB v n d) (hbv : bv ∉ q :: bs) :
  WF E (.func 92 [] []) [rv, vv, .int .i64 d] ⟨H, L⟩ fun y m' => ∃ H', m' = ⟨H', L⟩ ∧ LatM H' rv q xs bs (insI n R v d n).1 ∧ RowM H' vv bv (insI n R v d n).2 ∧ H.length ≤ H'.length ∧ ∀ b, b < H.length → b ∉ bs → b ≠ bv → H'[b]? = H[b]? := by
 have hRn := hLB.len
 have hrl := hlat.len
 rw [hRn] at hrl
 refine WF.fnE hE hF (by show 3 ≤ 118; decide) ?_
 unfold ir92
 simp only [padTo, List.replicate, zNA, zAN]
 repeat' (first | (refine WO.opE (by intro; simp (disch := omega) only [go_sem]; rfl) (by simp only [pt6]; rfl) ?_) | (refine WC.seq ?_) | (refine WC.region ?_) | (refine WO.nil ?_) | (simp only [fl1]) | (refine WC.block ?_))
 refine WC.loopI (fun m s => ∃ T G i, s = ⟨T, G, L⟩ ∧ T.length = 118 ∧ gt T 0 = rv ∧ gt T 1 = vv ∧ gt T 2 = .int .i64 d ∧ gt T 6 = .int .i64 (i : Nat) ∧ m + i = n ∧ H.length ≤ G.length ∧ LatM G rv q xs bs (insI n R v d i).1 ∧ RowM G vv bv (insI n R v d i).2 ∧ ∀ b, b < H.length → b ∉ bs → b ≠ bv → G[b]? = H[b]?) ?_ n _ ⟨_, H, 0, rfl, rfl, rfl, rfl, rfl, rfl, by omega, Nat.le_refl _, hlat, hrow, fun b _ _ _ => rfl⟩
 rintro m _ ⟨T, G, i, rfl, hT, g0, g1, g2, g6, hm, hGl, hl, hv, hkeep⟩
 obtain ⟨f, rfl⟩ := ex118 hT
 clear hT
 replace g0 : f 0 = rv := g0
 replace g1 : f 1 = vv := g1
 replace g2 : f 2 = .int .i64 d := g2
 replace g6 : f 6 = .int .i64 (i : Nat) := g6
 simp only [g0, g1, g2, g6]
 obtain ⟨hlb, hvb⟩ := LB.insI hd hLB hVB (i := i) (by omega)
 by_cases hin : i < n
 ·have hs : insI n R v d (i + 1) = insS n (insI n R v d i).1 (insI n R v d i).2 d i := rfl
  generalize insI n R v d i = S at *
  obtain ⟨R1, v1⟩ := S
  simp only at hl hv hlb hvb hs
  have hvl := hvb.1
  obtain ⟨gv, ov, cv, cv', b1, b2, b3, b4, b5, b6, b7⟩ := hv.wr (i := i) (by omega) (v1.getD i 0 % d)
  have hv0 := hvb.2 i hin
  have c40 := fun m => s91 (m := m) (d := d) (x := v1.getD i 0) hd (by omega) ⟨by omega, by omega⟩
  have hz := emod_in (x := v1.getD i 0) hd
  have hbvq : bv ≠ q ∧ bv ∉ bs := by
   rw [List.mem_cons] at hbv
   exact ⟨fun e => hbv (.inl e), fun e => hbv (.inr e)⟩
  have hl1 : LatM (G.set bv (some ⟨gv, cv'⟩)) rv q xs bs R1 := hl.keep (List.getElem?_set_ne hbvq.1) fun b hb => List.getElem?_set_ne fun e => hbvq.2 (by rw [e]; exact hb)
  have hk1 : ∀ b, b < H.length → b ∉ bs → b ≠ bv → (G.set bv (some ⟨gv, cv'⟩))[b]? = H[b]? := fun b h1 h2 h3 => by
   rw [List.getElem?_set_ne (Ne.symm h3)]
   exact hkeep b h1 h2 h3
  generalize hG1 : G.set bv (some ⟨gv, cv'⟩) = G1 at *
  have hG1l : H.length ≤ G1.length := by rw [← hG1, List.length_set]; exact hGl
  by_cases hz0 : v1.getD i 0 % d = 0
  ·rw [hz0] at c40 b4 b7
   have hss : insS n R1 v1 d i = (R1, v1.set i (v1.getD i 0 % d)) := by unfold insS; rw [if_pos hz0]
   repeat' (first | (refine WO.opE (by intro; simp (disch := omega) only [go_sem, b1, b2, b3, b6, b7]; rfl) (by simp only [pt8, pt0, pt1, pt2, pt3, pt4, pt5, pt6, pt7]; rfl) ?_) | (refine WO.opN (by intro; simp (disch := omega) only [go_sem, b2, b4, hG1]; rfl) ?_) | (refine WO.opE (by intro; exact ev_lenS (by simp only [go_sem]; first | rfl | assumption)) (by simp only [pt8, pt7]; rfl) ?_) | (refine WO.specE rfl h40 (c40 _) (by simp only [pt8, pt2]; rfl) ?_) | (refine WC.seq ?_) | (refine WC.region ?_) | (refine WO.nil ?_) | (simp only [fl1, fl10]) | (refine WC.yes rfl ?_) | (refine WC.skip ?_) | (refine WC.exit ?_) | (refine WC.block ?_) | (refine WC.em2 rfl (fun hp => ?_) (fun hp => ?_) <;> try (exfalso; first | omega | contradiction)))
   exact ⟨m - 1, by omega, _, G1, i + 1, rfl, rfl, rfl, rfl, rfl, rfl, by omega, hG1l, by rw [hs, hss]; exact hl1, by rw [hs, hss]; exact b5, hk1⟩
  ·have hdi := hlb.diag i hin
   have hel := hlb.el i i hin hin
   have eA : ((ent R1 i i).toNat : Int) = ent R1 i i := Int.toNat_of_nonneg (by omega)
   have eZ : ((v1.getD i 0 % d).toNat : Int) = v1.getD i 0 % d := Int.toNat_of_nonneg hz.1
   have c59 := fun m => s133 (m := m) (a := (ent R1 i i).toNat) (b := (v1.getD i 0 % d).toNat) (by omega) (by omega) (by omega)
   have hbd := euclid_bd (v1.getD i 0 % d).toNat (ent R1 i i).toNat (by omega)
   have hgc := euclid_gcd (v1.getD i 0 % d).toNat (ent R1 i i).toNat
   have hgp := Nat.gcd_pos_of_pos_left (v1.getD i 0 % d).toNat (show 0 < (ent R1 i i).toNat by omega)
   rw [← hgc] at hgp
   obtain ⟨W, hsW⟩ : ∃ W, insS n R1 v1 d i = W := ⟨_, rfl⟩
   have hss := hsW
   unfold insS at hss
   rw [if_neg hz0] at hss
   rw [eA, eZ] at c59
   generalize euclidF (ent R1 i i).toNat (v1.getD i 0 % d).toNat = e at *
   obtain ⟨g, X, Y⟩ := e
   simp only at c59 hbd hgp hss
   have hg0 : ¬ (g : Int) = 0 := by omega
   have hq1 : (ent R1 i i).tdiv (g : Int) = ent R1 i i / (g : Int) := Int.tdiv_eq_ediv_of_nonneg hel.1
   have hq2 : (v1.getD i 0 % d).tdiv (g : Int) = v1.getD i 0 % d / (g : Int) := Int.tdiv_eq_ediv_of_nonneg hz.1
   have ha1 := Int.ediv_nonneg hel.1 (show (0 : Int) ≤ (g : Int) by omega)
   have ha2 := Int.ediv_le_self (g : Int) hel.1
   have hb1 := Int.ediv_nonneg hz.1 (show (0 : Int) ≤ (g : Int) by omega)
   have hb2 := Int.ediv_le_self (g : Int) hz.1
   obtain ⟨gi, ai1, ai2, ai3, hRi⟩ := hl1.at (i := i) (by have := hlb.len; omega)
   obtain ⟨g1', o1, c1, d1, d2, d3, _⟩ := hRi.at (i := i) (by have := hlb.row i hin; omega)
   have ea : (R1.getD i []).getD i 0 = ent R1 i i := rfl
   rw [ea] at d3
   have hlq := look_lt ai2
   have hlb1 := look_lt b6
   have hli := look_lt d2
   have hg5 : ∀ c : List AV, Zz.look (G1 ++ [some ⟨0, c⟩]) G1.length 0 = some c := fun c => lk0 rfl
   repeat' (first | (refine WO.opE (by intro; simp (disch := omega) only [go_sem, b1, b2, b3, b6, b7, hz0, decide_false, ai1, ai2, ai3, d1, d2, d3, hg5, look_left, hg0, if_false, hq1, hq2]; rfl) (by simp only [pt8, pt0, pt1, pt2, pt3, pt4, pt5, pt6, pt7]; rfl) ?_) | (refine WO.opN (by intro; simp (disch := omega) only [go_sem, Option.bind_eq_bind, b2, b4, hG1]; rfl) ?_) | (refine WO.opE (by intro; exact ev_lenS (by simp only [go_sem]; first | rfl | assumption)) (by simp only [pt8, pt7]; rfl) ?_) | (refine WO.specE rfl h40 (c40 _) (by simp only [pt8, pt2]; rfl) ?_) | (refine WT.spec rfl h59 (fun V => c59 _) (by simp only [pt8, pt4]; rfl) ?_) | (refine WC.seq ?_) | (refine WC.region ?_) | (refine WO.nil ?_) | (simp only [fl1]) | (refine WC.calm rfl ?_) | (refine WC.drawT ?_) | (refine WT.nil ?_) | (refine WT.free rfl (by intro; simp (disch := omega) only [go_sem, b1, b6, b7, ai1, ai2, ai3, d1, d2, d3, if_false]; rfl) rfl (by simp only [pt8, pt0, pt1, pt2, pt3, pt4, pt5, pt6, pt7]; rfl) ?_) | (refine WT.big rfl rfl (by intro; simp (disch := omega) only [go_sem, b6, b7, ai2, ai3, d2, d3, if_false]; rfl) (by simp (disch := omega) only [go_sem, touch]; rfl) (by first | exact .inl rfl | exact .inr (apart_nil _) | exact .inr trivial | (right; apply apart_mk; simp only [apartL, zNA, zCA, List.getElem?_cons_succ, List.getElem?_cons_zero, Tch.free, and_true, true_and]; first | done | omega)) (by simp only [pt8, pt3, pt4, pt7]; rfl) ?_) | (refine WT.bigN rfl rfl (by intro; simp (disch := omega) only [go_sem, Option.bind_eq_bind, app_s0, ov_all3, Nat.reduceAdd, hg5]; rfl) (by simp (disch := omega) only [go_sem, touch]; rfl) (by first | exact .inl rfl | exact .inr (apart_nil _) | exact .inr trivial | (right; apply apart_mk; simp only [apartL, zNA, zCA, List.getElem?_cons_succ, List.getElem?_cons_zero, Tch.free, and_true, true_and]; first | done | omega)) ?_) | (refine WC.no rfl ?_) | (refine WC.skip ?_) | (refine WC.block ?_) | (refine WC.em2 rfl (fun hp => ?_) (fun hp => ?_) <;> try (exfalso; first | omega | contradiction)))
   have hXb : -1000000000 ≤ X ∧ X ≤ 1000000000 := by have := hbd.1 (by omega); omega
   have hYb : -1000000000 ≤ Y ∧ Y ≤ 1000000000 := by have := hbd.2; omega
   have hvz : VB (v1.set i (v1.getD i 0 % d)) n d := hvb.set hin hz
   generalize hA : ent R1 i i / (g : Int) = A at *
   generalize hB : v1.getD i 0 % d / (g : Int) = B at *
   have hAb : -1000000000 ≤ A ∧ A ≤ 1000000000 := by omega
   have hBb : -1000000000 ≤ B ∧ B ≤ 1000000000 := by omega
   have hbi : bs.getD i 0 ∈ bs := by
    have := hl1.bl
    have := hlb.len
    rw [List.getD_eq_getElem?_getD, List.getElem?_eq_getElem (by omega), Option.getD_some]
    exact List.getElem_mem _
   have hbiv : bs.getD i 0 ≠ bv := fun e => hbvq.2 (by rw [← e]; exact hbi)
   refine WC.loopI (fun m2 s => ∃ T G j, s = ⟨T, G, L⟩ ∧ T.length = 118 ∧ gt T 0 = rv ∧ gt T 1 = vv ∧ gt T 2 = .int .i64 d ∧ gt T 6 = .int .i64 (i : Nat) ∧ gt T 7 = .pref G1.length 0 0 ∧ gt T 8 = .int .i64 A ∧ gt T 9 = .int .i64 B ∧ gt T 10 = .int .i64 (j : Nat) ∧ m2 + j = n ∧ i + 1 ≤ j ∧ G.length = G1.length + 1 ∧ Zz.look G G1.length 0 = some [.int .i64 (g : Int), .int .i64 X, .int .i64 Y] ∧ LatM G rv q xs bs (insJ R1 (v1.set i (v1.getD i 0 % d)) i X Y A B d (j - (i + 1))).1 ∧ RowM G vv bv (insJ R1 (v1.set i (v1.getD i 0 % d)) i X Y A B d (j - (i + 1))).2 ∧ ∀ b, b < H.length → b ∉ bs → b ≠ bv → G[b]? = H[b]?) ?_ (n - (i + 1)) _ ⟨_, G1 ++ [some ⟨0, [.int .i64 (g : Int), .int .i64 X, .int .i64 Y]⟩], i + 1, rfl, rfl, rfl, rfl, rfl, rfl, rfl, rfl, rfl, rfl, by omega, Nat.le_refl _, by simp, hg5 _, by rw [Nat.sub_self]; exact hl1.keep (List.getElem?_append_left hlq) fun b hb => List.getElem?_append_left (hl1.blt hb), by rw [Nat.sub_self]; exact b5.same (List.getElem?_append_left hlb1), fun b x1 x2 x3 => (List.getElem?_append_left (by omega)).trans (hk1 b x1 x2 x3)⟩
   clear g0 g1 g2 g6 f b1 b2 b3 b4 b7 ai1 ai2 ai3 d1 d2 d3 hRi hl hv hkeep
   rintro m2 _ ⟨T, G2, j, rfl, hT, g0, g1, g2, g6, g7, g8, g9, g10, hm2, hij, hG2, k0, hl, hv, hkeep⟩
   obtain ⟨f, rfl⟩ := ex118 hT
   clear hT
   replace g0 : f 0 = rv := g0
   replace g1 : f 1 = vv := g1
   replace g2 : f 2 = .int .i64 d := g2
   replace g6 : f 6 = .int .i64 (i : Nat) := g6
   replace g7 : f 7 = .pref G1.length 0 0 := g7
   replace g8 : f 8 = .int .i64 A := g8
   replace g9 : f 9 = .int .i64 B := g9
   replace g10 : f 10 = .int .i64 (j : Nat) := g10
   simp only [g0, g1, g2, g6, g7, g8, g9, g10]
   obtain ⟨hlb2, hvb2⟩ := LB.insJ (i := i) (X := X) (Y := Y) (a := A) (b := B) hd (t := j - (i + 1)) hlb hvz (by omega)
   by_cases hjn : j < n
   ·have hJs : insJ R1 (v1.set i (v1.getD i 0 % d)) i X Y A B d (j + 1 - (i + 1)) = (setE (insJ R1 (v1.set i (v1.getD i 0 % d)) i X Y A B d (j - (i + 1))).1 i j ((X * ent (insJ R1 (v1.set i (v1.getD i 0 % d)) i X Y A B d (j - (i + 1))).1 i j + Y * (insJ R1 (v1.set i (v1.getD i 0 % d)) i X Y A B d (j - (i + 1))).2.getD j 0) % d), (insJ R1 (v1.set i (v1.getD i 0 % d)) i X Y A B d (j - (i + 1))).2.set j ((A * (insJ R1 (v1.set i (v1.getD i 0 % d)) i X Y A B d (j - (i + 1))).2.getD j 0 - B * ent (insJ R1 (v1.set i (v1.getD i 0 % d)) i X Y A B d (j - (i + 1))).1 i j) % d)) := by
     have e : j + 1 - (i + 1) = (j - (i + 1)) + 1 := by omega
     have e2 : i + 1 + (j - (i + 1)) = j := by omega
     rw [e, insJ, e2]
    generalize insJ R1 (v1.set i (v1.getD i 0 % d)) i X Y A B d (j - (i + 1)) = S2 at *
    obtain ⟨R2, v2⟩ := S2
    simp only at hl hv hlb2 hvb2 hJs
    have hel2 := hlb2.el i j hin hjn
    have hvj := hvb2.2 j hjn
    obtain ⟨gi, ai1, ai2, ai3, hRi⟩ := hl.at (i := i) (by have := hlb2.len; omega)
    obtain ⟨h1', o1, c1, c1', d1, d2, d3, d4, d5, d6, d7⟩ := hRi.wr (i := j) (by have := hlb2.row i hin; omega) ((X * ent R2 i j + Y * v2.getD j 0) % d)
    obtain ⟨gv, ov, cv, cv', b1, b2, b3, b4, b5', b6', b7⟩ := hv.wr (i := j) (by have := hvb2.1; omega) ((A * v2.getD j 0 - B * ent R2 i j) % d)
    have ea : (R2.getD i []).getD j 0 = ent R2 i j := rfl
    rw [ea] at d3
    have p1 := mul_bd hXb (show 0 ≤ ent R2 i j ∧ ent R2 i j ≤ 1000000000 by omega)
    have p2 := mul_bd hYb (show 0 ≤ v2.getD j 0 ∧ v2.getD j 0 ≤ 1000000000 by omega)
    have p3 := mul_bd hAb (show 0 ≤ v2.getD j 0 ∧ v2.getD j 0 ≤ 1000000000 by omega)
    have p4 := mul_bd hBb (show 0 ≤ ent R2 i j ∧ ent R2 i j ≤ 1000000000 by omega)
    have c1s := fun m => s91 (m := m) (d := d) (x := X * ent R2 i j + Y * v2.getD j 0) hd (by omega) ⟨by omega, by omega⟩
    have c2s := fun m => s91 (m := m) (d := d) (x := A * v2.getD j 0 - B * ent R2 i j) hd (by omega) ⟨by omega, by omega⟩
    have b2s : ∀ W : Option Blk, Zz.look (G2.set (bs.getD i 0) W) bv gv = some cv := fun W => (look_of_get (List.getElem?_set_ne hbiv)).trans b2
    repeat' (first | (refine WO.opE (by intro; simp (disch := omega) only [go_sem, b1, b2, b3, ai1, ai2, ai3, d1, d2, d3]; rfl) (by simp only [pt8, pt0, pt1, pt2, pt3, pt4, pt5, pt6, pt7]; rfl) ?_) | (refine WO.opN (by intro; simp (disch := omega) only [go_sem, b4, b2s]; rfl) ?_) | (refine WO.opE (by intro; exact ev_lenS (by simp only [go_sem]; first | rfl | assumption)) (by simp only [pt8, pt2]; rfl) ?_) | (refine WT.spec rfl h40 (fun V => c1s _) (by simp only [pt8, pt0]; rfl) ?_) | (refine WO.specE rfl h40 (c2s _) (by simp only [pt8, pt4]; rfl) ?_) | (refine WC.seq ?_) | (refine WC.region ?_) | (refine WO.nil ?_) | (simp only [fl1, fl10]) | (refine WC.drawT ?_) | (refine WT.nil ?_) | (refine WT.free rfl (by intro; simp (disch := omega) only [go_sem, ai1, ai2, ai3, d1, k0]; rfl) rfl (by simp only [pt8, pt0, pt1, pt2, pt3, pt4, pt5, pt6, pt7]; rfl) ?_) | (refine WT.big rfl rfl (by intro; simp (disch := omega) only [go_sem, ai2, ai3, k0]; rfl) (by simp (disch := omega) only [go_sem, touch]; rfl) (by first | exact .inl rfl | exact .inr (apart_nil _) | exact .inr trivial | (right; apply apart_mk; simp only [apartL, zNA, zCA, List.getElem?_cons_succ, List.getElem?_cons_zero, Tch.free, and_true, true_and]; first | done | omega)) (by simp only [pt8, pt3, pt4, pt7]; rfl) ?_) | (refine WT.bigN rfl rfl (by intro; simp (disch := omega) only [go_sem, d2, d4]; rfl) (by simp (disch := omega) only [go_sem, touch]; rfl) (by first | exact .inl rfl | exact .inr (apart_nil _) | exact .inr trivial | (right; apply apart_mk; simp only [apartL, zNA, zCA, List.getElem?_cons_succ, List.getElem?_cons_zero, Tch.free, and_true, true_and]; first | done | omega)) ?_) | (refine WC.skip ?_) | (refine WC.block ?_) | (refine WC.em2 rfl (fun hp => ?_) (fun hp => ?_) <;> try (exfalso; first | omega | contradiction)))
    have hbil := hl1.blt hbi
    have hlatA := hl.put (i := i) (by have := hlb2.len; omega) (B := some ⟨h1', c1'⟩) d5
    have hlatB : LatM ((G2.set (bs.getD i 0) (some ⟨h1', c1'⟩)).set bv (some ⟨gv, cv'⟩)) rv q xs bs (setE R2 i j ((X * ent R2 i j + Y * v2.getD j 0) % d)) := hlatA.keep (List.getElem?_set_ne hbvq.1) fun b hb => List.getElem?_set_ne fun e => hbvq.2 (by rw [e]; exact hb)
    have hrowB : RowM ((G2.set (bs.getD i 0) (some ⟨h1', c1'⟩)).set bv (some ⟨gv, cv'⟩)) vv bv (v2.set j ((A * v2.getD j 0 - B * ent R2 i j) % d)) := b5'.same (by rw [List.getElem?_set_self (by rw [List.length_set]; exact look_lt b2), List.getElem?_set_self (look_lt b2)])
    have hkB : ∀ b, b < H.length → b ∉ bs → b ≠ bv → ((G2.set (bs.getD i 0) (some ⟨h1', c1'⟩)).set bv (some ⟨gv, cv'⟩))[b]? = H[b]? := fun b x1 x2 x3 => by
     rw [List.getElem?_set_ne (Ne.symm x3), List.getElem?_set_ne (fun e => x2 (by rw [← e]; exact hbi))]
     exact hkeep b x1 x2 x3
    have k0B : Zz.look ((G2.set (bs.getD i 0) (some ⟨h1', c1'⟩)).set bv (some ⟨gv, cv'⟩)) G1.length 0 = some [.int .i64 (g : Int), .int .i64 X, .int .i64 Y] := (look_of_get (by rw [List.getElem?_set_ne (by omega), List.getElem?_set_ne (by omega)])).trans k0
    have hlenB : ((G2.set (bs.getD i 0) (some ⟨h1', c1'⟩)).set bv (some ⟨gv, cv'⟩)).length = G1.length + 1 := by rw [List.length_set, List.length_set]; exact hG2
    exact ⟨m2 - 1, by omega, _, (G2.set (bs.getD i 0) (some ⟨h1', c1'⟩)).set bv (some ⟨gv, cv'⟩), j + 1, rfl, rfl, rfl, rfl, rfl, rfl, rfl, rfl, rfl, rfl, by omega, by omega, hlenB, k0B, by rw [hJs]; exact hlatB, by rw [hJs]; exact hrowB, hkB⟩
   ·have hje : j = n := by omega
    subst hje
    generalize insJ R1 (v1.set i (v1.getD i 0 % d)) i X Y A B d (j - (i + 1)) = S2 at *
    obtain ⟨R2, v2⟩ := S2
    simp only at hl hv hlb2 hvb2 hss
    obtain ⟨gi, ai1, ai2, ai3, hRi⟩ := hl.at (i := i) (by have := hlb2.len; omega)
    obtain ⟨h1', o1, c1, c1', d1, d2, d3, d4, d5, d6, d7⟩ := hRi.wr (i := i) (by have := hlb2.row i hin; omega) (g : Int)
    have hlatA : LatM (G2.set (bs.getD i 0) (some ⟨h1', c1'⟩)) rv q xs bs (setE R2 i i (g : Int)) := hl.put (i := i) (by have := hlb2.len; omega) (B := some ⟨h1', c1'⟩) d5
    have hrowB : RowM (G2.set (bs.getD i 0) (some ⟨h1', c1'⟩)) vv bv v2 := hv.same (List.getElem?_set_ne hbiv)
    have hkB : ∀ b, b < H.length → b ∉ bs → b ≠ bv → (G2.set (bs.getD i 0) (some ⟨h1', c1'⟩))[b]? = H[b]? := fun b x1 x2 x3 => by
     rw [List.getElem?_set_ne (fun e => x2 (by rw [← e]; exact hbi))]
     exact hkeep b x1 x2 x3
    have hlenB : H.length ≤ (G2.set (bs.getD i 0) (some ⟨h1', c1'⟩)).length := by rw [List.length_set]; omega
    repeat' (first | (refine WO.opE (by intro; simp (disch := omega) only [go_sem, ai1, ai2, ai3, d1, k0]; rfl) (by simp only [pt8, pt0, pt1, pt2, pt3, pt4, pt5, pt6, pt7]; rfl) ?_) | (refine WO.opN (by intro; simp (disch := omega) only [go_sem, d2, d4]; rfl) ?_) | (refine WO.opE (by intro; exact ev_lenS (by simp only [go_sem]; first | rfl | assumption)) (by simp only [pt8, pt2]; rfl) ?_) | (refine WC.seq ?_) | (refine WC.region ?_) | (refine WO.nil ?_) | (simp only [fl1, fl3, fl6, fl9, fl10]) | (refine WC.calm rfl ?_) | (refine WC.exit ?_) | (refine WC.em2 rfl (fun hp => ?_) (fun hp => ?_) <;> try (exfalso; first | omega | contradiction)))
    exact ⟨m - 1, by omega, _, G2.set (bs.getD i 0) (some ⟨h1', c1'⟩), i + 1, rfl, rfl, rfl, rfl, rfl, rfl, by omega, hlenB, by rw [hs, hsW, ← hss]; exact hlatA, by rw [hs, hsW, ← hss]; exact hrowB, hkB⟩
 ·have hie : i = n := by omega
  subst hie
  repeat' (first | (refine WO.opE (by intro; simp (disch := omega) only [go_sem]; rfl) (by simp only [pt8, pt0, pt5, pt6]; rfl) ?_) | (refine WO.opE (by intro; exact ev_lenS (by simp only [go_sem]; first | rfl | assumption)) (by simp only [pt8, pt7]; rfl) ?_) | (refine WC.seq ?_) | (refine WC.region ?_) | (refine WO.nil ?_) | (simp only [fl1, fl3, fl6, fl9]) | (refine WC.exit ?_) | (refine WC.em2 rfl (fun hp => ?_) (fun hp => ?_) <;> try (exfalso; first | omega | contradiction)))
  exact ⟨_, rfl, G, rfl, hl, hv, hGl, hkeep⟩
def addJ (R : List (List Int)) (v : List Int) (i : Nat) (q d : Int) : Nat → List (List Int) × List Int
 | 0 => (R, v)
 | t + 1 => (setE (addJ R v i q d t).1 i (i + 1 + t) ((addJ R v i q d t).2.getD (i + 1 + t) 0 % d),
   (addJ R v i q d t).2.set (i + 1 + t) ((ent (addJ R v i q d t).1 i (i + 1 + t) - q * ((addJ R v i q d t).2.getD (i + 1 + t) 0 % d)) % d))
def addT (n : Nat) (R : List (List Int)) (v : List Int) (d : Int) (i : Nat) : List (List Int) × List Int :=
 addJ (setE R i i (v.getD i 0)) (v.set i (ent R i i % v.getD i 0)) i (ent R i i / v.getD i 0) d (n - (i + 1))
def addE (n : Nat) (d : Int) (i : Nat) : Nat → List (List Int) → List Int → List (List Int) × List Int
 | 0, R, v => (R, v)
 | t + 1, R, v => if v.getD i 0 = 0 then (R, v) else addE n d i t (addT n R v d i).1 (addT n R v d i).2
def addS (n : Nat) (R : List (List Int)) (v : List Int) (d : Int) (i : Nat) : List (List Int) × List Int :=
 addE n d i (v.getD i 0 % d).toNat R (v.set i (v.getD i 0 % d))
def addI (n : Nat) (R : List (List Int)) (v : List Int) (d : Int) : Nat → List (List Int) × List Int
 | 0 => (R, v)
 | i + 1 => addS n (addI n R v d i).1 (addI n R v d i).2 d i
def VC (v : List Int) (n : Nat) : Prop := v.length = n ∧ ∀ j, j < n → -1000000000 ≤ v.getD j 0 ∧ v.getD j 0 ≤ 1000000000
theorem VC.set {v : List Int} {n j : Nat} {x : Int} (h : VC v n) (hj : j < n) (hx : -1000000000 ≤ x ∧ x ≤ 1000000000) : VC (v.set j x) n := by
 refine ⟨by rw [List.length_set]; exact h.1, fun k hk => ?_⟩
 have hl := h.1
 rw [List.getD_eq_getElem?_getD, List.getElem?_set]
 by_cases e : j = k
 ·subst e
  rw [if_pos rfl, if_pos (by omega)]
  exact hx
 ·rw [if_neg e, ← List.getD_eq_getElem?_getD]
  exact h.2 k hk
theorem getD_set_self {v : List Int} {j : Nat} {x : Int} (h : j < v.length) : (v.set j x).getD j 0 = x := by
 rw [List.getD_eq_getElem?_getD, List.getElem?_set, if_pos rfl, if_pos h]
 rfl
theorem getD_set_ne {v : List Int} {j k : Nat} {x : Int} (h : j ≠ k) : (v.set j x).getD k 0 = v.getD k 0 := by
 rw [List.getD_eq_getElem?_getD, List.getElem?_set, if_neg h, ← List.getD_eq_getElem?_getD]
theorem LB.addJ {n i : Nat} {d q : Int} (hd : 0 < d) (hd9 : d ≤ 1000000000) : ∀ {t : Nat} {R : List (List Int)} {v : List Int}, LB R n d → VC v n → i + 1 + t ≤ n → LB (addJ R v i q d t).1 n d ∧ VC (addJ R v i q d t).2 n ∧ (Ytnilimjkibimcaa.addJ R v i q d t).2.getD i 0 = v.getD i 0
 | 0, R, v, h, hv, _ => ⟨h, hv, rfl⟩
 | t + 1, R, v, h, hv, ht => by
  obtain ⟨h1, h2, h3⟩ := LB.addJ (i := i) (q := q) hd hd9 (t := t) h hv (by omega)
  refine ⟨h1.setE (by omega) (by omega) (emod_in hd) fun e => by omega, h2.set (by omega) ?_, ?_⟩
  ·have := emod_in (x := ent (Ytnilimjkibimcaa.addJ R v i q d t).1 i (i + 1 + t) - q * ((Ytnilimjkibimcaa.addJ R v i q d t).2.getD (i + 1 + t) 0 % d)) hd
   omega
  ·show ((Ytnilimjkibimcaa.addJ R v i q d t).2.set (i + 1 + t) _).getD i 0 = _
   rw [getD_set_ne (by omega), h3]
theorem LB.addT {n i : Nat} {d : Int} (hd : 0 < d) (hd9 : d ≤ 1000000000) {R : List (List Int)} {v : List Int} (h : LB R n d) (hv : VC v n) (hi : i < n) (h0 : 0 < v.getD i 0) (h1 : v.getD i 0 ≤ d) :
  LB (addT n R v d i).1 n d ∧ VC (addT n R v d i).2 n ∧ 0 ≤ (Ytnilimjkibimcaa.addT n R v d i).2.getD i 0 ∧ (Ytnilimjkibimcaa.addT n R v d i).2.getD i 0 < v.getD i 0 := by
 have e1 := Int.emod_nonneg (ent R i i) (show v.getD i 0 ≠ 0 by omega)
 have e2 := Int.emod_lt_of_pos (ent R i i) h0
 obtain ⟨a1, a2, a3⟩ := LB.addJ (n := n) (i := i) (q := ent R i i / v.getD i 0) hd hd9 (t := n - (i + 1)) (h.setE hi hi (x := v.getD i 0) ⟨by omega, h1⟩ fun _ => h0) (hv.set hi (x := ent R i i % v.getD i 0) ⟨by omega, by omega⟩) (by omega)
 rw [getD_set_self (by have := hv.1; omega)] at a3
 exact ⟨a1, a2, by unfold Ytnilimjkibimcaa.addT; rw [a3]; exact e1, by unfold Ytnilimjkibimcaa.addT; rw [a3]; exact e2⟩
theorem LB.addE {n i : Nat} {d : Int} (hd : 0 < d) (hd9 : d ≤ 1000000000) (hi : i < n) : ∀ {t : Nat} {R : List (List Int)} {v : List Int}, LB R n d → VC v n → 0 ≤ v.getD i 0 → v.getD i 0 ≤ d → (v.getD i 0).toNat ≤ t →
  LB (addE n d i t R v).1 n d ∧ VC (addE n d i t R v).2 n ∧ (Ytnilimjkibimcaa.addE n d i t R v).2.getD i 0 = 0
 | 0, R, v, h, hv, h0, _, ht => ⟨h, hv, by show v.getD i 0 = 0; omega⟩
 | t + 1, R, v, h, hv, h0, h1, ht => by
  unfold Ytnilimjkibimcaa.addE
  by_cases hz : v.getD i 0 = 0
  ·rw [if_pos hz]
   exact ⟨h, hv, hz⟩
  ·rw [if_neg hz]
   obtain ⟨a1, a2, a3, a4⟩ := LB.addT (n := n) hd hd9 h hv hi (by omega) h1
   exact LB.addE hd hd9 hi a1 a2 a3 (by omega) (by omega)
theorem addE_zero {n i : Nat} {d : Int} {R : List (List Int)} {v : List Int} (h : v.getD i 0 = 0) : ∀ t, addE n d i t R v = (R, v)
 | 0 => rfl
 | t + 1 => by unfold addE; rw [if_pos h]
theorem addE_fuel {n i : Nat} {d : Int} (hd : 0 < d) (hd9 : d ≤ 1000000000) (hi : i < n) : ∀ {t s : Nat} {R : List (List Int)} {v : List Int}, LB R n d → VC v n → 0 ≤ v.getD i 0 → v.getD i 0 ≤ d → (v.getD i 0).toNat ≤ t → (v.getD i 0).toNat ≤ s →
  addE n d i t R v = addE n d i s R v
 | 0, s, R, v, h, hv, h0, _, ht, hs => by rw [addE_zero (by omega), addE_zero (by omega)]
 | t + 1, 0, R, v, h, hv, h0, _, ht, hs => by rw [addE_zero (by omega), addE_zero (by omega)]
 | t + 1, s + 1, R, v, h, hv, h0, h1, ht, hs => by
  by_cases hz : v.getD i 0 = 0
  ·rw [addE_zero hz, addE_zero hz]
  ·unfold addE
   rw [if_neg hz, if_neg hz]
   obtain ⟨a1, a2, a3, a4⟩ := LB.addT (n := n) hd hd9 h hv hi (by omega) h1
   exact addE_fuel hd hd9 hi a1 a2 a3 (by omega) (by omega) (by omega)
theorem addE_step {n i : Nat} {d : Int} (hd : 0 < d) (hd9 : d ≤ 1000000000) (hi : i < n) {R : List (List Int)} {v : List Int} (h : LB R n d) (hv : VC v n) (h0 : 0 < v.getD i 0) (h1 : v.getD i 0 ≤ d) :
  addE n d i (v.getD i 0).toNat R v = addE n d i ((addT n R v d i).2.getD i 0).toNat (addT n R v d i).1 (addT n R v d i).2 := by
 obtain ⟨a1, a2, a3, a4⟩ := LB.addT (n := n) hd hd9 h hv hi h0 h1
 obtain ⟨t, ht⟩ : ∃ t, (v.getD i 0).toNat = t + 1 := ⟨(v.getD i 0).toNat - 1, by omega⟩
 rw [ht]
 show (if v.getD i 0 = 0 then _ else _) = _
 rw [if_neg (by omega)]
 exact addE_fuel hd hd9 hi a1 a2 a3 (by omega) (by omega) (Nat.le_refl _)
theorem LB.addS {n i : Nat} {d : Int} (hd : 0 < d) (hd9 : d ≤ 1000000000) {R : List (List Int)} {v : List Int} (h : LB R n d) (hv : VC v n) (hi : i < n) : LB (addS n R v d i).1 n d ∧ VC (addS n R v d i).2 n := by
 have e := emod_in (x := v.getD i 0) hd
 have hg : (v.set i (v.getD i 0 % d)).getD i 0 = v.getD i 0 % d := getD_set_self (by have := hv.1; omega)
 obtain ⟨a1, a2, _⟩ := LB.addE (n := n) hd hd9 hi (t := (v.getD i 0 % d).toNat) h (hv.set hi (x := v.getD i 0 % d) ⟨by omega, by omega⟩) (by rw [hg]; omega) (by rw [hg]; omega) (by rw [hg]; omega)
 exact ⟨a1, a2⟩
theorem LB.addI {n : Nat} {d : Int} (hd : 0 < d) (hd9 : d ≤ 1000000000) {R : List (List Int)} {v : List Int} (h : LB R n d) (hv : VC v n) : ∀ {i : Nat}, i ≤ n → LB (addI n R v d i).1 n d ∧ VC (addI n R v d i).2 n
 | 0, _ => ⟨h, hv⟩
 | i + 1, hi => by
  obtain ⟨h1, h2⟩ := LB.addI hd hd9 h hv (i := i) (by omega)
  exact LB.addS hd hd9 h1 h2 (by omega)
set_option maxRecDepth 100000
set_option maxHeartbeats 8000000
theorem f85 {E : Env} (hE : E.spec 85 = none) (hF : E.fn 85 = some ir85) (h58 : E.spec 132 = some (borrowQ E9 132)) {n : Nat} {d : Int} {H : Hp} {L : List (Option ALoop)} {rv vv : AV} {q bv : Nat} {xs : List AV} {bs : List Nat} {R : List (List Int)} {v : List Int}
  (hn : n ≤ 8) (hd : 0 < d) (hd9 : d ≤ 1000000000) (hlat : LatM H rv q xs bs R) (hLB : LB R n d) (hqH : q < H.length) (hrow : RowM H vv bv v) (hVC : VC v n) (hbv : bv ∉ q :: bs) :
  WF E (.func 85 [] []) [.agg [.int .i64 d, rv], vv] ⟨H, L⟩ fun y m' => ∃ H', m' = ⟨H', L⟩ ∧ LatM H' rv q xs bs (addI n R v d n).1 ∧ RowM H' vv bv (addI n R v d n).2 ∧ H.length ≤ H'.length ∧ ∀ b, b < H.length → b ∉ bs → b ≠ bv → H'[b]? = H[b]? := by
 have hRn := hLB.len
 have hrl := hlat.len
 rw [hRn] at hrl
 have hrc : rv.cells = some [rv] := by
  rcases hlat.gs with ⟨rfl, _⟩ | ⟨g, rfl, _⟩ | ⟨g, n, rfl, _⟩ <;> rfl
 have hbvl := hrow.lt
 have hbvq : bv ≠ q ∧ bv ∉ bs := by
  rw [List.mem_cons] at hbv
  exact ⟨fun e => hbv (.inl e), fun e => hbv (.inr e)⟩
 refine WF.fnE hE hF (by show 2 ≤ 99; decide) ?_
 unfold ir85
 simp only [padTo, List.replicate, zNA, zAN]
 have hlk : Zz.look (H ++ [some ⟨0, [.int .i64 d, rv]⟩]) H.length 0 = some [.int .i64 d, rv] := lk0 rfl
 repeat' (first | (refine WO.opE (by intro; simp (disch := omega) only [go_sem, hlk]; rfl) (by simp only [pt8, pt0, pt1, pt2, pt3]; rfl) ?_) | (refine WO.opE (by intro; exact ev_lenS (by simp only [go_sem]; first | rfl | assumption)) (by simp only [pt8, pt2]; rfl) ?_) | (refine WC.seq ?_) | (refine WC.region ?_) | (refine WO.nil ?_) | (simp only [fl1]) | (refine WC.block ?_))
 refine WC.loopI (fun m s => ∃ T G i, ∃ N : Nat, s = ⟨T, G, L⟩ ∧ T.length = 99 ∧ gt T 1 = vv ∧ gt T 2 = .pref N 0 0 ∧ gt T 10 = .int .i64 (n : Nat) ∧ gt T 11 = .int .i64 (i : Nat) ∧ m + i = n ∧ N = H.length ∧ N + 1 ≤ G.length ∧ Zz.look G N 0 = some [.int .i64 d, rv] ∧ LatM G rv q xs bs (addI n R v d i).1 ∧ RowM G vv bv (addI n R v d i).2 ∧ ∀ b, b < H.length → b ∉ bs → b ≠ bv → G[b]? = H[b]?) ?_ n _ ⟨_, _, 0, H.length, rfl, rfl, rfl, rfl, rfl, rfl, by omega, rfl, by simp, hlk, hlat.keep (List.getElem?_append_left hqH) fun b hb => List.getElem?_append_left (hlat.blt hb), hrow.same (List.getElem?_append_left hbvl), fun b hb _ _ => List.getElem?_append_left hb⟩
 rintro m _ ⟨T, G, i, N, rfl, hT, g1, g2, g10, g11, hm, hN, hGl, k0, hl, hv, hkeep⟩
 obtain ⟨f, rfl⟩ := ex99 hT
 clear hT
 replace g1 : f 1 = vv := g1
 replace g2 : f 2 = .pref N 0 0 := g2
 replace g10 : f 10 = .int .i64 (n : Nat) := g10
 replace g11 : f 11 = .int .i64 (i : Nat) := g11
 simp only [g1, g2, g10, g11]
 obtain ⟨hlb, hvb⟩ := LB.addI hd hd9 hLB hVC (i := i) (by omega)
 by_cases hin : i < n
 ·have hs : addI n R v d (i + 1) = addS n (addI n R v d i).1 (addI n R v d i).2 d i := rfl
  generalize addI n R v d i = S at *
  obtain ⟨R1, v1⟩ := S
  simp only at hl hv hlb hvb hs
  have hvl := hvb.1
  obtain ⟨gv, ov, cv, cv', b1, b2, b3, b4, b5, b6, b7⟩ := hv.wr (i := i) (by omega) (v1.getD i 0 % d)
  have hv0 := hvb.2 i hin
  have c58 := fun m => s132 (m := m) (r := rv) (d := d) (x := v1.getD i 0) hd (by omega) ⟨by omega, by omega⟩
  have hz := emod_in (x := v1.getD i 0) hd
  have hl1 : LatM (G.set bv (some ⟨gv, cv'⟩)) rv q xs bs R1 := hl.keep (List.getElem?_set_ne hbvq.1) fun b hb => List.getElem?_set_ne fun e => hbvq.2 (by rw [e]; exact hb)
  have hk1 : ∀ b, b < H.length → b ∉ bs → b ≠ bv → (G.set bv (some ⟨gv, cv'⟩))[b]? = H[b]? := fun b h1 h2 h3 => by
   rw [List.getElem?_set_ne (Ne.symm h3)]
   exact hkeep b h1 h2 h3
  have k01 : Zz.look (G.set bv (some ⟨gv, cv'⟩)) N 0 = some [.int .i64 d, rv] := (look_of_get (List.getElem?_set_ne (by omega))).trans k0
  obtain ⟨gi, ai1, ai2, ai3, hRi⟩ := hl.at (i := i) (by have := hlb.len; omega)
  have hx := hRi.len
  have hxc := hRi.cell
  unfold AV.cells at hxc
  have hil := hlb.row i (by omega)
  rw [hil] at hx
  generalize hxe : xs.getD i und = x at *
  repeat' (first | (refine WO.opE (by intro; simp (disch := omega) only [go_sem, k0, ai1, ai2, ai3]; rfl) (by simp only [pt8, pt0, pt1, pt2, pt4, pt5, pt6, pt7]; rfl) ?_) | (refine WT.spec rfl h58 (fun V => c58 _) (by simp only [pt8, pt2]; rfl) ?_) | (refine WC.seq ?_) | (refine WC.region ?_) | (refine WO.nil ?_) | (simp only [fl1]) | (refine WC.drawT ?_) | (refine WT.nil ?_) | (refine WT.free rfl (by intro; simp (disch := omega) only [go_sem, k0, b1, b2, b3]; rfl) rfl (by simp only [pt8, pt0, pt1, pt3, pt4, pt5, pt6, pt7]; rfl) ?_) | (refine WT.big rfl rfl (by intro; simp (disch := omega) only [go_sem, k0, b2, b3]; rfl) (by simp (disch := omega) only [go_sem, touch]; rfl) (by first | exact .inl rfl | exact .inr (apart_nil _) | exact .inr trivial | (right; apply apart_mk; simp only [apartL, zNA, zCA, List.getElem?_cons_succ, List.getElem?_cons_zero, Tch.free, and_true, true_and]; first | done | omega)) (by simp only [pt8, pt1, pt5]; rfl) ?_) | (refine WT.bigN rfl rfl (by intro; simp (disch := omega) only [go_sem, b2, b4]; rfl) (by simp (disch := omega) only [go_sem, touch]; rfl) (by first | exact .inl rfl | exact .inr (apart_nil _) | exact .inr trivial | (right; apply apart_mk; simp only [apartL, zNA, zCA, List.getElem?_cons_succ, List.getElem?_cons_zero, Tch.free, and_true, true_and]; first | done | omega)) ?_) | (refine WC.skip ?_) | (refine WC.block ?_) | (refine WC.em2 rfl (fun hp => ?_) (fun hp => ?_) <;> try (exfalso; first | omega | contradiction)))
  have hG1l : N + 1 ≤ (G.set bv (some ⟨gv, cv'⟩)).length := by rw [List.length_set]; exact hGl
  have hvz : VC (v1.set i (v1.getD i 0 % d)) n := hvb.set hin ⟨by omega, by omega⟩
  have hvzi : (v1.set i (v1.getD i 0 % d)).getD i 0 = v1.getD i 0 % d := getD_set_self (by omega)
  generalize hG1 : G.set bv (some ⟨gv, cv'⟩) = G1 at *
  obtain ⟨W, hsW⟩ : ∃ W, addS n R1 v1 d i = W := ⟨_, rfl⟩
  have hW0 : addE n d i ((v1.set i (v1.getD i 0 % d)).getD i 0).toNat R1 (v1.set i (v1.getD i 0 % d)) = W := by rw [hvzi]; exact hsW
  refine WC.loopI (fun m1 s => ∃ T G R2 v2, s = ⟨T, G, L⟩ ∧ T.length = 99 ∧ gt T 1 = vv ∧ gt T 2 = .pref N 0 0 ∧ gt T 4 = .int .i64 (i : Nat) ∧ gt T 5 = x ∧ gt T 10 = .int .i64 (n : Nat) ∧ gt T 11 = .int .i64 (i : Nat) ∧ (v2.getD i 0).toNat = m1 ∧ 0 ≤ v2.getD i 0 ∧ v2.getD i 0 ≤ d ∧ N + 1 ≤ G.length ∧ Zz.look G N 0 = some [.int .i64 d, rv] ∧ LatM G rv q xs bs R2 ∧ RowM G vv bv v2 ∧ LB R2 n d ∧ VC v2 n ∧ addE n d i (v2.getD i 0).toNat R2 v2 = W ∧ ∀ b, b < H.length → b ∉ bs → b ≠ bv → G[b]? = H[b]?) ?_ ((v1.set i (v1.getD i 0 % d)).getD i 0).toNat _ ⟨_, G1, R1, v1.set i (v1.getD i 0 % d), rfl, rfl, rfl, rfl, rfl, rfl, rfl, rfl, rfl, by omega, by omega, hG1l, k01, hl1, b5, hlb, hvz, hW0, hk1⟩
  clear g1 g2 g10 g11 f b1 b2 b3 b4 b7 ai1 ai2 ai3 hRi hl hv hkeep k0 hl1 hk1 k01 hG1l b5 b6 hW0 hG1 hxc hvz hvzi hlb hvb
  rintro m1 _ ⟨T, G2, R2, v2, rfl, hT, g1, g2, g4, g5, g10, g11, hm1, hp0, hpd, hGl, k0, hl, hv, hlb, hvb, hW, hkeep⟩
  obtain ⟨f, rfl⟩ := ex99 hT
  clear hT
  replace g1 : f 1 = vv := g1
  replace g2 : f 2 = .pref N 0 0 := g2
  replace g4 : f 4 = .int .i64 (i : Nat) := g4
  replace g5 : f 5 = x := g5
  replace g10 : f 10 = .int .i64 (n : Nat) := g10
  replace g11 : f 11 = .int .i64 (i : Nat) := g11
  simp only [g1, g2, g4, g5, g10, g11]
  have hvl := hvb.1
  have hbi : bs.getD i 0 ∈ bs := by
   have := hl.bl
   have := hlb.len
   rw [List.getD_eq_getElem?_getD, List.getElem?_eq_getElem (by omega), Option.getD_some]
   exact List.getElem_mem _
  have hbiv : bs.getD i 0 ≠ bv := fun e => hbvq.2 (by rw [← e]; exact hbi)
  have hbiH : bs.getD i 0 < H.length := hlat.blt hbi
  obtain ⟨gi, ai1, ai2, ai3, hRi⟩ := hl.at (i := i) (by have := hlb.len; omega)
  rw [hxe] at hRi
  have hil := hlb.row i (by omega)
  by_cases hz2 : v2.getD i 0 = 0
  ·obtain ⟨gv, ov, cv, b1, b2, b3, _⟩ := hv.at (i := i) (by omega)
   rw [hz2] at b3 hW
   repeat' (first | (refine WO.opE (by intro; simp (disch := omega) only [go_sem, b1, b2, b3]; rfl) (by simp only [pt8, pt0, pt2, pt3, pt4, pt5, pt6, pt7]; rfl) ?_) | (refine WC.seq ?_) | (refine WC.region ?_) | (refine WO.nil ?_) | (simp only [fl1, fl10]) | (refine WC.no rfl ?_) | (refine WC.exit ?_))
   have hWe : (R2, v2) = addS n R1 v1 d i := by rw [hsW, ← hW]; rfl
   rw [← hWe] at hs
   exact ⟨m - 1, by omega, _, G2, i + 1, N, rfl, rfl, rfl, rfl, rfl, rfl, by omega, hN, hGl, k0, by rw [hs]; exact hl, by rw [hs]; exact hv, hkeep⟩
  ·have hst := addE_step hd hd9 hin hlb hvb (by omega) hpd
   have hel := hlb.el i i hin hin
   obtain ⟨t1, t2, t3, t4⟩ := LB.addT hd hd9 hlb hvb hin (show 0 < v2.getD i 0 by omega) hpd
   obtain ⟨h1', o1, c1, c1', d1, d2, d3, d4, d5, d6, d7⟩ := hRi.wr (i := i) (by omega) (v2.getD i 0)
   obtain ⟨gv, ov, cv, cv', b1, b2, b3, b4, b5, b6, b7⟩ := hv.wr (i := i) (by omega) (ent R2 i i % v2.getD i 0)
   have ea : (R2.getD i []).getD i 0 = ent R2 i i := rfl
   rw [ea] at d3
   have htd : (ent R2 i i).tdiv (v2.getD i 0) = ent R2 i i / v2.getD i 0 := Int.tdiv_eq_ediv_of_nonneg hel.1
   have hmod : ent R2 i i - ent R2 i i / v2.getD i 0 * v2.getD i 0 = ent R2 i i % v2.getD i 0 := by
    have := Int.emod_add_mul_ediv (ent R2 i i) (v2.getD i 0)
    rw [Int.mul_comm] at this
    omega
   have hm1' := Int.emod_nonneg (ent R2 i i) (show v2.getD i 0 ≠ 0 by omega)
   have hm2' := Int.emod_lt_of_pos (ent R2 i i) (show 0 < v2.getD i 0 by omega)
   have hq1 : 0 ≤ ent R2 i i / v2.getD i 0 := Int.ediv_nonneg hel.1 (by omega)
   have hq2 : ent R2 i i / v2.getD i 0 ≤ ent R2 i i := Int.ediv_le_self _ hel.1
   have b2s : ∀ W : Option Blk, Zz.look (G2.set (bs.getD i 0) W) bv gv = some cv := fun W => (look_of_get (List.getElem?_set_ne hbiv)).trans b2
   have hlatA := hl.put (i := i) (by have := hlb.len; omega) (B := some ⟨h1', c1'⟩) (r := (R2.getD i []).set i (v2.getD i 0)) (by rw [hxe]; exact d5)
   have hlatB : LatM ((G2.set (bs.getD i 0) (some ⟨h1', c1'⟩)).set bv (some ⟨gv, cv'⟩)) rv q xs bs (setE R2 i i (v2.getD i 0)) := hlatA.keep (List.getElem?_set_ne hbvq.1) fun b hb => List.getElem?_set_ne fun e => hbvq.2 (by rw [e]; exact hb)
   have hrowB : RowM ((G2.set (bs.getD i 0) (some ⟨h1', c1'⟩)).set bv (some ⟨gv, cv'⟩)) vv bv (v2.set i (ent R2 i i % v2.getD i 0)) := b5.same (by rw [List.getElem?_set_self (by rw [List.length_set]; exact look_lt b2), List.getElem?_set_self (look_lt b2)])
   have hkB : ∀ b, b < H.length → b ∉ bs → b ≠ bv → ((G2.set (bs.getD i 0) (some ⟨h1', c1'⟩)).set bv (some ⟨gv, cv'⟩))[b]? = H[b]? := fun b x1 x2 x3 => by
    rw [List.getElem?_set_ne (Ne.symm x3), List.getElem?_set_ne (fun e => x2 (by rw [← e]; exact hbi))]
    exact hkeep b x1 x2 x3
   have k0B : Zz.look ((G2.set (bs.getD i 0) (some ⟨h1', c1'⟩)).set bv (some ⟨gv, cv'⟩)) N 0 = some [.int .i64 d, rv] := (look_of_get (by rw [List.getElem?_set_ne (by omega), List.getElem?_set_ne (by omega)])).trans k0
   have hlenB : N + 1 ≤ ((G2.set (bs.getD i 0) (some ⟨h1', c1'⟩)).set bv (some ⟨gv, cv'⟩)).length := by rw [List.length_set, List.length_set]; exact hGl
   have hlb3 : LB (setE R2 i i (v2.getD i 0)) n d := hlb.setE hin hin ⟨by omega, hpd⟩ fun _ => by omega
   have hvb3 : VC (v2.set i (ent R2 i i % v2.getD i 0)) n := hvb.set hin ⟨by omega, by omega⟩
   obtain ⟨WT1, hsT⟩ : ∃ W, addT n R2 v2 d i = W := ⟨_, rfl⟩
   rw [hsT] at hst t1 t2 t3 t4
   have hsT' := hsT
   unfold addT at hsT
   repeat' (first | (refine WO.opE (by intro; simp (disch := omega) only [go_sem, b1, b2, b3, d1, d2, d3, hz2, if_false, htd, hmod]; rfl) (by simp only [pt8, pt0, pt1, pt2, pt3, pt4, pt5, pt6, pt7]; rfl) ?_) | (refine WO.opN (by intro; simp (disch := omega) only [go_sem, b4, b2s, d2, d4]; rfl) ?_) | (refine WC.seq ?_) | (refine WC.region ?_) | (refine WO.nil ?_) | (simp only [fl1]) | (refine WC.calm rfl ?_) | (refine WC.yes rfl ?_) | (refine WC.skip ?_) | (refine WC.block ?_))
   generalize hqq : ent R2 i i / v2.getD i 0 = qq at *
   refine WC.loopI (fun m2 s => ∃ T G j, s = ⟨T, G, L⟩ ∧ T.length = 99 ∧ gt T 1 = vv ∧ gt T 2 = .pref N 0 0 ∧ gt T 4 = .int .i64 (i : Nat) ∧ gt T 5 = x ∧ gt T 6 = .int .i64 qq ∧ gt T 7 = .int .i64 (j : Nat) ∧ gt T 10 = .int .i64 (n : Nat) ∧ gt T 11 = .int .i64 (i : Nat) ∧ m2 + j = n ∧ i + 1 ≤ j ∧ N + 1 ≤ G.length ∧ Zz.look G N 0 = some [.int .i64 d, rv] ∧ LatM G rv q xs bs (addJ (setE R2 i i (v2.getD i 0)) (v2.set i (ent R2 i i % v2.getD i 0)) i qq d (j - (i + 1))).1 ∧ RowM G vv bv (addJ (setE R2 i i (v2.getD i 0)) (v2.set i (ent R2 i i % v2.getD i 0)) i qq d (j - (i + 1))).2 ∧ ∀ b, b < H.length → b ∉ bs → b ≠ bv → G[b]? = H[b]?) ?_ (n - (i + 1)) _ ⟨_, (G2.set (bs.getD i 0) (some ⟨h1', c1'⟩)).set bv (some ⟨gv, cv'⟩), i + 1, rfl, rfl, rfl, rfl, rfl, rfl, rfl, rfl, rfl, rfl, by omega, Nat.le_refl _, hlenB, k0B, by rw [Nat.sub_self]; exact hlatB, by rw [Nat.sub_self]; exact hrowB, hkB⟩
   generalize setE R2 i i (v2.getD i 0) = R3 at *
   generalize v2.set i (ent R2 i i % v2.getD i 0) = v3 at *
   clear g1 g2 g4 g5 g10 g11 f b1 b2 b3 b4 b5 b6 b7 b2s d1 d2 d3 d4 d5 d6 d7 ai1 ai2 ai3 hRi hl hv hkeep k0 hlatA hlatB hrowB hkB k0B hlenB
   rintro m2 _ ⟨T, G4, j, rfl, hT, g1, g2, g4, g5, g6, g7, g10, g11, hm2, hij, hGl, k0, hl, hv, hkeep⟩
   obtain ⟨f, rfl⟩ := ex99 hT
   clear hT
   replace g1 : f 1 = vv := g1
   replace g2 : f 2 = .pref N 0 0 := g2
   replace g4 : f 4 = .int .i64 (i : Nat) := g4
   replace g5 : f 5 = x := g5
   replace g6 : f 6 = .int .i64 qq := g6
   replace g7 : f 7 = .int .i64 (j : Nat) := g7
   replace g10 : f 10 = .int .i64 (n : Nat) := g10
   replace g11 : f 11 = .int .i64 (i : Nat) := g11
   simp only [g1, g2, g4, g5, g6, g7, g10, g11]
   obtain ⟨hlbj, hvbj, _⟩ := LB.addJ (i := i) (q := qq) hd hd9 (t := j - (i + 1)) hlb3 hvb3 (by omega)
   by_cases hjn : j < n
   ·have hJs : addJ R3 v3 i qq d (j + 1 - (i + 1)) = (setE (addJ R3 v3 i qq d (j - (i + 1))).1 i j ((addJ R3 v3 i qq d (j - (i + 1))).2.getD j 0 % d), (addJ R3 v3 i qq d (j - (i + 1))).2.set j ((ent (addJ R3 v3 i qq d (j - (i + 1))).1 i j - qq * ((addJ R3 v3 i qq d (j - (i + 1))).2.getD j 0 % d)) % d)) := by
     have e : j + 1 - (i + 1) = (j - (i + 1)) + 1 := by omega
     have e2 : i + 1 + (j - (i + 1)) = j := by omega
     rw [e, addJ, e2]
    generalize addJ R3 v3 i qq d (j - (i + 1)) = S4 at *
    obtain ⟨R4, v4⟩ := S4
    simp only at hl hv hlbj hvbj hJs
    have hel4 := hlbj.el i j hin hjn
    have hvj := hvbj.2 j hjn
    have hz4 := emod_in (x := v4.getD j 0) hd
    obtain ⟨gi, ai1, ai2, ai3, hRi⟩ := hl.at (i := i) (by have := hlbj.len; omega)
    rw [hxe] at hRi
    have hxj := hRi.len
    rw [hlbj.row i hin] at hxj
    obtain ⟨h1', o1, c1, c1', d1, d2, d3, d4, d5, d6, d7⟩ := hRi.wr (i := j) (by have := hlbj.row i hin; omega) (v4.getD j 0 % d)
    obtain ⟨gv, ov, cv, cv', b1, b2, b3, b4, b5, b6, b7⟩ := hv.wr (i := j) (by have := hvbj.1; omega) ((ent R4 i j - qq * (v4.getD j 0 % d)) % d)
    have ea : (R4.getD i []).getD j 0 = ent R4 i j := rfl
    rw [ea] at d3
    have hqp : 0 ≤ qq * (v4.getD j 0 % d) := Int.mul_nonneg hq1 hz4.1
    have hqp2 : qq * (v4.getD j 0 % d) ≤ 1000000000 * 1000000000 := Int.mul_le_mul (by omega) (by omega) hz4.1 (by omega)
    have c1s := fun m => s132 (m := m) (r := rv) (d := d) (x := v4.getD j 0) hd (by omega) ⟨by omega, by omega⟩
    have c2s := fun m => s132 (m := m) (r := rv) (d := d) (x := ent R4 i j - qq * (v4.getD j 0 % d)) hd (by omega) ⟨by omega, by omega⟩
    have b2s : ∀ W : Option Blk, Zz.look (G4.set (bs.getD i 0) W) bv gv = some cv := fun W => (look_of_get (List.getElem?_set_ne hbiv)).trans b2
    have hlatA := hl.put (i := i) (by have := hlbj.len; omega) (B := some ⟨h1', c1'⟩) (r := (R4.getD i []).set j (v4.getD j 0 % d)) (by rw [hxe]; exact d5)
    have hlatB : LatM ((G4.set (bs.getD i 0) (some ⟨h1', c1'⟩)).set bv (some ⟨gv, cv'⟩)) rv q xs bs (setE R4 i j (v4.getD j 0 % d)) := hlatA.keep (List.getElem?_set_ne hbvq.1) fun b hb => List.getElem?_set_ne fun e => hbvq.2 (by rw [e]; exact hb)
    have hrowB : RowM ((G4.set (bs.getD i 0) (some ⟨h1', c1'⟩)).set bv (some ⟨gv, cv'⟩)) vv bv (v4.set j ((ent R4 i j - qq * (v4.getD j 0 % d)) % d)) := b5.same (by rw [List.getElem?_set_self (by rw [List.length_set]; exact look_lt b2), List.getElem?_set_self (look_lt b2)])
    have hkB : ∀ b, b < H.length → b ∉ bs → b ≠ bv → ((G4.set (bs.getD i 0) (some ⟨h1', c1'⟩)).set bv (some ⟨gv, cv'⟩))[b]? = H[b]? := fun b x1 x2 x3 => by
     rw [List.getElem?_set_ne (Ne.symm x3), List.getElem?_set_ne (fun e => x2 (by rw [← e]; exact hbi))]
     exact hkeep b x1 x2 x3
    have k0B : Zz.look ((G4.set (bs.getD i 0) (some ⟨h1', c1'⟩)).set bv (some ⟨gv, cv'⟩)) N 0 = some [.int .i64 d, rv] := (look_of_get (by rw [List.getElem?_set_ne (by omega), List.getElem?_set_ne (by omega)])).trans k0
    have hlenB : N + 1 ≤ ((G4.set (bs.getD i 0) (some ⟨h1', c1'⟩)).set bv (some ⟨gv, cv'⟩)).length := by rw [List.length_set, List.length_set]; exact hGl
    repeat' (first | (refine WO.opE (by intro; simp (disch := omega) only [go_sem]; rfl) (by simp only [pt8, pt1, pt2, pt4, pt5, pt6, pt7]; rfl) ?_) | (refine WO.opE (by intro; exact ev_lenS (by simp only [go_sem]; first | rfl | assumption)) (by simp only [pt8, pt3]; rfl) ?_) | (refine WT.spec rfl h58 (fun V => c1s _) (by simp only [pt8, pt0, pt4]; rfl) ?_) | (refine WT.spec rfl h58 (fun V => c2s _) (by simp only [pt8, pt7]; rfl) ?_) | (refine WC.seq ?_) | (refine WC.region ?_) | (refine WO.nil ?_) | (simp only [fl1, fl4, fl10]) | (refine WC.drawT ?_) | (refine WT.nil ?_) | (refine WT.free rfl (by intro; simp (disch := omega) only [go_sem, k0, b1, b2, b3, d1, d2, d3]; rfl) rfl (by simp only [pt8, pt0, pt1, pt2, pt3, pt4, pt5, pt6, pt7]; rfl) ?_) | (refine WT.big rfl rfl (by intro; simp (disch := omega) only [go_sem, k0, b2, b3, d2, d3]; rfl) (by simp (disch := omega) only [go_sem, touch]; rfl) (by first | exact .inl rfl | exact .inr (apart_nil _) | exact .inr trivial | (right; apply apart_mk; simp only [apartL, zNA, zCA, List.getElem?_cons_succ, List.getElem?_cons_zero, Tch.free, and_true, true_and]; first | done | omega)) (by simp only [pt8, pt1, pt3, pt5, pt7]; rfl) ?_) | (refine WT.bigN rfl rfl (by intro; simp (disch := omega) only [go_sem, b4, b2s, d2, d4]; rfl) (by simp (disch := omega) only [go_sem, touch]; rfl) (by first | exact .inl rfl | exact .inr (apart_nil _) | exact .inr trivial | (right; apply apart_mk; simp only [apartL, zNA, zCA, List.getElem?_cons_succ, List.getElem?_cons_zero, Tch.free, and_true, true_and]; first | done | omega)) ?_) | (refine WC.skip ?_) | (refine WC.block ?_) | (refine WC.em2 rfl (fun hp => ?_) (fun hp => ?_) <;> try (exfalso; first | omega | contradiction)))
    exact ⟨m2 - 1, by omega, _, (G4.set (bs.getD i 0) (some ⟨h1', c1'⟩)).set bv (some ⟨gv, cv'⟩), j + 1, rfl, rfl, rfl, rfl, rfl, rfl, rfl, rfl, rfl, rfl, by omega, by omega, hlenB, k0B, by rw [hJs]; exact hlatB, by rw [hJs]; exact hrowB, hkB⟩
   ·have hje : j = n := by omega
    subst hje
    rw [hsT] at hl hv
    have hxj := hx
    repeat' (first | (refine WO.opE (by intro; simp (disch := omega) only [go_sem]; rfl) (by simp only [pt8, pt1, pt2, pt4]; rfl) ?_) | (refine WO.opE (by intro; exact ev_lenS (by simp only [go_sem]; first | rfl | assumption)) (by simp only [pt8, pt3]; rfl) ?_) | (refine WC.seq ?_) | (refine WC.region ?_) | (refine WO.nil ?_) | (simp only [fl1, fl3, fl4, fl6, fl9, fl10]) | (refine WC.exit ?_) | (refine WC.em2 rfl (fun hp => ?_) (fun hp => ?_) <;> try (exfalso; first | omega | contradiction)))
    exact ⟨_, by omega, _, G4, WT1.1, WT1.2, rfl, rfl, rfl, rfl, rfl, rfl, rfl, rfl, rfl, t3, by omega, hGl, k0, hl, hv, t1, t2, by rw [← hst]; exact hW, hkeep⟩
 ·have hie : i = n := by omega
  subst hie
  repeat' (first | (refine WO.opE (by intro; simp (disch := omega) only [go_sem]; rfl) (by simp only [pt8, pt4]; rfl) ?_) | (refine WC.seq ?_) | (refine WC.region ?_) | (refine WO.nil ?_) | (simp only [fl3, fl6, fl9]) | (refine WC.exit ?_) | (refine WC.em2 rfl (fun hp => ?_) (fun hp => ?_) <;> try (exfalso; first | omega | contradiction)))
  exact ⟨_, rfl, G, rfl, hl, hv, by omega, hkeep⟩
end Go.Proofs.Ytnilimjkibimcaa

