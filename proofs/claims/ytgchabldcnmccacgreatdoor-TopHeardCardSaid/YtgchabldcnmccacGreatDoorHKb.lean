import Derived.Test.YtgchabldcnmccacGreatDoorHKa

set_option linter.unusedSimpArgs false
set_option linter.unusedVariables false

namespace Go.Proofs.YtgchabldcnmccacGreatDoor
open Go.Zz
set_option maxRecDepth 100000
set_option maxHeartbeats 8000000
def Pm.cells (p : Pm) : List AV := [.int .i64 p.d, .int .i64 p.b, .int .i64 p.w, .int .i64 p.v.s, .int .i64 p.v.c, .int .i64 p.v.n, .int .i64 p.v.d]
def PmL (x : AV) (ps : List Pm) : Prop := SL 7 x (ps.map Pm.cells)
theorem PmL.len {x : AV} {ps : List Pm} (h : PmL x ps) : slen x = some ps.length := by
 have := SL.len h
 rwa [List.length_map] at this
def ptail (ps : List Pm) (i : Nat) : List AV := ((ps.map Pm.cells).drop (i + 1)).flatten
def pnth (ps : List Pm) (i : Nat) : Pm := ps.getD i default
theorem PmL.at {x : AV} {ps : List Pm} (h : PmL x ps) {i : Nat} (hi : i < ps.length) : indexAddrAV 7 x (.int .i64 (i : Int)) = some (.pval (.int .i64 (pnth ps i).d :: .int .i64 (pnth ps i).b :: .int .i64 (pnth ps i).w :: .int .i64 (pnth ps i).v.s :: .int .i64 (pnth ps i).v.c :: .int .i64 (pnth ps i).v.n :: .int .i64 (pnth ps i).v.d :: ptail ps i)) := by
 have := SL.at h (i := i) (by simpa using hi)
 have e : pnth ps i = ps[i] := by simp [pnth, hi]
 rw [e]
 simpa [Pm.cells, ptail] using this
theorem cut7 {x0 x1 x2 x3 x4 x5 x6 : AV} {l : List AV} : cut (x0 :: x1 :: x2 :: x3 :: x4 :: x5 :: x6 :: l) 0 7 = some [x0, x1, x2, x3, x4, x5, x6] := by simp [cut]
theorem over7 {y0 y1 y2 y3 y4 y5 y6 x0 x1 x2 x3 x4 x5 x6 : AV} : over [y0, y1, y2, y3, y4, y5, y6] 0 [x0, x1, x2, x3, x4, x5, x6] = some [x0, x1, x2, x3, x4, x5, x6] := by simp [over]
theorem cut4b {x0 x1 x2 x3 x4 x5 x6 : AV} {l : List AV} : cut (x0 :: x1 :: x2 :: x3 :: x4 :: x5 :: x6 :: l) 3 4 = some [x3, x4, x5, x6] := by simp [cut]
theorem cut4c {x0 x1 x2 x3 : AV} {l : List AV} : cut (x0 :: x1 :: x2 :: x3 :: l) 0 4 = some [x0, x1, x2, x3] := by simp [cut]
theorem mkeys_two2 {kd : IntKind} {a b : AV} {r : List AV} (h : mkeys (.int kd) (a :: b :: r) = true) : ∃ k, a = .int kd k ∧ mkeys (.int kd) r = true := by
 obtain ⟨h1, h2⟩ := mkeys_two h
 cases a <;> simp [KK.of] at h1
 subst h1
 exact ⟨_, rfl, h2⟩
theorem mkeys_put {kd : IntKind} {n : Int} {v : AV} : ∀ {es : List AV}, mkeys (.int kd) es = true → mkeys (.int kd) (mput (.int kd n) v es) = true
 | [], _ => by simp [mput, mkeys, KK.of]
 | [a], h => by cases a <;> simp [mkeys] at h
 | a :: b :: r, h => by
  obtain ⟨k, rfl, h2⟩ := mkeys_two2 h
  by_cases e : n = k
  ·simp [mput, keyEq, e, mkeys, KK.of, h2]
  ·simp [mput, keyEq, e, mkeys, KK.of, mkeys_put h2]
theorem mput_le {kd : IntKind} {n : Int} {v : AV} : ∀ {es : List AV}, mkeys (.int kd) es = true → (mput (.int kd n) v es).length ≤ es.length + 2
 | [], _ => by simp [mput]
 | [a], h => by cases a <;> simp [mkeys] at h
 | a :: b :: r, h => by
  obtain ⟨k, rfl, h2⟩ := mkeys_two2 h
  by_cases e : n = k
  ·simp [mput, keyEq, e]
  ·have := mput_le (n := n) (v := v) h2
   simp only [mput, keyEq, e, decide_false, Bool.false_eq_true, if_false, List.length_cons]
   omega
def dks (b : Int) : List Pm → List AV → List AV
 | [], es => es
 | p :: r, es => dks b r (if p.b = b then mput (.int .i64 p.d) (.bool true) es else es)
def dcnt (b : Int) (ps : List Pm) : Int := ((dks b ps []).length / 2 : Nat)
theorem dks_keys {b : Int} : ∀ {ps : List Pm} {es : List AV}, mkeys (.int .i64) es = true → mkeys (.int .i64) (dks b ps es) = true
 | [], _, h => h
 | p :: r, es, h => by
  unfold dks
  split
  ·exact dks_keys (mkeys_put h)
  ·exact dks_keys h
theorem dks_step {b : Int} : ∀ {ps : List Pm} {i : Nat} {es : List AV}, i < ps.length → dks b (ps.take (i + 1)) es = if (pnth ps i).b = b then mput (.int .i64 (pnth ps i).d) (.bool true) (dks b (ps.take i) es) else dks b (ps.take i) es
 | [], _, _, h => by simp at h
 | p :: r, 0, es, _ => by simp [dks, pnth]
 | p :: r, i + 1, es, h => by
  simp only [List.take_succ_cons, dks]
  have := dks_step (b := b) (ps := r) (i := i) (es := if p.b = b then mput (.int .i64 p.d) (.bool true) es else es) (by simpa using h)
  rw [this]
  simp [pnth]
theorem f56 {H : Hp} {L : List (Option ALoop)} {mb k : Nat} {d : Int} {es : List AV} (hk : Zz.look H mb 0 = some [.mref k]) (hm : L[k]? = some (some (mapObj es))) (hs : mkeys (.int .i64) es = true) :
  WF E8 (.func 80 [] [.pref mb 0 0]) [.int .i64 d] ⟨H, L⟩ fun y m' => m' = ⟨H, L.set k (some (mapObj (mput (.int .i64 d) (.bool true) es)))⟩ := by
 refine WF.fnE rfl (fn_of Tryz.func80 cir80) (by show 2 ≤ 5; decide) ?_
 unfold ir80; dsimp only [k0, kI, mV, oO, oG]
 simp only [padTo, List.replicate, List.nil_append, List.cons_append]
 repeat' (first | (refine WO.opE (by intro; simp (disch := omega) only [go_sem, hk]; rfl) (by simp only [pt3, pt4]; rfl) ?_) | (refine WO.opN (by intro; exact ev_mapSet rfl rfl rfl (hm) (hs)) ?_) | (refine WC.region ?_) | (refine WO.nil ?_) | (simp only [fl1]))
 exact ⟨_, rfl, rfl⟩
theorem f49 {H : Hp} {L : List (Option ALoop)} {mb pb bb k : Nat} {x : AV} {ps : List Pm} {b : Int} (hx : PmL x ps) (hk : Zz.look H mb 0 = some [.mref k]) (hp : Zz.look H pb 0 = some [x]) (hb : Zz.look H bb 0 = some [.int .i64 b]) (hlen : (ps.length : Int) ≤ 1000000)
  (hm : L[k]? = some (some (mapObj []))) :
  WF E8 (.func 88 [] [.pref pb 0 0, .pref bb 0 0]) [.func 80 [] [.pref mb 0 0]] ⟨H, L⟩ fun y m' => ∃ X, m' = ⟨H ++ X, L.set k (some (mapObj (dks b ps [])))⟩ := by
 have hkl : k < L.length := (List.getElem?_eq_some_iff.1 hm).1
 refine WF.fnE rfl (fn_of Tryz.func88 cir88) (by show 3 ≤ 21; decide) ?_
 unfold ir88; dsimp only [k0, kI, mV, oO, oG]
 simp only [padTo, List.replicate, List.nil_append, List.cons_append]
 repeat' (first | (refine WO.opE (by intro; simp (disch := omega) only [go_sem, hp]; rfl) (by simp only [pt8, pt0, pt6]; rfl) ?_) | (refine WO.opE (by intro; exact ev_lenS (by simp only [go_sem]; exact hx.len)) (by simp only [pt7]; rfl) ?_) | (refine WC.seq ?_) | (refine WC.region ?_) | (refine WO.nil ?_) | (simp only [fl1]) | (refine WC.block ?_))
 have hL0 : L.set k (some (mapObj (dks b (ps.take 0) []))) = L := by
  apply List.ext_getElem?
  intro j
  rw [List.getElem?_set]
  split
  ·rename_i e; subst e; rw [hm]; rfl
  ·rfl
 refine WC.loopI (fun m s => ∃ T i X, s = ⟨T, H ++ X, L.set k (some (mapObj (dks b (ps.take i) [])))⟩ ∧ T.length = 21 ∧ gt T 0 = .func 80 [] [.pref mb 0 0] ∧ gt T 1 = .pref pb 0 0 ∧ gt T 2 = .pref bb 0 0 ∧ gt T 6 = x ∧ gt T 7 = .int .i64 (ps.length : Nat) ∧ gt T 8 = .int .i64 (i : Nat) ∧ m + i = ps.length) ?_ ps.length _ ⟨_, 0, [], by rw [hL0, List.append_nil], rfl, rfl, rfl, rfl, rfl, rfl, rfl, by omega⟩
 rintro m _ ⟨T, i, X, rfl, hT, g0, g1, g2, g6, g7, g8, hml⟩
 obtain ⟨f, rfl⟩ := ex21 hT
 clear hT
 replace g0 : f 0 = .func 80 [] [.pref mb 0 0] := g0
 replace g1 : f 1 = .pref pb 0 0 := g1
 replace g2 : f 2 = .pref bb 0 0 := g2
 replace g6 : f 6 = x := g6
 replace g7 : f 7 = .int .i64 (ps.length : Nat) := g7
 replace g8 : f 8 = .int .i64 (i : Nat) := g8
 simp only [g0, g1, g2, g6, g7, g8]
 by_cases hi : i < ps.length
 ·have hat := hx.at hi
  have hb' : Zz.look (H ++ X) bb 0 = some [.int .i64 b] := by rw [look_left (look_lt hb)]; exact hb
  have hst := dks_step (b := b) (es := []) hi
  generalize hpn : pnth ps i = p at *
  have hk' : Zz.look (H ++ X) mb 0 = some [.mref k] := by rw [look_left (look_lt hk)]; exact hk
  have hXl : (H ++ X).length = H.length + X.length := by simp
  generalize hA : H ++ X = A at *
  have hb2 : ∀ R, Zz.look (A ++ R) bb 0 = some [.int .i64 b] := fun R => by rw [look_left (look_lt hb')]; exact hb'
  have hk2 : ∀ R, Zz.look (A ++ R) mb 0 = some [.mref k] := fun R => by rw [look_left (look_lt hk')]; exact hk'
  repeat' (first | (refine WO.opE (by intro; simp (disch := omega) only [go_sem, cut7, hat, hb2, lk0]; rfl) (by simp only [pt8, pt0, pt1, pt2, pt3, pt4, pt5, pt6, pt7]; rfl) ?_) | (refine WO.opN (by intro; simp (disch := omega) only [go_sem, over7, Option.bind_eq_bind, Nat.reduceAdd, lk0, st0, setBlk]; rfl) ?_) | (refine WC.seq ?_) | (refine WC.region ?_) | (refine WO.nil ?_) | (simp only [fl1, fl4, fl10]) | (refine WC.skip ?_) | (refine WC.block ?_) | (refine WC.em2 rfl (fun hp => ?_) (fun hp => ?_) <;> try (exfalso; first | omega | contradiction)))
  ·rename_i hp
   rw [if_pos hp] at hst
   refine WO.call rfl rfl ((f56 (hk2 _) (by rw [List.getElem?_set_self hkl]) (dks_keys rfl)).mono ?_)
   rintro y _ rfl
   simp only [pt8, pt3, List.set_set]
   rw [← hst]
   repeat' (first | (refine WO.opE (by intro; simp (disch := omega) only [go_sem]; rfl) (by simp only [pt8, pt0, pt4]; rfl) ?_) | (refine WC.region ?_) | (refine WO.nil ?_) | (simp only [fl10]))
   exact ⟨m - 1, by omega, _, i + 1, X ++ [_], by rw [← List.append_assoc, hA], rfl, rfl, rfl, rfl, rfl, rfl, rfl, by omega⟩
  ·rename_i hp
   rw [if_neg hp] at hst
   rw [← hst]
   exact ⟨m - 1, by omega, _, i + 1, X ++ [_], by rw [← List.append_assoc, hA], rfl, rfl, rfl, rfl, rfl, rfl, rfl, by omega⟩
 ·have hie : i = ps.length := by omega
  subst hie
  rw [List.take_length]
  repeat' (first | (refine WO.opE (by intro; simp (disch := omega) only [go_sem]; rfl) (by simp only [pt8, pt1]; rfl) ?_) | (refine WC.seq ?_) | (refine WC.region ?_) | (refine WO.nil ?_) | (simp only [fl3, fl6, fl9]) | (refine WC.exit ?_) | (refine WC.em2 rfl (fun hp => ?_) (fun hp => ?_) <;> try (exfalso; first | omega | contradiction)))
  exact ⟨_, rfl, X, rfl⟩
theorem f48 {H : Hp} {L : List (Option ALoop)} {pb bb : Nat} {x : AV} {ps : List Pm} {b n : Int} (hx : PmL x ps) (hp : Zz.look H pb 0 = some [x]) (hb : Zz.look H bb 0 = some [.int .i64 b]) (hlen : (ps.length : Int) ≤ 1000000) :
  WF E8 (.func 59 [] []) [.int .i64 n, .func 88 [] [.pref pb 0 0, .pref bb 0 0]] ⟨H, L⟩ fun y m' => y = .bool (decide (n < 2 * dcnt b ps)) ∧ ∃ X Y, m' = ⟨H ++ X, L ++ Y⟩ := by
 have hlk : (dks b ps []).length ≤ 2 * ps.length := by
  have key : ∀ (ps : List Pm) (es : List AV), mkeys (.int .i64) es = true → (dks b ps es).length ≤ es.length + 2 * ps.length := by
   intro ps
   induction ps with
   | nil => intro es _; simp [dks]
   | cons p r ih =>
    intro es he
    unfold dks
    split
    ·have h1 := ih _ (mkeys_put (n := p.d) (v := .bool true) he)
     have h2 := mput_le he (n := p.d) (v := .bool true)
     simp only [List.length_cons]
     omega
    ·have := ih _ he
     simp only [List.length_cons]
     omega
  simpa using key ps [] rfl
 have hc0 : 0 ≤ dcnt b ps ∧ dcnt b ps ≤ 1000000 := by unfold dcnt; omega
 refine WF.fnE rfl (fn_of Tryz.func59 cir59) (by show 2 ≤ 15; decide) ?_
 unfold ir59; dsimp only [k0, kI, mV, oO, oG]
 simp only [padTo, List.replicate, List.nil_append, List.append_nil]
 repeat' (first | (refine WO.opE (by intro; simp (disch := omega) only [go_sem]; rfl) (by simp only [pt8, pt0, pt4, pt5, pt6, pt7]; rfl) ?_) | (refine WO.opN (by intro; simp (disch := omega) only [go_sem, ov_one0, Option.bind_eq_bind, lk0, st0, setBlk]; rfl) ?_) | (refine WC.seq ?_) | (refine WC.region ?_) | (refine WO.nil ?_) | (simp only [fl1]))
 refine WO.call rfl rfl ((f49 (k := L.length) hx (lk0 rfl) (by rw [look_left (look_lt hp)]; exact hp) (by rw [look_left (look_lt hb)]; exact hb) hlen (by simp)).mono ?_)
 rintro y _ ⟨X, rfl⟩
 have hset : (L ++ [some (mapObj [])]).set L.length (some (mapObj (dks b ps []))) = L ++ [some (mapObj (dks b ps []))] := by simp
 simp only [pt8, pt1, hset]
 have hlm : (L ++ [some (mapObj (dks b ps []))])[L.length]? = some (some (mapObj (dks b ps []))) := by simp
 have hdc : (((dks b ps []).length / 2 : Nat) : Int) = dcnt b ps := rfl
 repeat' (first | (refine WO.opE (by intro; simp (disch := omega) only [go_sem, lk0, hdc, List.append_assoc, List.singleton_append]; rfl) (by simp only [pt8, pt2, pt4, pt5, pt6]; rfl) ?_) | (refine WO.opE (by intro; exact ev_lenM rfl (hlm)) (by simp only [pt8, pt3]; rfl) ?_) | (refine WC.seq ?_) | (refine WC.region ?_) | (refine WO.nil ?_) | (simp only [fl1]) | (refine WC.ret ?_))
 exact ⟨_, rfl, rfl, _, _, rfl⟩
section
variable {a b c d x y : Option Blk} {l : List AV} {g : Nat} {X Y Z : Hp}
theorem lc0 : Zz.look (some ⟨g, l⟩ :: Y) 0 g = some l := by simp [Zz.look]
theorem lc1 : Zz.look (a :: some ⟨g, l⟩ :: Y) 1 g = some l := by simp [Zz.look]
theorem lc2 : Zz.look (a :: b :: some ⟨g, l⟩ :: Y) 2 g = some l := by simp [Zz.look]
theorem lc3 : Zz.look (a :: b :: c :: some ⟨g, l⟩ :: Y) 3 g = some l := by simp [Zz.look]
theorem lc4X : Zz.look (a :: b :: c :: d :: (X ++ some ⟨g, l⟩ :: Z)) (X.length + 1 + 1 + 1 + 1) g = some l := by simp [Zz.look]
end
def PmOk (n b : Int) (p : Pm) : Prop := DkOk p.d n ∧ BlOk p.b ∧ 0 ≤ p.w ∧ p.w < p.b ∧ VtOk p.w p.v
instance (n b : Int) (p : Pm) : Decidable (PmOk n b p) := inferInstanceAs (Decidable (_ ∧ _))
def scan (n b : Int) : List Pm → Int → Tk → Option Tk
 | [], _, own => some own
 | p :: r, last, own => if PmOk n b p then (if p.b = b ∧ last < p.w then scan n b r p.w p.v else scan n b r last own) else none
def chs (n b : Int) (ps : List Pm) (own : Tk) : Tk × Int :=
 if 1 ≤ n ∧ n ≤ 8 ∧ BlOk b ∧ TkOk own then (match scan n b ps 0 own with | none => (tk0, 1) | some v => if n < 2 * dcnt b ps then (v, 0) else (tk0, 25)) else (tk0, 1)
theorem scan_drop {n b : Int} {ps : List Pm} {i : Nat} (h : i < ps.length) {last : Int} {own : Tk} : scan n b (ps.drop i) last own = if PmOk n b (pnth ps i) then (if (pnth ps i).b = b ∧ last < (pnth ps i).w then scan n b (ps.drop (i + 1)) (pnth ps i).w (pnth ps i).v else scan n b (ps.drop (i + 1)) last own) else none := by
 rw [List.drop_eq_getElem_cons h]
 have e : pnth ps i = ps[i] := by simp [pnth, h]
 rw [e]
 rfl
theorem f35 {n b : Int} {x : AV} {ps : List Pm} {own : Tk} (hx : PmL x ps) (hlen : (ps.length : Int) ≤ 1000000) :
  WF E8 (.func 69 [] []) [.int .i64 n, .int .i64 b, x, .agg [.int .i64 own.s, .int .i64 own.c, .int .i64 own.n, .int .i64 own.d]] ⟨[], []⟩ fun y m' => y = .tuple [.agg [.int .i64 (chs n b ps own).1.s, .int .i64 (chs n b ps own).1.c, .int .i64 (chs n b ps own).1.n, .int .i64 (chs n b ps own).1.d], .int .i64 (chs n b ps own).2] := by
 have hcx := SL.cells hx
 unfold AV.cells at hcx
 have bad : ¬ (1 ≤ n ∧ n ≤ 8 ∧ BlOk b ∧ TkOk own) → chs n b ps own = (tk0, 1) := fun h => by unfold chs; rw [if_neg h]
 by_cases hg : 1 ≤ n ∧ n ≤ 8 ∧ BlOk b ∧ TkOk own
 ·obtain ⟨g1, g2, g3, g4⟩ := hg
  have hch : chs n b ps own = (match scan n b (ps.drop 0) 0 own with | none => (tk0, 1) | some v => if n < 2 * dcnt b ps then (v, 0) else (tk0, 25)) := by unfold chs; rw [if_pos ⟨g1, g2, g3, g4⟩, List.drop_zero]
  rw [hch]
  clear hch bad
  refine WF.fnE rfl (fn_of Tryz.func69 cir69) (by show 4 ≤ 91; decide) ?_
  unfold ir69; dsimp only [k0, kI, mV, oO, oG]
  simp only [padTo, List.replicate, List.nil_append, List.append_nil]
  repeat' (first | (refine WO.yes rfl ?_) | (refine WO.opE (by intro; simp (disch := omega) only [go_sem, cut4c, Zz.look, Nat.reduceAdd, hcx]; rfl) (by simp only [pt8, pt0, pt1, pt2, pt3, pt4, pt5, pt6, pt7]; rfl) ?_) | (refine WO.specE rfl rfl (s11) (by simp only [pt8, pt6]; rfl) ?_) | (refine WO.specE rfl rfl (s23) (by simp only [pt8, pt3]; rfl) ?_) | (refine WO.opE (by intro; exact ev_lenS (by simp only [go_sem]; exact hx.len)) (by simp only [pt8, pt0]; rfl) ?_) | (refine WC.seq ?_) | (refine WC.region ?_) | (refine WO.nil ?_) | (simp only [fl1]) | (refine WC.skip ?_) | (refine WC.block ?_) | (refine WO.em2 rfl (by intro hp; simp only [hp, decide_true]; rfl) (by intro hp; simp only [hp, decide_false]; rfl) (fun hp => ?_) (fun hp => ?_) <;> try (exfalso; first | omega | contradiction)) | (refine WC.em2 rfl (fun hp => ?_) (fun hp => ?_) <;> try (exfalso; first | omega | contradiction)))
  refine WC.loopI (fun m s => ∃ T i X last v, s = ⟨T, some ⟨0, [.int .i64 b]⟩ :: some ⟨0, [x]⟩ :: some ⟨0, [.int .i64 v.s, .int .i64 v.c, .int .i64 v.n, .int .i64 v.d]⟩ :: some ⟨0, [.int .i64 0, .int .i64 0, .int .i64 0, .int .i64 0]⟩ :: X, []⟩ ∧ T.length = 91 ∧ gt T 0 = .int .i64 n ∧ gt T 5 = .pref 0 0 0 ∧ gt T 6 = .pref 1 0 0 ∧ gt T 7 = .pref 2 0 0 ∧ gt T 8 = .pref 3 0 0 ∧ gt T 9 = .int .i64 0 ∧ gt T 10 = .int .i64 last ∧ gt T 31 = x ∧ gt T 32 = .int .i64 (ps.length : Nat) ∧ gt T 33 = .int .i64 (i : Nat) ∧ m + i = ps.length ∧ scan n b (ps.drop 0) 0 own = scan n b (ps.drop i) last v) ?_ ps.length _ ⟨_, 0, [], 0, own, rfl, rfl, rfl, rfl, rfl, rfl, rfl, rfl, rfl, rfl, rfl, rfl, by omega, rfl⟩
  rintro m _ ⟨T, i, X, last, v, rfl, hT, g0, g5, g6, g7, g8, g9, g10, g31, g32, g33, hml, hsc⟩
  obtain ⟨f, rfl⟩ := ex91 hT
  clear hT
  replace g0 : f 0 = .int .i64 n := g0
  replace g5 : f 5 = .pref 0 0 0 := g5
  replace g6 : f 6 = .pref 1 0 0 := g6
  replace g7 : f 7 = .pref 2 0 0 := g7
  replace g8 : f 8 = .pref 3 0 0 := g8
  replace g9 : f 9 = .int .i64 0 := g9
  replace g10 : f 10 = .int .i64 last := g10
  replace g31 : f 31 = x := g31
  replace g32 : f 32 = .int .i64 (ps.length : Nat) := g32
  replace g33 : f 33 = .int .i64 (i : Nat) := g33
  simp only [g0, g5, g6, g7, g8, g9, g10, g31, g32, g33]
  by_cases hi : i < ps.length
  ·have hat := hx.at hi
   have hst := scan_drop (n := n) (b := b) (last := last) (own := v) hi
   rw [hst] at hsc
   clear hst
   generalize hpn : pnth ps i = p at *
   by_cases hpo : PmOk n b p
   ·rw [if_pos hpo] at hsc
    obtain ⟨q1, q2, q3, q4, q5⟩ := hpo
    by_cases hup : p.b = b ∧ last < p.w
    ·rw [if_pos hup] at hsc
     obtain ⟨u1, u2⟩ := hup
     repeat' (first | (refine WO.yes rfl ?_) | (refine WO.opE (by intro; simp (disch := omega) only [go_sem, cut7, cut4b, hat, lc0, lc4X]; rfl) (by simp only [pt8, pt0, pt1, pt2, pt3, pt4, pt5, pt6, pt7]; rfl) ?_) | (refine WO.opN (by intro; simp (disch := omega) only [go_sem, ov_all4, over7, Option.bind_eq_bind, Nat.reduceAdd, lc2, lc4X, st0, List.set_cons_zero, List.set_cons_succ, setBlk]; rfl) ?_) | (refine WO.specE rfl rfl (s20) (by simp only [pt8, pt0]; rfl) ?_) | (refine WO.specE rfl rfl (s11) (by simp only [pt8, pt5]; rfl) ?_) | (refine WO.specE rfl rfl (s47) (by simp only [pt8, pt1]; rfl) ?_) | (refine WC.seq ?_) | (refine WC.region ?_) | (refine WO.nil ?_) | (simp only [fl1, fl10]) | (refine WC.calm rfl ?_) | (refine WC.skip ?_) | (refine WC.block ?_) | (refine WO.em2 rfl (by intro hp; simp only [hp, decide_true]; rfl) (by intro hp; simp only [hp, decide_false]; rfl) (fun hp => ?_) (fun hp => ?_) <;> try (exfalso; first | omega | contradiction)) | (refine WC.em2 rfl (fun hp => ?_) (fun hp => ?_) <;> try (exfalso; first | omega | contradiction)))
     exact ⟨m - 1, by omega, _, i + 1, X ++ [_], p.w, p.v, rfl, rfl, rfl, rfl, rfl, rfl, rfl, rfl, rfl, rfl, rfl, rfl, by omega, hsc⟩
    ·rw [if_neg hup] at hsc
     repeat' (first | (refine WO.yes rfl ?_) | (refine WO.noE rfl (by simp only [pt8, pt1, pt2, pt3, pt4, pt5, pt6]; rfl) ?_) | (refine WO.opE (by intro; simp (disch := omega) only [go_sem, cut7, cut4b, hat, lc0, lc4X]; rfl) (by simp only [pt8, pt0, pt1, pt2, pt3, pt4, pt5, pt6, pt7]; rfl) ?_) | (refine WO.opN (by intro; simp (disch := omega) only [go_sem, over7, Option.bind_eq_bind, Nat.reduceAdd, lc4X, st0, List.set_cons_succ, setBlk]; rfl) ?_) | (refine WO.specE rfl rfl (s20) (by simp only [pt8, pt0]; rfl) ?_) | (refine WO.specE rfl rfl (s11) (by simp only [pt8, pt5]; rfl) ?_) | (refine WO.specE rfl rfl (s47) (by simp only [pt8, pt1]; rfl) ?_) | (refine WC.seq ?_) | (refine WC.region ?_) | (refine WO.nil ?_) | (simp only [fl1, fl10]) | (refine WC.no rfl ?_) | (refine WC.skip ?_) | (refine WC.block ?_) | (refine WO.em2 rfl (by intro hp; simp only [hp, decide_true]; rfl) (by intro hp; simp only [hp, decide_false]; rfl) (fun hp => ?_) (fun hp => ?_) <;> try (exfalso; first | omega | contradiction)) | (refine WC.em2 rfl (fun hp => ?_) (fun hp => ?_) <;> try (exfalso; first | omega | contradiction)))
     all_goals first
      | exact ⟨m - 1, by omega, _, i + 1, X ++ [_], last, v, rfl, rfl, rfl, rfl, rfl, rfl, rfl, rfl, rfl, rfl, rfl, rfl, by omega, hsc⟩
      | (exfalso; exact hup ⟨by omega, by omega⟩)
      | exact ⟨m - 1, by omega, _, i + 1, X ++ [_], last, v, rfl, rfl, rfl, rfl, rfl, rfl, rfl, rfl, rfl, rfl, rfl, rfl, by omega, hsc⟩
   ·rw [if_neg hpo] at hsc
    rw [hsc]
    repeat' (first | (refine WO.yes rfl ?_) | (refine WO.noE rfl (by simp only [pt8, pt0, pt1, pt2, pt3, pt4, pt5, pt6, pt7]; rfl) ?_) | (refine WO.opE (by intro; simp (disch := omega) only [go_sem, cut7, cut4b, fillP, hat, lc0, lc4X]; rfl) (by simp only [pt8, pt0, pt1, pt2, pt3, pt4, pt5, pt6, pt7]; rfl) ?_) | (refine WO.opN (by intro; simp (disch := omega) only [go_sem, ov_all4, over7, Option.bind_eq_bind, Nat.reduceAdd, lc2, lc3, lc4X, st0, List.set_cons_zero, List.set_cons_succ, setBlk]; rfl) ?_) | (refine WO.specE rfl rfl (s20) (by simp only [pt8, pt0]; rfl) ?_) | (refine WO.specE rfl rfl (s11) (by simp only [pt8, pt5]; rfl) ?_) | (refine WO.specE rfl rfl (s47) (by simp only [pt8, pt1]; rfl) ?_) | (refine WC.seq ?_) | (refine WC.region ?_) | (refine WO.nil ?_) | (simp only [fl1, fl2, fl5, fl8, fl10]) | (refine WC.calm rfl ?_) | (refine WC.yes rfl ?_) | (refine WC.no rfl ?_) | (refine WC.skip ?_) | (refine WC.ret ?_) | (refine WC.block ?_) | (refine WO.em2 rfl (by intro hp; simp only [hp, decide_true]; rfl) (by intro hp; simp only [hp, decide_false]; rfl) (fun hp => ?_) (fun hp => ?_) <;> try (exfalso; first | omega | contradiction)) | (refine WC.em2 rfl (fun hp => ?_) (fun hp => ?_) <;> try (exfalso; first | omega | contradiction)))
    all_goals first
     | (exfalso; exact hpo ⟨Decidable.not_not.1 (by assumption), Decidable.not_not.1 (by assumption), by omega, by omega, Decidable.not_not.1 (by assumption)⟩)
     | exact ⟨_, rfl, rfl⟩
  ·have hie : i = ps.length := by omega
   subst hie
   rw [List.drop_length] at hsc
   rw [hsc]
   have hsd : scan n b [] last v = some v := rfl
   rw [hsd]
   simp only
   repeat' (first | (refine WO.opE (by intro; simp (disch := omega) only [go_sem]; rfl) (by simp only [pt8, pt2, pt4, pt5]; rfl) ?_) | (refine WC.seq ?_) | (refine WC.region ?_) | (refine WO.nil ?_) | (simp only [fl1]) | (refine WC.exit ?_) | (refine WC.em2 rfl (fun hp => ?_) (fun hp => ?_) <;> try (exfalso; first | omega | contradiction)))
   refine WO.call rfl rfl ((f48 hx lc1 lc0 hlen).mono ?_)
   rintro y _ ⟨rfl, X2, Y2, rfl⟩
   simp only [pt8, pt6, List.cons_append]
   by_cases hq : n < 2 * dcnt b ps
   ·rw [if_pos hq]
    repeat' (first | (refine WO.opE (by intro; simp (disch := omega) only [go_sem, cut4c, lc2]; rfl) (by simp only [pt8, pt0, pt1, pt2, pt5, pt7]; rfl) ?_) | (refine WO.opN (by intro; simp (disch := omega) only [go_sem, ov_all4, Option.bind_eq_bind, Nat.reduceAdd, lc3, List.set_cons_zero, List.set_cons_succ, setBlk]; rfl) ?_) | (refine WC.seq ?_) | (refine WC.region ?_) | (refine WO.nil ?_) | (simp only [fl1]) | (refine WC.skip ?_) | (refine WC.ret ?_) | (refine WC.em2 rfl (fun hp => ?_) (fun hp => ?_) <;> try (exfalso; first | omega | contradiction)))
    all_goals first
     | (exfalso; omega)
     | exact ⟨_, rfl, rfl⟩
   ·rw [if_neg hq]
    repeat' (first | (refine WO.opE (by intro; simp (disch := omega) only [go_sem, fillP]; rfl) (by simp only [pt8, pt0, pt1, pt5, pt7]; rfl) ?_) | (refine WO.opN (by intro; simp (disch := omega) only [go_sem, ov_all4, Option.bind_eq_bind, Nat.reduceAdd, lc3, List.set_cons_zero, List.set_cons_succ, setBlk]; rfl) ?_) | (refine WC.seq ?_) | (refine WC.region ?_) | (refine WO.nil ?_) | (simp only [fl1, fl2]) | (refine WC.ret ?_) | (refine WC.em2 rfl (fun hp => ?_) (fun hp => ?_) <;> try (exfalso; first | omega | contradiction)))
    all_goals first
     | (exfalso; omega)
     | exact ⟨_, rfl, rfl⟩
 ·rw [bad hg]
  refine WF.fnE rfl (fn_of Tryz.func69 cir69) (by show 4 ≤ 91; decide) ?_
  unfold ir69; dsimp only [k0, kI, mV, oO, oG]
  simp only [padTo, List.replicate, List.nil_append, List.append_nil]
  repeat' (first | (refine WO.yes rfl ?_) | (refine WO.noE rfl (by simp only [pt8, pt1, pt2, pt3, pt4, pt5, pt6, pt7]; rfl) ?_) | (refine WO.opE (by intro; simp (disch := omega) only [go_sem, cut4c, fillP, Zz.look, Nat.reduceAdd, hcx]; rfl) (by simp only [pt8, pt0, pt1, pt2, pt3, pt4, pt5, pt6, pt7]; rfl) ?_) | (refine WO.opN (by intro; simp (disch := omega) only [go_sem, ov_all4, Option.bind_eq_bind, Zz.look, Nat.reduceAdd, setBlk, List.set_cons_zero, List.set_cons_succ]; rfl) ?_) | (refine WO.specE rfl rfl (s11) (by simp only [pt8, pt6]; rfl) ?_) | (refine WO.specE rfl rfl (s23) (by simp only [pt8, pt3]; rfl) ?_) | (refine WO.opE (by intro; exact ev_lenS (by simp only [go_sem]; exact hx.len)) (by simp only [pt8, pt0]; rfl) ?_) | (refine WC.seq ?_) | (refine WC.region ?_) | (refine WO.nil ?_) | (simp only [fl1, fl2]) | (refine WC.yes rfl ?_) | (refine WC.skip ?_) | (refine WC.ret ?_) | (refine WC.block ?_) | (refine WO.em2 rfl (by intro hp; simp only [hp, decide_true]; rfl) (by intro hp; simp only [hp, decide_false]; rfl) (fun hp => ?_) (fun hp => ?_) <;> try (exfalso; first | omega | contradiction)) | (refine WC.em2 rfl (fun hp => ?_) (fun hp => ?_) <;> try (exfalso; first | omega | contradiction)))
  all_goals first
   | (exfalso; exact hg ⟨by omega, by omega, Decidable.not_not.1 (by assumption), Decidable.not_not.1 (by assumption)⟩)
   | exact ⟨_, rfl, rfl⟩
theorem s35 {n b : Int} {x z : AV} {ps : List Pm} {own : Tk} {m : Mem} (hy : Zz.byVals m.heap [.int .i64 n, .int .i64 b, z, .agg [.int .i64 own.s, .int .i64 own.c, .int .i64 own.n, .int .i64 own.d]] = some [.int .i64 n, .int .i64 b, x, .agg [.int .i64 own.s, .int .i64 own.c, .int .i64 own.n, .int .i64 own.d]]) (hx : PmL x ps) (hlen : (ps.length : Int) ≤ 1000000) :
  borrowX E8 69 [.int .i64 n, .int .i64 b, z, .agg [.int .i64 own.s, .int .i64 own.c, .int .i64 own.n, .int .i64 own.d]] m = some (.tuple [.agg [.int .i64 (chs n b ps own).1.s, .int .i64 (chs n b ps own).1.c, .int .i64 (chs n b ps own).1.n, .int .i64 (chs n b ps own).1.d], .int .i64 (chs n b ps own).2], m) :=
 borrowX_of hy ((f35 hx hlen).mono fun y m' h => by rw [h]; rfl)
noncomputable def E9 : Env := E8.put 69 (borrowX E8 69)
theorem E9_ok : EnvOk Tryz.prog E9 := Env.put_ok E8_ok (borrowX_ok E8_ok (callable Tryz.func69 (by kernel_rfl)))
end Go.Proofs.YtgchabldcnmccacGreatDoor

