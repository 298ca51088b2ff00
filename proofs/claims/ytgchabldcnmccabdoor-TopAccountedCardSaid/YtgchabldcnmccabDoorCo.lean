import Derived.Test.YtgchabldcnmccabDoorCC

set_option linter.unusedSimpArgs false
set_option linter.unusedVariables false

namespace Go.Proofs.YtgchabldcnmccabDoor
open Go.Zz
set_option maxRecDepth 100000
set_option maxHeartbeats 8000000
theorem zha {Γ : Env} {tch : List Tch} {T : List AV} {H : Hp} {L : List (Option ALoop)} {Q : St -> Prop} {d : Nat} {f : Opd} {args : List Opd}
  (h : WF Γ (f.ev T) (args.map (·.ev T)) ⟨H, L⟩ fun v m' => zak H m'.heap = true /\ Q ⟨pt T d v, m'.heap, m'.loops⟩) : WT Γ [⟨⟨none, some d, .call f args⟩, []⟩] ⟨T, H, L⟩ tch Q :=
 ⟨fun seen hs => WD.callP (h.mono fun v m' hv => ⟨hv.1, fun _ => WD.nil hv.2⟩)⟩
theorem zcb {X Y : Hp} {i g : Nat} {l : List AV} (h : Zz.look X i g = some l) : Zz.look (X ++ Y) i g = some l := by
 have := zaC.1 h;exact zaC.2 (by rw [List.getElem?_append_left (List.getElem?_eq_some_iff.1 this).1]; exact this)
theorem zah {X : Hp} {i g : Nat} {l : List AV} (h : Zz.look X i g = some l) : i < X.length := (List.getElem?_eq_some_iff.1 (zaC.1 h)).1
theorem zdj {X : Hp} {i j g : Nat} {b : Option Blk} {l : List AV} (h : Zz.look X i g = some l) (hij : j ≠ i) : Zz.look (X.set j b) i g = some l := by
 have := zaC.1 h;exact zaC.2 (by rw [List.getElem?_set_ne hij]; exact this)
theorem zmI {X : Hp} {i g : Nat} {l : List AV} (h : Zz.look X i g = some l) : X.set i (some ⟨g, l⟩) = X := by
 apply List.ext_getElem (by simp);intro k h1 h2
 by_cases e : i = k
 ·subst e;rw [List.getElem_set_self];have := zaC.1 h;rw [List.getElem?_eq_getElem h2] at this;exact (Option.some.inj this).symm
 ·rw [List.getElem_set_ne e]
def Cm2 (X : Hp) (v : List Int) (R : List (List Int)) : Prop := Zz.look X 0 0 = some (zaa v) /\ Zz.look X 1 0 = some (zbi R)
theorem Cm2.app {X Y : Hp} {v : List Int} {R : List (List Int)} (h : Cm2 X v R) : Cm2 (X ++ Y) v R := ⟨zcb h.1, zcb h.2⟩
theorem Cm2.row {X : Hp} {v : List Int} {R R' : List (List Int)} (h : Cm2 X v R) : Cm2 (X.set 1 (some ⟨0, zbi R'⟩)) v R' := ⟨zdj h.1 (by decide), zaJ (zah h.2)⟩
def Cm4 (X : Hp) (v : List Int) (R : List (List Int)) (N : Nat) (o r : List Int) : Prop := Cm2 X v R /\ 2 <= N /\ Zz.look X N 0 = some (zaa o) /\ Zz.look X (N + 1) 0 = some (zaa r)
theorem Cm4.app {X Y : Hp} {v : List Int} {R : List (List Int)} {N : Nat} {o r : List Int} (h : Cm4 X v R N o r) : Cm4 (X ++ Y) v R N o r := ⟨h.1.app, h.2.1, zcb h.2.2.1, zcb h.2.2.2⟩
theorem Cm4.out {X : Hp} {v : List Int} {R : List (List Int)} {N : Nat} {o o' r : List Int} (h : Cm4 X v R N o r) : Cm4 (X.set N (some ⟨0, zaa o'⟩)) v R N o' r := by
 have := h.2.1;exact ⟨⟨zdj h.1.1 (by omega), zdj h.1.2 (by omega)⟩, h.2.1, zaJ (zah h.2.2.1), zdj h.2.2.2 (by omega)⟩
theorem Cm4.rest {X : Hp} {v : List Int} {R : List (List Int)} {N : Nat} {o r r' : List Int} (h : Cm4 X v R N o r) : Cm4 (X.set (N + 1) (some ⟨0, zaa r'⟩)) v R N o r' := by
 have := h.2.1;exact ⟨⟨zdj h.1.1 (by omega), zdj h.1.2 (by omega)⟩, h.2.1, zdj h.2.2.1 (by omega), zaJ (zah h.2.2.2)⟩
theorem zmj (n : Nat) : Zz.za0 [.int .i64 0, .int .i64 0, .int .i64 0, .int .i64 0, .int .i64 0, .int .i64 0] n = zbi (List.replicate n zer6) := by
 induction n with
 | zero => rfl
 | succ n ih =>
  rw [List.replicate_succ, Zz.za0, ih];rfl
theorem zrh {call : AV -> List AV -> Mem -> Option (AV × Mem)} {T : List AV} {G : Hp} {L : List (Option ALoop)} {n : Nat} {l c : Opd} (hn : n <= 8) (h1 : l.ev T = .int .i64 (n : Int)) (h2 : c.ev T = .int .i64 (n : Int)) :
  zaW call T ⟨G, L⟩ (.makeSlice 6 48 [.int .i64 0, .int .i64 0, .int .i64 0, .int .i64 0, .int .i64 0, .int .i64 0] l c) = some (.sref G.length 0 0 6 n (some n), ⟨G ++ [some ⟨0, zbi (List.replicate n zer6)⟩], L⟩) := by
 rw [zbE, h1, h2]
 show (if _ then _ else _) = _
 rw [if_pos ⟨by omega, by omega, by omega, by omega⟩, <- zmj];rfl
theorem zid {id k i n : Nat} {cap : Option Nat} (h : i < n) : zaj k (.sref id 0 0 k n cap) (.int .i64 (i : Int)) = some (.pref id 0 (i * k)) := by
 have e : idx (.int .i64 (i : Int)) n = some i := zbb h;simp [zaj, e]
theorem zfp {X : Hp} {i n : Nat} {R : List (List Int)} (h : Zz.look X i 0 = some (zbi R)) (hl : R.length = n) (h6 : ∀ r ∈ R, r.length = 6) : Zz.byVal X (.sref i 0 0 6 n (some n)) = some (.sval true n (zbi R)) := by
 have e : Zz.cut (zbi R) 0 (n * 6) = some (zbi R) := by
  have := zdQ h6;unfold Zz.cut;rw [if_pos (by omega)];simp [<- hl, <- this]
 simp only [Zz.byVal, Zz.byC, h, e, zfk, if_true, beq_self_eq_true]
theorem zlY {X : Hp} {i n : Nat} {o : List Int} (h : Zz.look X i 0 = some (zaa o)) (hl : o.length = n) : Zz.byVal X (.sref i 0 0 1 n (some n)) = some (.sval true n (zaa o)) := by
 have e : Zz.cut (zaa o) 0 (n * 1) = some (zaa o) := by
  have := zae o;unfold Zz.cut;rw [if_pos (by omega)];simp [<- hl, <- this]
 have hf : (zaa o).all za9 = true := by
  rw [List.all_eq_true];intro x hx;obtain ⟨y, _, rfl⟩ := List.mem_map.1 hx;rfl
 simp only [Zz.byVal, Zz.byC, h, e, hf, if_true, beq_self_eq_true]
theorem znI {R : List (List Int)} {n : Nat} (hl : R.length = n) (h6 : ∀ r ∈ R, r.length = 6) : RwL (.sval true n (zbi R)) R := by
 subst hl;exact zos h6
theorem zmV {R : List (List Int)} {i : Nat} (hi : i < R.length) (v : List Int) : ent (R.set i v) = zr0 (ent R) i (vF v) := by
 funext k j
 unfold ent zr0 rw_ vF
 by_cases e : k = i
 ·subst e;rw [if_pos rfl];simp [List.getD_eq_getElem?_getD, hi]
 ·rw [if_neg e];simp [List.getD_eq_getElem?_getD, List.getElem?_set_ne (Ne.symm e)]
theorem ceq6 {a b : List Int} (ha : a.length = 6) (hb : b.length = 6) : zaT [true, true, true, true, true, true] (zaa a) (zaa b) = some (decide (a = b)) := by
 have hce := zev (r := a) (r' := b) (by omega);rw [ha] at hce;exact hce
theorem zrr {a b M : Int} (h : -M <= a /\ a <= M) : -M <= a.tmod b /\ a.tmod b <= M := by
 have h1 := Int.natAbs_tmod a b;have h2 : a.natAbs % b.natAbs <= a.natAbs := Nat.mod_le _ _;omega
theorem znf {X : Hp} {i n : Nat} {o : List Int} (h : Zz.look X i 0 = some (zaa o)) (hl : o.length = n) : Zz.newA X (.sref i 0 0 1 n (some n)) = some (.sval true n (zaa o)) := by
 have e : Zz.cut (zaa o) 0 (n * 1) = some (zaa o) := by
  have := zae o;unfold Zz.cut;rw [if_pos (by omega)];simp [<- hl, <- this]
 have hf : (zaa o).all za9 = true := by
  rw [List.all_eq_true];intro x hx;obtain ⟨y, _, rfl⟩ := List.mem_map.1 hx;rfl
 simp only [Zz.newA, Zz.newC, h, e, hf, if_true, beq_self_eq_true]
def zjm (rows : List (List Int)) (v : List Int) (f : Nat -> Int) (i : Nat) : List Int := (List.range 6).map fun t => vF v t - zag (fun k => f k * ent rows k t) i
theorem zda (rows : List (List Int)) (v : List Int) (f : Nat -> Int) (i : Nat) : (zjm rows v f i).length = 6 := by simp [zjm]
theorem zeK {rows : List (List Int)} {v : List Int} {f : Nat -> Int} {i t : Nat} (h : t < 6) : (zjm rows v f i).getD t 0 = vF v t - zag (fun k => f k * ent rows k t) i := by
 simp [zjm, List.getD_eq_getElem?_getD, h]
theorem zoo {rows : List (List Int)} {v : List Int} {f : Nat -> Int} (hv6 : v.length = 6) : zjm rows v f 0 = v := zbf (by rw [zda, hv6]) fun t ht => by
 rw [zda] at ht;rw [zeK ht]
 show v.getD t 0 - 0 = _
 rw [Int.sub_zero]
theorem zmw {rows : List (List Int)} {v : List Int} {f : Nat -> Int} {i : Nat} : ziB (zjm rows v f i) (-(f i)) (rw_ rows i) 6 = zjm rows v f (i + 1) := zbf (by rw [zbX, zda]) fun t ht => by
 rw [zbX] at ht;rw [zfq ht, if_pos ht, zeK ht, zeK ht]
 show _ = vF v t - (zag (fun k => f k * ent rows k t) i + f i * (rw_ rows i).getD t 0)
 rw [Int.neg_mul];omega
theorem zmC {rows : List (List Int)} {v : List Int} {f : Nat -> Int} (hv : okB 48 v) (hr : ∀ k, okB 48 (rw_ rows k)) (hf : ∀ k, k < rows.length -> -570630428688384 <= f k /\ f k <= 570630428688384) : ∀ i, i <= rows.length -> ∀ t, t < 6 -> -(48 + 27390260577042432 * (i : Int)) <= (zjm rows v f i).getD t 0 /\ (zjm rows v f i).getD t 0 <= 48 + 27390260577042432 * (i : Int)
 | 0, _, t, ht => by
  have := hv t ht;rw [zeK ht]
  show _ <= v.getD t 0 - 0 /\ v.getD t 0 - 0 <= _
  omega
 | i + 1, hi, t, ht => by
  have h1 := zmC hv hr hf i (by omega) t ht;rw [zeK ht] at h1 ⊢;have h2 := ziA (hf i (by omega)) (hr i t ht);have e : zag (fun k => f k * ent rows k t) (i + 1) = zag (fun k => f k * ent rows k t) i + f i * (rw_ rows i).getD t 0 := rfl;rw [e];omega
theorem zpf {rows : List (List Int)} {v : List Int} {f : Nat -> Int} {i : Nat} : zjm rows v f i = zer6 ↔ ∀ j, j < 6 -> vF v j = zag (fun k => f k * ent rows k j) i := by
 constructor
 ·intro h j hj;have := zeK (rows := rows) (v := v) (f := f) (i := i) hj;rw [h, zqj] at this;omega
 ·intro h
  refine zbf (by rw [zda]; rfl) fun t ht => ?_
  rw [zda] at ht;rw [zeK ht, zqj, h t ht, Int.sub_self]
open Classical in
noncomputable def zdB (cs : List Nm) (v : List Int) : Int := if NmOk cs /\ okB 48 v then (if ∃ c, IsC (zaL cs) v c then (if zft cs (zhD (zaL cs) v) then 0 else 3) else 4) else 1
noncomputable def xCn (cs : List Nm) (v : List Int) : AV := if zdB cs v = 0 then .sval true cs.length (zaa (zhD (zaL cs) v)) else .snil
theorem vecs6 {z : AV} {cs : List Nm} (hz : NmL z cs) : Six (zaL cs) := fun i hi => by
 rw [zbU] at hi;rw [zgn i hi];exact (hz.at hi).1.2
theorem zow {R S : List (List Int)} (hl : R.length = S.length) (h : ∀ k, k < S.length -> rw_ R k = rw_ S k) : R = S := by
 apply List.ext_getElem hl;intro i h1 h2;have := h i h2;simpa [rw_, List.getD_eq_getElem?_getD, h1, h2] using this
theorem zkq {R : List (List Int)} {i : Nat} {r : List Int} (h6 : ∀ r ∈ R, r.length = 6) (hr : r.length = 6) : ∀ x ∈ R.set i r, x.length = 6 := fun x hx => by
 rcases List.mem_or_eq_of_mem_set hx with h | rfl
 ·exact h6 x h
 ·exact hr
theorem zlm {R : List (List Int)} {i k : Nat} {r : List Int} (hi : i < R.length) : rw_ (R.set i r) k = if k = i then r else rw_ R k := by
 unfold rw_
 by_cases e : k = i
 ·subst e;rw [if_pos rfl];simp [List.getD_eq_getElem?_getD, hi]
 ·rw [if_neg e];simp [List.getD_eq_getElem?_getD, List.getElem?_set_ne (Ne.symm e)]
theorem zop {R : List (List Int)} (h6 : ∀ r ∈ R, r.length = 6) (h : ∀ k, k < R.length -> okB 48 (rw_ R k)) : B48 (ent R) := fun i j => by
 unfold ent
 by_cases hi : i < R.length
 ·by_cases hj : j < 6
  ·exact h i hi j hj
  ·have h6i : (rw_ R i).length = 6 := h6 _ (by simp [rw_, List.getD_eq_getElem?_getD, hi])
   have : (rw_ R i).getD j 0 = 0 := by simp [List.getD_eq_getElem?_getD, h6i, hj]
   rw [this]; decide
 ·have : rw_ R i = [] := by simp [rw_, List.getD_eq_getElem?_getD, hi]
  rw [this];simp
theorem zt5 {rows : List (List Int)} {v : List Int} {q i : Nat} (h6 : ∀ r ∈ rows, r.length = 6) (hv6 : v.length = 6) (hn : rows.length <= 6) (hr : ∀ k, okB 48 (rw_ rows k)) (hv : okB 48 v) (hi : i < rows.length) (hq : q < 64) : -570630428688384 <= crN rows v q i /\ crN rows v q i <= 570630428688384 := by
 unfold crN;rw [<- zmV hi]
 have hb := zop (R := rows.set i v) (zkq h6 hv6) fun k hk => by
  rw [zlm hi]
  split
  ·exact hv
  ·exact hr k
 have h1 := zeW hb (List.range' 0 rows.length) (zbk q) (zll q hq).2;have h2 := zlf (List.range' 0 rows.length).length (by simp; exact hn);omega
theorem g10 {z : AV} {cs : List Nm} {v : List Int} (hz : NmL z cs) (hv6 : v.length = 6) : WF D10 (.func 10 [] []) [z, .agg (zaa v)] ⟨[], []⟩ fun u m' => zoD m'.heap u = some (.tuple [xCn cs v, .int .i64 (zdB cs v)]) := by
 have hs26 := fun m => s26b (m := m) hz
 have hs61 := fun m => s61 (m := m) hv6
 have hcc := zav hv6
 have hcl : (zaa v).length = 6 := by rw [zae, hv6]
 by_cases hok : NmOk cs /\ okB 48 v
 ·obtain ⟨ha, hb⟩ := hok;have h1 := ha.1;have h6n := ha.2.1
  have h6n8 : cs.length <= 8 := by omega
  have hrk := ha.2.2.2.2.2;have hvl := zbU cs;have hx6 := zf4 hz;rw [decide_eq_true ha] at hs26;rw [decide_eq_true hb] at hs61;refine zx0 rfl (zaz Tryd.func10 zqx) (by show 2 <= 113; decide) ?_;unfold ir10;simp only [zaw, List.replicate, zNA, zAN]
  repeat' (first |refine zE (by intro; exact zrh h6n8 rfl rfl) ?_ |refine zx1 rfl ?_ |refine zE (by intro; simp (disch := omega) only [go_sem, hcc, lc0, zCA, zNA]; rfl) ?_ |refine zE (by intro; exact zaf (by simp only [go_sem]; exact hz.len)) ?_ |refine zS rfl rfl (hs26 _) ?_ |refine zS rfl rfl (hs61 _) ?_ |refine zy1 ?_ |refine zy2 ?_ |refine zy3 ?_ |(simp only [fl1]) |refine zy9 rfl ?_ |refine zy6 ?_ |refine zy5 ?_)
  refine zx9 (fun m st => ∃ T i X R, st = ⟨T, X, []⟩ /\ T.length = 113 /\ gt T 0 = z /\ gt T 3 = .pref 0 0 0 /\ gt T 6 = .sref 1 0 0 6 cs.length (some cs.length) /\ gt T 28 = z /\ gt T 29 = .int .i64 (cs.length : Nat) /\ gt T 30 = .int .i64 (i : Nat) /\ m + i = cs.length /\ Cm2 X v R /\ R.length = cs.length /\ (∀ r ∈ R, r.length = 6) /\ ∀ k, k < i -> rw_ R k = rw_ (zaL cs) k) ?_ cs.length _ ⟨_, 0, [some ⟨0, zaa v⟩, some ⟨0, zbi (List.replicate cs.length zer6)⟩], List.replicate cs.length zer6, rfl, rfl, rfl, rfl, rfl, rfl, rfl, rfl, by omega, ⟨rfl, rfl⟩, by simp, fun r hr => by rw [(List.mem_replicate.1 hr).2]; rfl, fun k hk => by omega⟩;rintro m _ ⟨T, i, X, R, rfl, hT, g0, g3, g6, g28, g29, g30, hm, hX, hRl, hR6, hRk⟩;obtain ⟨f, rfl⟩ := exG hT;clear hT;change f 0 = _ at g0;change f 3 = _ at g3;change f 6 = _ at g6;change f 28 = _ at g28;change f 29 = _ at g29;change f 30 = _ at g30;simp only [tb, Nat.reduceAdd, g0, g3, g6, g28, g29, g30]
  by_cases hi : i < cs.length
  ·obtain ⟨⟨hw1, hw2⟩, hat⟩ := hz.at hi;have hvi := zgn i hi;have hcut := zfI hR6 (i := i) (by omega) hw2
   have hl0 : ∀ a, Zz.look (X ++ [a]) 1 0 = some (zbi R) := fun a => zcb hX.2
   have hX' : ∀ a, Cm2 ((X ++ [a]).set 1 (some ⟨0, zbi (R.set i (zbR cs i).v)⟩)) v (R.set i (zbR cs i).v) := fun a => hX.app.row
   have hR' : (R.set i (zbR cs i).v).length = cs.length := by rw [List.length_set]; exact hRl
   have hR6' := zkq (i := i) hR6 hw2
   have hRk' : ∀ k, k < i + 1 -> rw_ (R.set i (zbR cs i).v) k = rw_ (zaL cs) k := fun k hk => by
    rw [zlm (by omega)]
    by_cases e : k = i
    ·rw [if_pos e, e, hvi]
    ·rw [if_neg e]; exact hRk k (by omega)
   generalize zbR cs i = c at *;obtain ⟨n, r⟩ := c;simp only at hw1 hw2 hat hcut hX' hR' hR6' hRk';generalize hRR : R.set i r = R' at *
   obtain ⟨v0, v1, v2, v3, v4, v5, rfl⟩ : ∃ v0 v1 v2 v3 v4 v5, r = [v0, v1, v2, v3, v4, v5] := by
    match r, hw2 with
    | [a, b, c, d, e, g], _ => exact ⟨a, b, c, d, e, g, rfl⟩
   simp only [List.map_cons, List.map_nil, zCA, zNA] at hat;simp only [zaa, List.map_cons, List.map_nil] at hcut
   have hcut6b : ∀ {x0 x1 x2 x3 x4 x5 x6 : AV} {l : List AV}, Zz.cut (x0 :: x1 :: x2 :: x3 :: x4 :: x5 :: x6 :: l) 1 6 = some [x1, x2, x3, x4, x5, x6] := fun {x0 x1 x2 x3 x4 x5 x6 l} => by simp [Zz.cut]
   have hcut7 : ∀ {x0 x1 x2 x3 x4 x5 x6 : AV} {l : List AV}, Zz.cut (x0 :: x1 :: x2 :: x3 :: x4 :: x5 :: x6 :: l) 0 7 = some [x0, x1, x2, x3, x4, x5, x6] := fun {x0 x1 x2 x3 x4 x5 x6 l} => by simp [Zz.cut]
   have hover : ∀ {y0 y1 y2 y3 y4 y5 y6 x0 x1 x2 x3 x4 x5 x6 : AV}, Zz.over [y0, y1, y2, y3, y4, y5, y6] 0 [x0, x1, x2, x3, x4, x5, x6] = some [x0, x1, x2, x3, x4, x5, x6] := fun {_ _ _ _ _ _ _ _ _ _ _ _ _ _} => by simp [Zz.over]
   have hia := zid (id := 1) (k := 6) (cap := some cs.length) hi
   repeat' (first |refine zE (by intro; simp (disch := omega) only [go_sem, hat, hcut6b, hcut7, hia, lk0, Nat.zero_add]; rfl) ?_ |refine zx2 (by intro; simp (disch := omega) only [go_sem, Option.bind_eq_bind, Nat.reduceAdd, hcut, hover, hl0, lk0, st0, zat, Nat.zero_add]; rfl) ?_ |refine zy1 ?_ |refine zy2 ?_ |refine zy3 ?_ |(simp only [zbr]) |refine zy6 ?_ |refine zy5 ?_ |refine zy4 rfl (fun hp => ?_) (fun hp => ?_) <;> try (exfalso; first | omega | contradiction))
   exact ⟨m - 1, by omega, _, i + 1, _, R', rfl, rfl, rfl, rfl, rfl, rfl, rfl, rfl, by omega, hX' _, hR', hR6', hRk'⟩
  ·have hie : i = cs.length := by omega
   subst hie
   obtain rfl : R = zaL cs := zow (by rw [hRl, hvl]) fun k hk => hRk k (by rw [hvl] at hk; exact hk)
   clear hRk hm;obtain ⟨q0, hq0, hq0l, hq0w⟩ := zii (rows := zaL cs) (by rw [hvl]; exact hrk);rw [hvl] at hq0l
   repeat' (first |refine zE (by intro; simp (disch := omega) only [go_sem]; rfl) ?_ |refine zy1 ?_ |refine zy2 ?_ |refine zy3 ?_ |refine zy8 ?_ |refine zy5 ?_ |refine zy4 rfl (fun hp => ?_) (fun hp => ?_) <;> try (exfalso; first | omega | contradiction))
   refine zx9 (fun m st => ∃ T q w, st = ⟨T, X, []⟩ /\ T.length = 113 /\ gt T 0 = z /\ gt T 3 = .pref 0 0 0 /\ gt T 6 = .sref 1 0 0 6 cs.length (some cs.length) /\ gt T 9 = .int .i64 (q : Nat) /\ gt T 10 = .int .i64 w /\ m + q = 64 /\ (w = 0 /\ q <= q0 \/ w ≠ 0 /\ 1 <= q /\ q <= 64 /\ (zbk (q - 1)).length = cs.length /\ w = crW (zaL cs) (q - 1))) ?_ 64 _ ⟨_, 0, 0, rfl, rfl, rfl, rfl, rfl, rfl, rfl, by omega, .inl ⟨rfl, by omega⟩⟩;rintro m _ ⟨T, q, w, rfl, hT, g0, g3, g6, g9, g10, hm, hw⟩;obtain ⟨f, rfl⟩ := exG hT;clear hT;change f 0 = _ at g0;change f 3 = _ at g3;change f 6 = _ at g6;change f 9 = _ at g9;change f 10 = _ at g10;simp only [tb, Nat.reduceAdd, g0, g3, g6, g9, g10]
   by_cases hw0 : w = 0
   ·have hqq : q <= q0 := by rcases hw with h | h; exact h.2; exact absurd hw0 h.1
    clear hw;subst hw0
    have hq64 : q < 64 := by omega
    have hs27 := fun m => s27b (m := m) hq64
    have hs28 : zaA D7 28 [.sref 1 0 0 6 cs.length (some cs.length), .int .i64 (q : Nat)] ⟨X, []⟩ = some (.int .i64 (crW (zaL cs) q), ⟨X, []⟩) := x28 (znI hRl hR6) (zop hR6 fun k _ => ha.b48 k) (by omega) hq64 (zfp hX.2 hRl hR6)
    have hWq : q = q0 -> crW (zaL cs) q ≠ 0 := fun e => by rw [e]; exact hq0w
    generalize hW : crW (zaL cs) q = W at *
    by_cases hbit : (zbk q).length = cs.length
    ·have hbl : (((zbk q).length : Nat) : Int) = (cs.length : Int) := by omega
     repeat' (first |refine zE (by intro; simp (disch := omega) only [go_sem, hbl]; rfl) ?_ |refine zE (by intro; exact zaf (by simp only [go_sem]; exact hz.len)) ?_ |refine zS rfl rfl (hs27 _) ?_ |refine zS rfl rfl (hs28) ?_ |refine zy1 ?_ |refine zy2 ?_ |refine zy3 ?_ |(simp only [fl1, zbr]) |refine zy0 rfl ?_ |refine zy6 ?_ |refine zy5 ?_)
     exact ⟨m - 1, by omega, _, q + 1, W, rfl, rfl, rfl, rfl, rfl, rfl, rfl, by omega, by
      by_cases hW0 : W = 0
      ·exact .inl ⟨hW0, by have : q ≠ q0 := fun e => hWq e hW0; omega⟩
      ·exact .inr ⟨hW0, by omega, by omega, by rw [Nat.add_sub_cancel]; exact hbit, by rw [Nat.add_sub_cancel]; exact hW.symm⟩⟩
    ·have hbl : ¬ (((zbk q).length : Nat) : Int) = (cs.length : Int) := by omega
     have hqn : q ≠ q0 := fun e => hbit (by rw [e]; exact hq0l)
     repeat' (first |refine zE (by intro; simp (disch := omega) only [go_sem, hbl]; rfl) ?_ |refine zE (by intro; exact zaf (by simp only [go_sem]; exact hz.len)) ?_ |refine zS rfl rfl (hs27 _) ?_ |refine zy1 ?_ |refine zy2 ?_ |refine zy3 ?_ |(simp only [fl1, zbr]) |refine zy0 rfl ?_ |refine zy9 rfl ?_ |refine zy6 ?_ |refine zy5 ?_)
     exact ⟨m - 1, by omega, _, q + 1, 0, rfl, rfl, rfl, rfl, rfl, rfl, rfl, by omega, .inl ⟨rfl, by omega⟩⟩
   ·obtain ⟨_, hq1, hq64, hql, hqw⟩ : w ≠ 0 /\ 1 <= q /\ q <= 64 /\ (zbk (q - 1)).length = cs.length /\ w = crW (zaL cs) (q - 1) := by rcases hw with h | h; exact absurd h.1 hw0; exact h
    clear hw
    obtain ⟨p, rfl⟩ : ∃ p, q = p + 1 := ⟨q - 1, by omega⟩
    rw [Nat.add_sub_cancel] at hql hqw
    have hp64 : p < 64 := by omega
    clear hm hq0 hq0l hq0w hq1 hq64
    have hpc : (((p + 1 : Nat) : Int) - 1) = (p : Int) := by omega
    have hl0 : ∀ Y, Zz.look (X ++ Y) 0 0 = some (zaa v) := fun Y => zcb hX.1
    have hov := fun x0 x1 x2 x3 x4 x5 => zaN hv6 (x0 := x0) (x1 := x1) (x2 := x2) (x3 := x3) (x4 := x4) (x5 := x5)
    have hk2 : ∀ a b, Zz.look (X ++ [a] ++ [some ⟨0, b⟩]) (X.length + 1) 0 = some b := fun a b => by simp [Zz.look]
    have hs2 : ∀ a b c, (X ++ [a] ++ [b]).set (X.length + 1) c = X ++ [a] ++ [c] := fun a b c => by simp
    have hl1 : ∀ a, Zz.look (X ++ [a]) 0 0 = some (zaa v) := fun a => zcb hX.1
    repeat' (first |refine zE (by intro; exact zkC h6n8 rfl rfl) ?_ |refine zE (by intro; simp (disch := omega) only [go_sem, List.length_append, hpc, hl1, hcc]; rfl) ?_ |refine zx2 (by intro; simp (disch := omega) only [go_sem, Option.bind_eq_bind, hcl, hov, hk2, hs2, zat]; rfl) ?_ |refine zE (by intro; exact zaf (by simp only [go_sem]; exact hz.len)) ?_ |refine zy1 ?_ |refine zy2 ?_ |refine zy3 ?_ |(simp only [fl1]) |refine zy8 ?_ |refine zy5 ?_ |refine zy4 rfl (fun hp => ?_) (fun hp => ?_) <;> try (exfalso; first | omega | contradiction))
    have hvl6 : (zaL cs).length <= 6 := by omega
    have hokk : ∀ k, okB 48 (rw_ (zaL cs) k) := fun k => ha.b48 k
    have hNb := fun k hk => zt5 (q := p) (i := k) hR6 hv6 hvl6 hokk hb hk hp64
    have hqb := fun k hk => zgE hw0 (hNb k hk)
    have hmb := fun k hk => zrr (b := w) (hNb k hk)
    have hrb := zmC (f := fun k => (crN (zaL cs) v p k).tdiv w) hb hokk hqb
    obtain ⟨N, hN⟩ : ∃ N, N = X.length := ⟨_, rfl⟩
    have hN2 : 2 <= N := by
     have := zah hX.2;omega
    have hC0 : Cm4 (X ++ [some ⟨0, zaa (List.replicate cs.length 0)⟩] ++ [some ⟨0, zaa v⟩]) v (zaL cs) N (List.replicate cs.length 0) (zjm (zaL cs) v (fun k => (crN (zaL cs) v p k).tdiv w) 0) := by
     rw [zoo hv6];subst hN;exact ⟨hX.app.app, hN2, by simp [Zz.look], by simp [Zz.look]⟩
    rw [<- hN];generalize X ++ [some ⟨0, zaa (List.replicate cs.length 0)⟩] ++ [some ⟨0, zaa v⟩] = Y0 at *;clear hX hl0 hl1 hk2 hs2 hN;refine zx9 (fun m st => ∃ T i Y o bn, st = ⟨T, Y, []⟩ /\ T.length = 113 /\ gt T 0 = z /\ gt T 3 = .pref 0 0 0 /\ gt T 6 = .sref 1 0 0 6 cs.length (some cs.length) /\ gt T 9 = .int .i64 (p : Nat) /\ gt T 10 = .int .i64 w /\ gt T 11 = .sref N 0 0 1 cs.length (some cs.length) /\ gt T 12 = .bool bn /\ gt T 13 = .pref (N + 1) 0 0 /\ gt T 59 = z /\ gt T 60 = .int .i64 (cs.length : Nat) /\ gt T 61 = .int .i64 (i : Nat) /\ m + i = cs.length /\ Cm4 Y v (zaL cs) N o (zjm (zaL cs) v (fun k => (crN (zaL cs) v p k).tdiv w) i) /\ o.length = cs.length /\ (∀ k, k < i -> o.getD k 0 = (crN (zaL cs) v p k).tdiv w) /\ (bn = true ↔ ∃ k, k < i /\ (crN (zaL cs) v p k).tmod w ≠ 0)) ?_ cs.length _ ⟨_, 0, _, _, false, rfl, rfl, rfl, rfl, rfl, rfl, rfl, rfl, rfl, rfl, rfl, rfl, rfl, by omega, hC0, by simp, fun k hk => by omega, ⟨fun h => Bool.noConfusion h, fun ⟨k, hk, _⟩ => absurd hk (Nat.not_lt_zero k)⟩⟩;clear hC0;clear Y0;rintro m _ ⟨T, i, Y, o, bn, rfl, hT, g0, g3, g6, g9, g10, g11, g12, g13, g59, g60, g61, hm, hC, hol, hok, hbn⟩;obtain ⟨f, rfl⟩ := exG hT;clear hT;change f 0 = _ at g0;change f 3 = _ at g3;change f 6 = _ at g6;change f 9 = _ at g9;change f 10 = _ at g10;change f 11 = _ at g11;change f 12 = _ at g12;change f 13 = _ at g13;change f 59 = _ at g59;change f 60 = _ at g60;change f 61 = _ at g61;simp only [tb, Nat.reduceAdd, g0, g3, g6, g9, g10, g11, g12, g13, g59, g60, g61]
    by_cases hi : i < cs.length
    ·obtain ⟨⟨hw1, hw2⟩, hat⟩ := hz.at hi;have hvi := zgn i hi
     have hir : i < (zaL cs).length := by omega
     obtain ⟨M, hM⟩ : ∃ M, M = Y.length := ⟨_, rfl⟩
     have hMN : N + 1 < M := by have := zah hC.2.2.2; omega
     have hN2' := hC.2.1
     -- the copy
     generalize hcc2 : zbR cs i = c at *;obtain ⟨n, r⟩ := c;simp only at hw1 hw2 hat hvi;have hri := hokk i;rw [hvi] at hri
     have hset0 : (zaL cs).set i r = zaL cs := by
      refine zow (by rw [List.length_set]) fun k hk => ?_
      rw [zlm hir]
      by_cases e : k = i
      ·rw [if_pos e, e, hvi]
      ·rw [if_neg e]
     have hR6v := zkq (i := i) hR6 hv6
     have hlv : ((zaL cs).set i v).length = cs.length := by rw [List.length_set]; exact hRl
     have hov1 := zfI hR6 hir hv6;have hov2 := zfI hR6v (i := i) (by rw [List.length_set]; exact hir) hw2;rw [List.set_set, hset0] at hov2
     have hs28 : ∀ Z : Hp, Cm2 Z v ((zaL cs).set i v) -> zaA D7 28 [.sref 1 0 0 6 cs.length (some cs.length), .int .i64 (p : Nat)] ⟨Z, []⟩ = some (.int .i64 (crN (zaL cs) v p i), ⟨Z, []⟩) := fun Z hZ => by
      have h := x28 (m := ⟨Z, []⟩) (znI hlv hR6v) (zop hR6v fun k hk => by
       rw [zlm hir]
       split
       ·exact hb
       ·exact hokk k) (by omega) hp64 (zfp hZ.2 hlv hR6v)
      rw [h, hlv, zmV hir];unfold crN;rw [hvl]
     have hn1 := hNb i hir;have hn2 := hqb i hir;have hn3 := hmb i hir;have hrbi := hrb i (by omega);have hrsl := zda (zaL cs) v (fun k => (crN (zaL cs) v p k).tdiv w) i;have hnx := zmw (rows := zaL cs) (v := v) (f := fun k => (crN (zaL cs) v p k).tdiv w) (i := i);rw [hvi] at hnx
     have hok1 : ∀ x, x = (crN (zaL cs) v p i).tdiv w -> ∀ k, k < i + 1 -> (o.set i x).getD k 0 = (crN (zaL cs) v p k).tdiv w := fun x hx k hk => by
      by_cases e : k = i
      ·subst e; rw [zaD (by omega), hx]
      ·rw [zay (Ne.symm e)]; exact hok k (by omega)
     have hbt : ∀ b, (b = true ↔ bn = true \/ (crN (zaL cs) v p i).tmod w ≠ 0) -> (b = true ↔ ∃ k, k < i + 1 /\ (crN (zaL cs) v p k).tmod w ≠ 0) := fun b h => by
      rw [h, hbn]
      constructor
      ·rintro (⟨k, hk, h⟩ | h)
       ·exact ⟨k, by omega, h⟩
       ·exact ⟨i, by omega, h⟩
      ·rintro ⟨k, hk, h'⟩
       by_cases e : k = i
       ·rw [e] at h'; exact .inr h'
       ·exact .inl ⟨k, by omega, h'⟩
     generalize crN (zaL cs) v p i = NN at *;generalize hxd : NN.tdiv w = x at *;generalize hyd : NN.tmod w = y at *;have hq0 := hw0
     have hKZ : ∀ a, Zz.look (Y ++ [some ⟨0, a⟩]) M 0 = some a := fun a => by subst hM; simp [Zz.look]
     obtain ⟨v0, v1, v2, v3, v4, v5, rfl⟩ : ∃ v0 v1 v2 v3 v4 v5, r = [v0, v1, v2, v3, v4, v5] := by
      match r, hw2 with
      | [a, b, c, d, e, g], _ => exact ⟨a, b, c, d, e, g, rfl⟩
     simp only [List.map_cons, List.map_nil, zCA, zNA] at hat;have hov2' := hov2;simp only [zaa, List.map_cons, List.map_nil] at hov2
     have hcut6b : ∀ {x0 x1 x2 x3 x4 x5 x6 : AV} {l : List AV}, Zz.cut (x0 :: x1 :: x2 :: x3 :: x4 :: x5 :: x6 :: l) 1 6 = some [x1, x2, x3, x4, x5, x6] := fun {x0 x1 x2 x3 x4 x5 x6 l} => by simp [Zz.cut]
     have hcut7 : ∀ {x0 x1 x2 x3 x4 x5 x6 : AV} {l : List AV}, Zz.cut (x0 :: x1 :: x2 :: x3 :: x4 :: x5 :: x6 :: l) 0 7 = some [x0, x1, x2, x3, x4, x5, x6] := fun {x0 x1 x2 x3 x4 x5 x6 l} => by simp [Zz.cut]
     have hover : ∀ {y0 y1 y2 y3 y4 y5 y6 x0 x1 x2 x3 x4 x5 x6 : AV}, Zz.over [y0, y1, y2, y3, y4, y5, y6] 0 [x0, x1, x2, x3, x4, x5, x6] = some [x0, x1, x2, x3, x4, x5, x6] := fun {_ _ _ _ _ _ _ _ _ _ _ _ _ _} => by simp [Zz.over]
     have hia := zid (id := 1) (k := 6) (cap := some cs.length) hi;have hia1 := zid (id := N) (k := 1) (cap := some cs.length) hi;have hC1 := hC.app (Y := [some ⟨0, [.str n, .int .i64 v0, .int .i64 v1, .int .i64 v2, .int .i64 v3, .int .i64 v4, .int .i64 v5]⟩]);have hK1 := hKZ [.str n, .int .i64 v0, .int .i64 v1, .int .i64 v2, .int .i64 v3, .int .i64 v4, .int .i64 v5]
     repeat' (first |refine zE (by intro; simp (disch := omega) only [go_sem, hat, hcut7]; rfl) ?_ |refine zx2 (by intro; simp (disch := omega) only [go_sem, Option.bind_eq_bind, Nat.reduceAdd, hover, lk0, st0, zat]; rfl) ?_ |refine zy1 ?_ |refine zy2 ?_ |refine zy3 ?_ |(simp only [fl1]) |refine zy6 ?_ |refine zy5 ?_ |refine zy4 rfl (fun hp => ?_) (fun hp => ?_) <;> try (exfalso; first | omega | contradiction))
     rw [<- hM];generalize Y ++ [some ⟨0, [.str n, .int .i64 v0, .int .i64 v1, .int .i64 v2, .int .i64 v3, .int .i64 v4, .int .i64 v5]⟩] = Z at *;clear hC hKZ;have h0 := hC1.1.1;have h1' := hC1.1.2;have hZ1M : Zz.look (Z.set 1 (some ⟨0, zbi ((zaL cs).set i v)⟩)) M 0 = some [.str n, .int .i64 v0, .int .i64 v1, .int .i64 v2, .int .i64 v3, .int .i64 v4, .int .i64 v5] := zdj hK1 (by omega);have hZ11 : Zz.look (Z.set 1 (some ⟨0, zbi ((zaL cs).set i v)⟩)) 1 0 = some (zbi ((zaL cs).set i v)) := zaJ (zah h1');have hs28Z := hs28 (Z.set 1 (some ⟨0, zbi ((zaL cs).set i v)⟩)) hC1.1.row
     have hset : (Z.set 1 (some ⟨0, zbi ((zaL cs).set i v)⟩)).set 1 (some ⟨0, zbi (zaL cs)⟩) = Z := by rw [List.set_set]; exact zmI h1'
     repeat' (first |refine zE (by intro; simp (disch := omega) only [go_sem, h0, hia, hcc, hZ1M, hcut6b, Nat.zero_add]; rfl) ?_ |refine zx2 (by intro; simp (disch := omega) only [go_sem, Option.bind_eq_bind, Nat.reduceAdd, h1', hcl, hov1, hov2, hZ11, hset, zat, Nat.zero_add]; rfl) ?_ |refine zS rfl rfl (hs28Z) ?_ |refine zy1 ?_ |refine zy2 ?_ |refine zy3 ?_ |(simp only [fl1]))
     have hZN := hC1.2.2.1;have hovo := zbp (r := o) (j := i) (by omega) x;have hM3 : Zz.look (Z.set N (some ⟨0, zaa (o.set i x)⟩)) M 0 = some [.str n, .int .i64 v0, .int .i64 v1, .int .i64 v2, .int .i64 v3, .int .i64 v4, .int .i64 v5] := zdj hK1 (by omega);have hN3 : Zz.look (Z.set N (some ⟨0, zaa (o.set i x)⟩)) N 0 = some (zaa (o.set i x)) := zaJ (zah hZN)
     have hio : (zaa (o.set i x))[i]? = some (.int .i64 x) := by
      rw [zaK (by rw [List.length_set]; omega), zaD (by omega)]
     have hC3 := hC1.out (o' := o.set i x)
     have hol' : (o.set i x).length = cs.length := by rw [List.length_set]; exact hol
     have hok' := hok1 x rfl;have hC' := (hC3.rest (r' := zjm (zaL cs) v (fun k => (crN (zaL cs) v p k).tdiv w) (i + 1))).app (Y := [some ⟨0, zaa [v0, v1, v2, v3, v4, v5]⟩])
     have h29 := f29 (E := D10) (L := []) (n := -x) rfl (zaz Tryd.func29 zth) hC3.2.2.2 hrsl hw2 fun j hj => by
      have h1 := ziA (x := -x) (A := 570630428688384) (by omega) (hri j hj);have h2 := hrbi j hj;omega
     rw [hnx] at h29;have hR3 := zaC.1 hC3.2.2.2;clear hnx hC1 hC3 h0 h1' hZ1M hZ11 hs28Z hset hs28 hov1 hov2 hov2' hok1 hK1 hok hol
     cases bn
     ·
      repeat' (first |refine zx1 rfl ?_ |refine zE (by intro; simp (disch := omega) only [go_sem, hw0, hia1, hxd, hyd, Nat.mul_one]; rfl) ?_ |refine zx2 (by intro; simp (disch := omega) only [go_sem, Option.bind_eq_bind, hZN, hovo, zat, Nat.zero_add]; rfl) ?_ |refine zy1 ?_ |refine zy2 ?_ |refine zy3 ?_ |(simp only [fl1, fl4]) |refine zx4 ?_ |refine zF rfl (by intro; simp (disch := omega) only [go_sem, hia1, hcut6b, hM3, hN3, hio, Nat.mul_one, Nat.zero_add, Int.zero_sub]; rfl) rfl ?_ |refine WT.big rfl rfl (by intro; simp (disch := omega) only [go_sem, hcut6b, hM3, hN3, hio]; rfl) (by simp (disch := omega) only [go_sem, zbh]; rfl) (by first | exact .inl rfl | exact .inr (zan _) | exact .inr trivial | (right; apply zau; simp only [zaR, zNA, zCA, List.getElem?_cons_succ, List.getElem?_cons_zero, Tch.free, and_true, true_and]; first | done | omega)) (by simp only [pt8, pt0, pt4]; rfl) ?_)
      refine zha (h29.mono ?_);rintro u m' rfl;refine ⟨zdN hR3 _, ?_⟩;simp only [pt8, pt2]
      repeat' (first |refine zE (by intro; simp (disch := omega) only [go_sem]; rfl) ?_ |refine zy2 ?_ |refine zy3 ?_ |(simp only [zbr]))
      exact ⟨m - 1, by omega, _, i + 1, _, o.set i x, decide (¬ y = 0), rfl, rfl, rfl, rfl, rfl, rfl, rfl, rfl, rfl, rfl, rfl, rfl, rfl, by omega, hC', hol', hok', hbt _ (by simp)⟩
     ·
      repeat' (first |refine zN rfl ?_ |refine zE (by intro; simp (disch := omega) only [go_sem, hw0, hia1, hxd, Nat.mul_one]; rfl) ?_ |refine zx2 (by intro; simp (disch := omega) only [go_sem, Option.bind_eq_bind, hZN, hovo, zat, Nat.zero_add]; rfl) ?_ |refine zy1 ?_ |refine zy2 ?_ |refine zy3 ?_ |(simp only [fl1, fl4]) |refine zx4 ?_ |refine zF rfl (by intro; simp (disch := omega) only [go_sem, hia1, hcut6b, hM3, hN3, hio, Nat.mul_one, Nat.zero_add, Int.zero_sub]; rfl) rfl ?_ |refine WT.big rfl rfl (by intro; simp (disch := omega) only [go_sem, hcut6b, hM3, hN3, hio]; rfl) (by simp (disch := omega) only [go_sem, zbh]; rfl) (by first | exact .inl rfl | exact .inr (zan _) | exact .inr trivial | (right; apply zau; simp only [zaR, zNA, zCA, List.getElem?_cons_succ, List.getElem?_cons_zero, Tch.free, and_true, true_and]; first | done | omega)) (by simp only [pt8, pt0, pt4]; rfl) ?_)
      refine zha (h29.mono ?_);rintro u m' rfl;refine ⟨zdN hR3 _, ?_⟩;simp only [pt8, pt2]
      repeat' (first |refine zE (by intro; simp (disch := omega) only [go_sem]; rfl) ?_ |refine zy2 ?_ |refine zy3 ?_ |(simp only [zbr]))
      exact ⟨m - 1, by omega, _, i + 1, _, o.set i x, true, rfl, rfl, rfl, rfl, rfl, rfl, rfl, rfl, rfl, rfl, rfl, rfl, rfl, by omega, hC', hol', hok', hbt _ (by simp)⟩
    ·have hie : i = cs.length := by omega
     subst hie;clear hm
     have hcr := cr_is (rows := zaL cs) (v := v) (o := o) (q := p) hp64 (by rw [<- hqw]; exact hw0) (by rw [hol, hvl]) fun k hk => by rw [<- hqw]; exact hok k (by omega)
     rw [<- hqw, hvl] at hcr;have hnil := zpf (rows := zaL cs) (v := v) (f := fun k => (crN (zaL cs) v p k).tdiv w) (i := cs.length)
     have hps : ∀ j, zag (fun i => o.getD i 0 * ent (zaL cs) i j) cs.length = zag (fun k => (crN (zaL cs) v p k).tdiv w * ent (zaL cs) k j) cs.length := fun j => zac fun k hk => by rw [hok k hk]
     have hrsl := zda (zaL cs) v (fun k => (crN (zaL cs) v p k).tdiv w) cs.length
     have hno : ∀ (h : ¬ ∃ c, IsC (zaL cs) v c), zdB cs v = 4 /\ xCn cs v = .snil := fun h => by
      have e : zdB cs v = 4 := by unfold zdB; rw [if_pos ⟨ha, hb⟩, if_neg h]
      exact ⟨e, by unfold xCn; rw [e]; rfl⟩
     cases bn
     ·have hz0 : ∀ k, k < cs.length -> (crN (zaL cs) v p k).tmod w = 0 := fun k hk => Classical.byContradiction fun h => Bool.noConfusion (hbn.2 ⟨k, hk, h⟩)
      have hre := hC.2.2.2;have hzl : zaa zer6 = [.int .i64 0, .int .i64 0, .int .i64 0, .int .i64 0, .int .i64 0, .int .i64 0] := rfl;have hce := ceq6 hrsl (show zer6.length = 6 from rfl);have hrc := zav hrsl;rw [hzl] at hce
      by_cases hr0 : zjm (zaL cs) v (fun k => (crN (zaL cs) v p k).tdiv w) cs.length = zer6
      ·have hisc : IsC (zaL cs) v o := ⟨by rw [hol, hvl], fun j hj => by rw [hvl, hps j]; exact hnil.1 hr0 j hj⟩
       have hco := zqb (by rw [hvl]; exact hrk) hisc
       have hoi : IntS (.sval true cs.length (zaa o)) o := by
        have := IntS.mk o true;rw [hol] at this;exact this
       have hs30 := x30b (m := ⟨Y, []⟩) hz hoi (by omega) (hz.byVal _) (zlY hC.2.2.1 hol);rw [decide_eq_true hr0] at hce;have hNo := znf hC.2.2.1 hol
       by_cases hacc : zft cs o
       ·have e : zdB cs v = 0 := by unfold zdB; rw [if_pos ⟨ha, hb⟩, if_pos ⟨o, hisc⟩, hco, if_pos hacc]
        have e2 : xCn cs v = .sval true cs.length (zaa o) := by unfold xCn; rw [if_pos e, hco]
        rw [e, e2];rw [decide_eq_true hacc] at hs30;clear hcr hnil hps hno hbn hok hisc hco;generalize zjm (zaL cs) v (fun k => (crN (zaL cs) v p k).tdiv w) cs.length = r at *
        repeat' (first |refine zx1 rfl ?_ |refine zE (by intro; simp (disch := omega) only [go_sem, zaZ, hre, hrc, hce]; rfl) ?_ |refine zS rfl rfl (hs30) ?_ |refine zy1 ?_ |refine zy2 ?_ |refine zy3 ?_ |(simp only [fl1]) |refine zy9 rfl ?_ |refine zy6 ?_ |refine zy8 ?_ |refine zy7 ?_ |refine zy5 ?_ |refine zy4 rfl (fun hp => ?_) (fun hp => ?_) <;> try (exfalso; first | omega | contradiction))
        exact ⟨_, rfl, ze7 hNo⟩
       ·have e : zdB cs v = 3 := by unfold zdB; rw [if_pos ⟨ha, hb⟩, if_pos ⟨o, hisc⟩, hco, if_neg hacc]
        have e2 : xCn cs v = .snil := by unfold xCn; rw [e]; rfl
        rw [e, e2];rw [decide_eq_false hacc] at hs30;clear hcr hnil hps hno hbn hok hisc hco;generalize zjm (zaL cs) v (fun k => (crN (zaL cs) v p k).tdiv w) cs.length = r at *
        repeat' (first |refine zx1 rfl ?_ |refine zE (by intro; simp (disch := omega) only [go_sem, zaZ, hre, hrc, hce]; rfl) ?_ |refine zS rfl rfl (hs30) ?_ |refine zy1 ?_ |refine zy2 ?_ |refine zy3 ?_ |(simp only [fl1, fl2, fl5]) |refine zy0 rfl ?_ |refine zy9 rfl ?_ |refine zy8 ?_ |refine zy7 ?_ |refine zy5 ?_ |refine zy4 rfl (fun hp => ?_) (fun hp => ?_) <;> try (exfalso; first | omega | contradiction))
        exact ⟨_, rfl, rfl⟩
      ·obtain ⟨e1, e2⟩ := hno fun h => hr0 (hnil.2 fun j hj => by rw [(hcr.1 h).2 j hj, hps j])
       rw [e1, e2];rw [decide_eq_false hr0] at hce;clear hcr hnil hps hno hbn hok;generalize zjm (zaL cs) v (fun k => (crN (zaL cs) v p k).tdiv w) cs.length = r at *
       repeat' (first |refine zx1 rfl ?_ |refine zE (by intro; simp (disch := omega) only [go_sem, zaZ, hre, hrc, hce]; rfl) ?_ |refine zy1 ?_ |refine zy2 ?_ |refine zy3 ?_ |(simp only [fl1, fl2, fl5]) |refine zy0 rfl ?_ |refine zy8 ?_ |refine zy7 ?_ |refine zy5 ?_ |refine zy4 rfl (fun hp => ?_) (fun hp => ?_) <;> try (exfalso; first | omega | contradiction))
       exact ⟨_, rfl, rfl⟩
     ·obtain ⟨k0, hk0, hk1⟩ := hbn.1 rfl
      obtain ⟨e1, e2⟩ := hno fun h => hk1 ((hcr.1 h).1 k0 hk0)
      rw [e1, e2]
      repeat' (first |refine zN rfl ?_ |refine zE (by intro; simp (disch := omega) only [go_sem]; rfl) ?_ |refine zy1 ?_ |refine zy2 ?_ |refine zy3 ?_ |(simp only [fl1, fl2, fl5]) |refine zy0 rfl ?_ |refine zy8 ?_ |refine zy7 ?_ |refine zy5 ?_ |refine zy4 rfl (fun hp => ?_) (fun hp => ?_) <;> try (exfalso; first | omega | contradiction))
      exact ⟨_, rfl, rfl⟩
 ·have e1 : zdB cs v = 1 := by unfold zdB; rw [if_neg hok]
  have e2 : xCn cs v = .snil := by unfold xCn; rw [e1]; rfl
  rw [e1, e2]
  by_cases ha : NmOk cs
  ·have hb : ¬ okB 48 v := fun h => hok ⟨ha, h⟩
   rw [decide_eq_true ha] at hs26;rw [decide_eq_false hb] at hs61;refine zx0 rfl (zaz Tryd.func10 zqx) (by show 2 <= 113; decide) ?_;unfold ir10;simp only [zaw, List.replicate, zNA, zAN]
   repeat' (first |refine zx1 rfl ?_ |refine zE (by intro; simp (disch := omega) only [go_sem, hcc, lc0, zNA]; rfl) ?_ |refine zS rfl rfl (hs26 _) ?_ |refine zS rfl rfl (hs61 _) ?_ |refine zy1 ?_ |refine zy2 ?_ |refine zy3 ?_ |(simp only [fl1, fl2]) |refine zy0 rfl ?_ |refine zy7 ?_)
   exact ⟨_, rfl, rfl⟩
  ·rw [decide_eq_false ha] at hs26;refine zx0 rfl (zaz Tryd.func10 zqx) (by show 2 <= 113; decide) ?_;unfold ir10;simp only [zaw, List.replicate, zNA, zAN]
   repeat' (first |refine zN rfl ?_ |refine zE (by intro; simp (disch := omega) only [go_sem, zNA]; rfl) ?_ |refine zS rfl rfl (hs26 _) ?_ |refine zy1 ?_ |refine zy2 ?_ |refine zy3 ?_ |(simp only [fl1, fl2]) |refine zy0 rfl ?_ |refine zy7 ?_)
   exact ⟨_, rfl, rfl⟩
theorem x10 {z : AV} {cs : List Nm} {v : List Int} (hz : NmL z cs) (hv6 : v.length = 6) {m : Mem} {z' : AV} (h0 : Zz.byVal m.heap z' = some z) : zaA D10 10 [z', .agg (zaa v)] m = some (.tuple [xCn cs v, .int .i64 (zdB cs v)], m) :=
 zaS (zal h0 (zal (byI _ _) rfl)) (g10 hz hv6)
noncomputable def D11 : Env := D10.put 10 (zaA D10 10)
theorem zp1 : EnvOk Tryd.prog D11 := Env.put_ok zpZ (za6 zpZ (zaq Tryd.func10 (by kernel_rfl)))
end Go.Proofs.YtgchabldcnmccabDoor

