import Derived.Test.YtgchabldcnmccabDoorCB
import Derived.Test.YtgchabldcnmccabDoorUPV
import Derived.Test.YtgchabldcnmccabDoorUPl

set_option linter.unusedSimpArgs false
set_option linter.unusedVariables false

namespace Go.Proofs.YtgchabldcnmccabDoor
open Go.Zz
set_option maxRecDepth 100000
set_option maxHeartbeats 8000000
theorem zoR {Γ : Env} {rd : List DOper} {ms : List Nat} {tch : List Tch} {T T' : List AV} {H : Hp} {L : List (Option ALoop)} {Q : St -> Prop} {d : Nat} {f : Opd} {args : List Opd} {fv v : AV} {xs : List AV} (js : List Nat)
  (hf : f.ev T = fv) (ha : args.map (·.ev T) = xs) (hj : ∀ j ∈ js, zbW tch ms (.blk j))
  (h : ∀ V : Hp, V.length = H.length -> (∀ j ∈ js, V[j]? = H[j]?) -> WF Γ fv xs ⟨V, L⟩ fun y m' => y = v /\ m' = ⟨V, L⟩)
  (ht : pt T d v = T') (k : WT Γ rd ⟨T', H, L⟩ (tch ++ [.all]) Q) : WT Γ (⟨⟨none, some d, .call f args⟩, ms⟩ :: rd) ⟨T, H, L⟩ tch Q := by
 refine ⟨fun seen hs => ?_⟩;have hp := PartL.strikes hs.le ms (PartL.refl H);refine WD.call rfl ?_;rw [hf, ha];refine (h _ hp.len fun j hjm => zbD hs.le ms rfl fun i hi e he => ?_).mono ?_
 ·have hl : i < tch.length := by rw [<- hs.len]; exact (List.getElem?_eq_some_iff.1 he).1
  exact hs.away i e _ he (List.getElem?_eq_getElem hl) j (hj j hjm i hi _ (List.getElem?_eq_getElem hl))
 ·rintro y _ ⟨rfl, rfl⟩;refine ⟨zby _, ?_⟩;simp only [St.put, hp.back, hp.len, ht];exact k.run _ (hs.app (Nat.le_refl _) (Nat.le_refl _) fun j hj => hj.elim)
def zce : Nat -> Int
 | 0 => 1
 | n + 1 => 288 * zce n
theorem zh9 : ∀ n, 0 <= zce n
 | 0 => by decide
 | n + 1 => by have := zh9 n; show 0 <= 288 * zce n; omega
theorem zlf : ∀ n ≤ 6, zce n <= 570630428688384 := by decide +kernel
theorem zkg {x M P : Int} (hx : -48 <= x /\ x <= 48) (hM : -P <= M /\ M <= P) : -(48 * P) <= x * M /\ x * M <= 48 * P := by
 obtain ⟨h1, h2⟩ := zhe (x := x) hM
 have h0 : 0 <= P := by omega
 have ha : zbm x <= 48 := by unfold zbm; split <;> omega
 have := Int.mul_le_mul_of_nonneg_right ha h0;omega
def B48 (e : Nat -> Nat -> Int) : Prop := ∀ i j, -48 <= e i j /\ e i j <= 48
theorem zeW {e : Nat -> Nat -> Int} (he : B48 e) : ∀ (is us : List Nat), us.length <= 6 -> (-zce is.length <= zab e is us /\ zab e is us <= zce is.length)
 | [], us, _ => by simp [zab, zce]
 | i :: is, us, hu => by
  have key : ∀ n, n <= us.length -> -((n : Int) * (48 * zce is.length)) <= zdy (fun p => e i (us.getD p 0) * zab e is (us.eraseIdx p)) n /\ zdy (fun p => e i (us.getD p 0) * zab e is (us.eraseIdx p)) n <= (n : Int) * (48 * zce is.length) := by
   intro n
   induction n with
   | zero => intro _; simp [zdy]
   | succ n ih =>
    intro hn;obtain ⟨a1, a2⟩ := ih (by omega);have hm := zeW he is (us.eraseIdx n) (by rw [List.length_eraseIdx]; split <;> omega);have hx := zkg (he i (us.getD n 0)) hm;simp only [zdy]
    have e1 : ((n + 1 : Nat) : Int) * (48 * zce is.length) = (n : Int) * (48 * zce is.length) + 48 * zce is.length := by
     rw [Int.natCast_add, Int.add_mul]; simp
    rw [e1]
    rcases zjT n with h | h
    ·rw [h, Int.one_mul]; omega
    ·rw [h, Int.neg_mul, Int.one_mul]; omega
  have h1 := key us.length (Nat.le_refl _);have h0 := zh9 is.length;have h2 : (us.length : Int) * (48 * zce is.length) <= 6 * (48 * zce is.length) := Int.mul_le_mul_of_nonneg_right (by omega) (by omega);have e2 : zce (i :: is).length = 288 * zce is.length := rfl;rw [e2]
  show -(288 * zce is.length) <= zdy _ us.length /\ zdy _ us.length <= _
  omega
theorem zfU {e : Nat -> Nat -> Int} (he : B48 e) (i : Nat) (is us : List Nat) (hu : us.length <= 6) : ∀ n, n <= us.length -> -((n : Int) * (48 * zce is.length)) <= zdy (fun p => e i (us.getD p 0) * zab e is (us.eraseIdx p)) n /\ zdy (fun p => e i (us.getD p 0) * zab e is (us.eraseIdx p)) n <= (n : Int) * (48 * zce is.length) := by
 intro n
 induction n with
 | zero => intro _; simp [zdy]
 | succ n ih =>
  intro hn;obtain ⟨a1, a2⟩ := ih (by omega);have hm := zeW he is (us.eraseIdx n) (by rw [List.length_eraseIdx]; split <;> omega);have hx := zkg (he i (us.getD n 0)) hm;simp only [zdy]
  have e1 : ((n + 1 : Nat) : Int) * (48 * zce is.length) = (n : Int) * (48 * zce is.length) + 48 * zce is.length := by
   rw [Int.natCast_add, Int.add_mul]; simp
  rw [e1]
  rcases zjT n with h | h
  ·rw [h, Int.one_mul]; omega
  ·rw [h, Int.neg_mul, Int.one_mul]; omega
theorem g54 {H : Hp} {L : List (Option ALoop)} {l : AV} {rows : List (List Int)} {r b : Nat} (hl : RwL l rows) (hr : Zz.look H r 0 = some [l]) (hb : Zz.look H b 0 = some [.func 54 [] [.pref r 0 0, .pref b 0 0]]) (he : B48 (ent rows)) (h6 : rows.length <= 6) :
  ∀ (n i q : Nat), n + i = rows.length -> q < 64 -> WF D7 (.func 54 [] [.pref r 0 0, .pref b 0 0]) [.int .i64 (i : Nat), .int .i64 (q : Nat)] ⟨H, L⟩ fun y m' => y = .int .i64 (zab (ent rows) (List.range' i n) (zbk q)) /\ m' = ⟨H, L⟩
 | 0, i, q, hn, hq => by
  have hll := hl.len
  have hie : i = rows.length := by omega
  subst hie;refine zx0 rfl (zaz Tryd.func54 zsp) (by show 4 <= 48; decide) ?_;unfold ir54;simp only [zaw, List.replicate, zNA, zCA]
  repeat' (first |refine zE (by intro; simp (disch := omega) only [go_sem, hr]; rfl) ?_ |refine WO.opE (by intro; exact zaf (by simp only [go_sem]; first | rfl | assumption)) (by simp only [pt8, pt5]; rfl) ?_ |refine zy1 ?_ |refine zy2 ?_ |refine zy3 ?_ |(simp only [fl1, fl2]) |refine zy0 rfl ?_ |refine zy7 ?_)
  exact ⟨_, rfl, rfl, rfl⟩
 | n + 1, i, q, hn, hq => by
  have hll := hl.len
  have hil : i < rows.length := by omega
  have h66 := hl.six hil;have hrow := hl.at hil;have hcut := zcu (t := zet rows i) h66;obtain ⟨p6, pl⟩ := zll q hq;refine zx0 rfl (zaz Tryd.func54 zsp) (by show 4 <= 48; decide) ?_;unfold ir54;simp only [zaw, List.replicate, zNA, zCA]
  repeat' (first |refine zE (by intro; simp (disch := omega) only [go_sem, hr, hrow, hcut]; rfl) ?_ |refine WO.opE (by intro; exact zaf (by simp only [go_sem]; first | rfl | assumption)) (by simp only [pt8, pt5]; rfl) ?_ |refine zy1 ?_ |refine zy2 ?_ |refine zy3 ?_ |(simp only [fl1]) |refine zy6 ?_ |refine zy5 ?_ |refine zy4 rfl (fun hp => ?_) (fun hp => ?_) <;> try (exfalso; first | omega | contradiction))
  refine zx9 (fun m st => ∃ T j S0 s0, st = ⟨T, H, L⟩ /\ T.length = 48 /\ gt T 0 = .int .i64 (i : Nat) /\ gt T 1 = .int .i64 (q : Nat) /\ gt T 2 = .pref r 0 0 /\ gt T 3 = .pref b 0 0 /\ gt T 7 = .int .i64 S0 /\ gt T 8 = .int .i64 s0 /\ gt T 18 = .agg (zaa (rw_ rows i)) /\ gt T 19 = .int .i64 (j : Nat) /\ m + j = 6 /\ S0 = zdy (fun p => ent rows i ((zbk q).getD p 0) * zab (ent rows) (List.range' (i + 1) n) ((zbk q).eraseIdx p)) (zhk q j) /\ s0 = sg (zhk q j)) ?_ 6 _ ⟨_, 0, 0, 1, rfl, rfl, rfl, rfl, rfl, rfl, rfl, rfl, rfl, rfl, by omega, rfl, rfl⟩;rintro m _ ⟨T, j, S0, s0, rfl, hT, g0, g1, g2, g3, g7, g8, g18, g19, hm, hS0, hs0⟩;obtain ⟨f, rfl⟩ := exG hT;clear hT;change f 0 = _ at g0;change f 1 = _ at g1;change f 2 = _ at g2;change f 3 = _ at g3;change f 7 = _ at g7;change f 8 = _ at g8;change f 18 = _ at g18;change f 19 = _ at g19;simp only [tb, Nat.reduceAdd, g0, g1, g2, g3, g7, g8, g18, g19]
  by_cases hj : j < 6
  ·have hat := zaK (r := rw_ rows i) (j := j) (by omega);have hix : idx (.int .i64 (j : Int)) 6 = some j := zbb hj;have hlt : q / 2 ^ j % 2 < 2 := Nat.mod_lt _ (by decide);have hq64 : q / 2 ^ j < 64 := Nat.lt_of_le_of_lt (Nat.div_le_self _ _) hq
   by_cases hbit : q / 2 ^ j % 2 = 0
   ·have hps := zrm q hq j hj hbit
    have hz0 : ((q / 2 ^ j % 2 : Nat) : Int) = 0 := by omega
    repeat' (first |refine zE (by intro; exact zkD rfl rfl hq hj) ?_ |refine zE (by intro; exact zh5 rfl rfl hq64) ?_ |refine zE (by intro; simp (disch := omega) only [go_sem, hat, hix, hz0, Nat.mul_one]; rfl) ?_ |refine zy1 ?_ |refine zy2 ?_ |refine zy3 ?_ |(simp only [fl1, zbr]) |refine zy0 rfl ?_ |refine zy6 ?_ |refine zy8 ?_ |refine zy5 ?_ |refine zy4 rfl (fun hp => ?_) (fun hp => ?_) <;> try (exfalso; first | omega | contradiction))
    exact ⟨m - 1, by omega, _, j + 1, S0, s0, rfl, rfl, rfl, rfl, rfl, rfl, rfl, rfl, rfl, rfl, by omega, by rw [hps]; exact hS0, by rw [hps]; exact hs0⟩
   ·have hb1 : q / 2 ^ j % 2 = 1 := by omega
    have hz1 : ((q / 2 ^ j % 2 : Nat) : Int) = 1 := by omega
    obtain ⟨m1, m2, m3, m4, m5⟩ := zrH q hq j hj hb1
    have hent : ent rows i ((zbk q).getD (zhk q j) 0) = (rw_ rows i).getD j 0 := by rw [m2]; rfl
    have hx1 := he i j;have hx2 : ent rows i j = (rw_ rows i).getD j 0 := rfl;rw [hx2] at hx1
    have hil' : (List.range' (i + 1) n).length = n := by simp
    have hM := zeW he (List.range' (i + 1) n) (zbk (q - 2 ^ j)) (zll _ m5).2;have hbp := zfU he i (List.range' (i + 1) n) (zbk q) pl (zhk q j) (by omega);have hbp1 := zfU he i (List.range' (i + 1) n) (zbk q) pl (zhk q j + 1) (by omega);rw [hil'] at hM hbp hbp1;have hpw := zlf n (by omega);have hpn := zh9 n;have hpm : ((zhk q j : Nat) : Int) * (48 * zce n) <= 6 * (48 * zce n) := Int.mul_le_mul_of_nonneg_right (by omega) (by omega);have hpm1 : ((zhk q j + 1 : Nat) : Int) * (48 * zce n) <= 6 * (48 * zce n) := Int.mul_le_mul_of_nonneg_right (by omega) (by omega)
    have hnx : zdy (fun p => ent rows i ((zbk q).getD p 0) * zab (ent rows) (List.range' (i + 1) n) ((zbk q).eraseIdx p)) (zhk q j + 1) = zdy (fun p => ent rows i ((zbk q).getD p 0) * zab (ent rows) (List.range' (i + 1) n) ((zbk q).eraseIdx p)) (zhk q j) + sg (zhk q j) * ((rw_ rows i).getD j 0 * zab (ent rows) (List.range' (i + 1) n) (zbk (q - 2 ^ j))) := by
     simp only [zdy, hent, m1]
    have hsg := zde (zhk q j);have hso := zjT (zhk q j)
    have ih := fun (V : Hp) hr hb => g54 (H := V) (L := L) (r := r) (b := b) hl hr hb he h6 n (i + 1) (q - 2 ^ j) (by omega) m5
    rw [<- m4] at hnx hsg;rw [<- hS0, <- hs0] at hnx;rw [<- hS0] at hbp;rw [<- m4] at hbp1 hpm1;rw [<- hs0] at hsg hso;generalize hS1 : zdy (fun p => ent rows i ((zbk q).getD p 0) * zab (ent rows) (List.range' (i + 1) n) ((zbk q).eraseIdx p)) (zhk q (j + 1)) = S1 at *;generalize zab (ent rows) (List.range' (i + 1) n) (zbk (q - 2 ^ j)) = M at *;generalize (rw_ rows i).getD j 0 = x at *;generalize hs1g : sg (zhk q (j + 1)) = s1 at *;have hxM : s0 * x * M = s0 * (x * M) := Int.mul_assoc _ _ _
    have hsx : -48 <= s0 * x /\ s0 * x <= 48 := by rcases hso with h | h <;> rw [h] <;> omega
    have hxm := zkg hx1 hM
    have hdiff : s0 * x * M = S1 - S0 := by omega
    have hneg : -s0 = s1 := by omega
    have hfin : -9000000000000000000 <= s0 * x * M /\ s0 * x * M <= 9000000000000000000 := by rw [hxM]; rcases hso with h | h <;> rw [h] <;> omega
    have hfin2 : -9000000000000000000 <= S0 + s0 * x * M /\ S0 + s0 * x * M <= 9000000000000000000 := by omega
    have hcast : ((i : Nat) : Int) + 1 = ((i + 1 : Nat) : Int) := by omega
    rw [<- hcast] at ih
    by_cases hx0 : x = 0
    ·have hx01 := hx0
     have hSS : S1 = S0 := by rw [hx0, Int.mul_zero, Int.zero_mul] at hdiff; omega
     repeat' (first |refine zE (by intro; exact zkD rfl rfl hq hj) ?_ |refine zE (by intro; exact zh5 rfl rfl hq64) ?_ |refine zE (by intro; simp (disch := omega) only [go_sem, hat, hix, hz1, Nat.mul_one, Int.zero_sub]; rfl) ?_ |refine zy1 ?_ |refine zy2 ?_ |refine zy3 ?_ |(simp only [fl1, zbr]) |refine zy9 rfl ?_ |refine zy6 ?_ |refine zy5 ?_ |refine zy4 rfl (fun hp => ?_) (fun hp => ?_) <;> try (exfalso; first | omega | contradiction))
     exact ⟨m - 1, by omega, _, j + 1, S0, -s0, rfl, rfl, rfl, rfl, rfl, rfl, rfl, rfl, rfl, rfl, by omega, by rw [hS1]; exact hSS.symm, by rw [hs1g]; exact hneg⟩
    ·have hx01 := hx0
     repeat' (first |refine zE (by intro; exact zkD rfl rfl hq hj) ?_ |refine zE (by intro; exact zh5 rfl rfl hq64) ?_ |refine zF rfl (by intro; exact ztj rfl rfl hj) rfl ?_ |refine zF rfl (by intro; exact zs1 rfl rfl hq hj hb1) rfl ?_ |refine zE (by intro; simp (disch := omega) only [go_sem, hat, hix, hz1, Nat.mul_one]; rfl) ?_ |refine zy1 ?_ |refine zy2 ?_ |refine zy3 ?_ |(simp only [fl1]) |refine zx4 ?_ |refine zF rfl (by intro; simp (disch := omega) only [go_sem, hz1, hb]; rfl) rfl ?_ |refine WT.big rfl rfl (by intro; simp (disch := omega) only [go_sem, hz1, hb]; rfl) (by simp (disch := omega) only [go_sem, hz1, zbh]; rfl) (by first | exact .inl rfl | exact .inr (zan _) | exact .inr trivial | (right; apply zau; simp only [zaR, zNA, zCA, List.getElem?_cons_succ, List.getElem?_cons_zero, Tch.free, and_true, true_and]; first | done | omega)) (by simp only [pt8, pt2]; rfl) ?_ |refine zy9 rfl ?_ |refine zy6 ?_ |refine zy5 ?_ |refine zy4 rfl (fun hp => ?_) (fun hp => ?_) <;> try (exfalso; first | omega | contradiction))
     refine zoR [r, b] rfl rfl (fun j _ => zan _) (fun V hVl hVj => ih V ((zad (hVj r (by simp))).trans hr) ((zad (hVj b (by simp))).trans hb)) (by simp only [pt8, pt1]; rfl) ?_
     repeat' (first |refine zE (by intro; simp (disch := omega) only [go_sem, Int.zero_sub]; rfl) ?_ |refine zy2 ?_ |refine zy3 ?_ |(simp only [zbr]) |refine zx6 ?_ |refine zF rfl (by intro; simp (disch := omega) only [go_sem]; rfl) rfl ?_)
     exact ⟨m - 1, by omega, _, j + 1, S0 + s0 * x * M, -s0, rfl, rfl, rfl, rfl, rfl, rfl, rfl, rfl, rfl, rfl, by omega, by rw [hS1]; omega, by rw [hs1g]; exact hneg⟩
  ·have hje : j = 6 := by omega
   subst hje
   repeat' (first |refine zE (by intro; simp (disch := omega) only [go_sem]; rfl) ?_ |refine zy1 ?_ |refine zy2 ?_ |refine zy3 ?_ |(simp only [fl1]) |refine zy9 rfl ?_ |refine zy8 ?_ |refine zy7 ?_)
   refine ⟨_, rfl, ?_, rfl⟩;simp only [zbo, gt6];rw [hS0, p6];rfl
theorem g28 {l : AV} {rows : List (List Int)} (hl : RwL l rows) (he : B48 (ent rows)) (h6 : rows.length <= 6) {q : Nat} (hq : q < 64) :
  WF D7 (.func 28 [] []) [l, .int .i64 (q : Nat)] ⟨[], []⟩ fun y m' => y = .int .i64 (zab (ent rows) (List.range' 0 rows.length) (zbk q)) := by
 have hlc := SL.cells hl;unfold AV.cells at hlc;refine zx0 rfl (zaz Tryd.func28 cir28) (by show 2 <= 10; decide) ?_;unfold ir28;simp only [zaw, List.replicate, zNA, zAN]
 repeat' (first |refine zE (by intro; simp (disch := omega) only [go_sem, Zz.look, zCA, zNA, hlc, List.map_cons, List.map_nil]; rfl) ?_ |refine zx2 (by intro; simp (disch := omega) only [go_sem, Zz.look, zaF, Option.bind_eq_bind, zat, List.set_cons_zero, List.set_cons_succ]; rfl) ?_ |refine zy1 ?_ |refine zy2 ?_ |refine zy3 ?_ |(simp only [fl1]))
 have h54 := g54 (H := [some ⟨0, [l]⟩, some ⟨0, [.func 54 [] [.pref 0 0 0, .pref 1 0 0]]⟩]) (L := []) (r := 0) (b := 1) hl rfl rfl he h6 rows.length 0 q rfl hq;refine WO.call rfl rfl (h54.mono ?_);rintro v m' ⟨rfl, rfl⟩;simp only [pt8, pt1]
 repeat' (first |refine zE (by intro; simp (disch := omega) only [go_sem]; rfl) ?_ |refine zy3 ?_ |refine zy7 ?_)
 exact ⟨_, rfl, rfl⟩
theorem x28 {l l' : AV} {rows : List (List Int)} (hl : RwL l rows) (he : B48 (ent rows)) (h6 : rows.length <= 6) {q : Nat} (hq : q < 64) {m : Mem} (h0 : Zz.byVal m.heap l' = some l) :
  zaA D7 28 [l', .int .i64 (q : Nat)] m = some (.int .i64 (zab (ent rows) (List.range' 0 rows.length) (zbk q)), m) :=
 zaS (zal h0 (zal rfl rfl)) ((g28 hl he h6 hq).mono fun y m' h => by rw [h]; rfl)
noncomputable def D8 : Env := D7.put 28 (zaA D7 28)
theorem zsJ : EnvOk Tryd.prog D8 := Env.put_ok zs7 (za6 zs7 (zaq Tryd.func28 (by kernel_rfl)))
theorem zfy {e : Nat -> Nat -> Int} {f : Nat -> Nat} : ∀ (is us : List Nat), zab e (is.map f) us = zab (fun i => e (f i)) is us
 | [], us => rfl
 | i :: is, us => by
  rw [List.map_cons, zaY, zaY]
  exact zac fun p _ => by rw [zfy is]
theorem zgY {e g : Nat -> Nat -> Int} : ∀ {is us : List Nat}, (∀ i ∈ is, ∀ j ∈ us, e i j = g i j) -> zab e is us = zab g is us
 | [], us, _ => rfl
 | i :: is, us, h => by
  rw [zaY, zaY]
  refine zac fun p hp => ?_
  have hm : us.getD p 0 ∈ us := by
   rw [List.getD_eq_getElem?_getD, List.getElem?_eq_getElem hp];exact List.getElem_mem hp
  rw [h i (by simp) _ hm, zgY fun a ha b hb => h a (by simp [ha]) b (List.mem_of_mem_eraseIdx hb)]
def zr0 (e : Nat -> Nat -> Int) (i : Nat) (v : Nat -> Int) : Nat -> Nat -> Int := fun k j => if k = i then v j else e k j
theorem zl5 {e : Nat -> Nat -> Int} {v c : Nat -> Int} {n i : Nat} {js : List Nat} (hi : i < n) (hv : ∀ j ∈ js, v j = zag (fun k => c k * e k j) n) : zab (zr0 e i v) (List.range' 0 n) js = c i * zab e (List.range' 0 n) js := by
 have hL : ((List.range' 0 n).map (· + 1)).length = n := by simp
 have hg : ∀ l, l < n -> ((List.range' 0 n).map (· + 1)).getD l 0 = l + 1 := fun l hl => by simp [List.getD_eq_getElem?_getD, hl]
 have e1 : zab e (List.range' 0 n) js = zab (fun k j => match k with | 0 => v j | k + 1 => e k j) ((List.range' 0 n).map (· + 1)) js := by
  rw [zfy]
 have e2 : zab (zr0 e i v) (List.range' 0 n) js = zab (fun k j => match k with | 0 => v j | k + 1 => e k j) (((List.range' 0 n).map (· + 1)).set i 0) js := by
  have : ((List.range' 0 n).map (· + 1)).set i 0 = (List.range' 0 n).map (fun k => if k = i then 0 else k + 1) := by
   apply List.ext_getElem (by simp);intro a h1 h2
   by_cases ha : i = a
   ·subst ha;simp
   ·rw [List.getElem_set_ne ha];simp [Ne.symm ha]
  rw [this, zfy]
  refine zgY fun a _ j _ => ?_
  unfold zr0
  by_cases ha : a = i
  ·simp only [ha, if_true]
  ·simp only [ha, if_false]
 rw [e1, e2];generalize hE : (fun (k : Nat) (j : Nat) => match k with | 0 => v j | k + 1 => e k j) = E at *;generalize hLL : (List.range' 0 n).map (· + 1) = L at *
 have h1 := zdL (e := E) (D := 1) (b := 0) (m := n) (c := c) (a := fun l => l + 1) (pre := L.take i) (post := L.drop (i + 1)) (us := js) fun j hj => by
  rw [<- hE, Int.one_mul];exact hv j hj
 rw [<- zcr (by omega), Int.one_mul] at h1
 rw [h1, zbe (k := i) hi fun t ht hne => by
  rw [<- zcr (by omega), <- hg t ht]
  by_cases h0 : zab E (L.set i (L.getD t 0)) js = 0
  ·rw [h0, Int.mul_zero]
  ·exact absurd (zeq h0) (zjo (by omega) (by omega) (Ne.symm hne)), <- zcr (by omega), <- hg i hi, zkG (by omega)]
theorem zlJ {is : List Nat} {n : Nat} (hn : is.Nodup) (hl : is.length = n) (h : ∀ x ∈ is, x < n) : is.Perm (List.range' 0 n) := by
 refine (List.perm_ext_iff_of_nodup hn List.nodup_range').2 fun x => ⟨fun hx => by simpa using h x hx, fun hx => ?_⟩
 have hx : x < n := by simpa using hx
 apply Classical.byContradiction;intro hni
 have := zk9 (m := n) (l := x :: is) (List.nodup_cons.2 ⟨hni, hn⟩) (fun y hy => by
  rcases List.mem_cons.1 hy with rfl | hy
  ·exact hx
  ·exact h y hy)
 simp only [List.length_cons] at this;omega
def zpR (js : List Nat) : Nat := (js.map fun j => 2 ^ j).sum
def ziL : List Nat -> List (List Nat)
 | [] => [[]]
 | a :: l => ziL l ++ (ziL l).map (a :: ·)
theorem zmW {a b : List Nat} (h : a.Sublist b) : a ∈ ziL b := by
 induction h with
 | slnil => simp [ziL]
 | cons x _ ih => simp only [ziL, List.mem_append]; exact .inl ih
 | cons_cons x _ ih => simp only [ziL, List.mem_append]; exact .inr (List.mem_map.2 ⟨_, ih, rfl⟩)
theorem zqW : ∀ js ∈ ziL [0, 1, 2, 3, 4, 5], zbk (zpR js) = js /\ zpR js < 64 := by decide +kernel
theorem zii {rows : List (List Int)} (hr : zb1 rows = rows.length) : ∃ q, q < 64 /\ (zbk q).length = rows.length /\ zab (ent rows) (List.range' 0 rows.length) (zbk q) ≠ 0 := by
 obtain ⟨hF, _⟩ := zbY (rows := rows) (ord := [0, 1, 2, 3, 4, 5]) (k := 6) (by decide);have hj := hF.sub;have hm : (frame rows [0, 1, 2, 3, 4, 5] 6).js ∈ ziL [0, 1, 2, 3, 4, 5] := zmW hj;obtain ⟨m1, m2⟩ := zqW _ hm;have hlen : (frame rows [0, 1, 2, 3, 4, 5] 6).is.length = rows.length := hr;refine ⟨_, m2, by rw [m1, <- hF.len]; exact hlen, ?_⟩;rw [m1];have hp := zlJ hF.nodup hlen hF.i;obtain ⟨s, hs⟩ := zfE (e := ent rows) hp;intro h0;refine hF.ne ?_;rw [hF.d, hs, h0, Int.mul_zero]
def IsC (rows : List (List Int)) (v : List Int) (c : List Int) : Prop := c.length = rows.length /\ ∀ j, j < 6 -> vF v j = zag (fun i => c.getD i 0 * ent rows i j) rows.length
open Classical in
noncomputable def zhD (rows : List (List Int)) (v : List Int) : List Int := if h : ∃ c, IsC rows v c then Classical.choose h else []
def crN (rows : List (List Int)) (v : List Int) (q i : Nat) : Int := zab (zr0 (ent rows) i (vF v)) (List.range' 0 rows.length) (zbk q)
def crW (rows : List (List Int)) (q : Nat) : Int := zab (ent rows) (List.range' 0 rows.length) (zbk q)
theorem ztN : ∀ q < 64, ∀ j ∈ zbk q, j < 6 := by decide +kernel
theorem IsC.cr {rows : List (List Int)} {v c : List Int} (h : IsC rows v c) {q i : Nat} (hq : q < 64) (hi : i < rows.length) : crN rows v q i = c.getD i 0 * crW rows q :=
 zl5 (c := fun k => c.getD k 0) hi fun j hj => h.2 j (ztN q hq j hj)
theorem IsC.quo {rows : List (List Int)} {v c : List Int} (h : IsC rows v c) {q i : Nat} (hq : q < 64) (hi : i < rows.length) (hW : crW rows q ≠ 0) : (crN rows v q i).tmod (crW rows q) = 0 /\ (crN rows v q i).tdiv (crW rows q) = c.getD i 0 := by
 rw [h.cr hq hi];exact ⟨Int.mul_tmod_left _ _, Int.mul_tdiv_cancel _ hW⟩
theorem IsC.uniq {rows : List (List Int)} {v c d : List Int} (hr : zb1 rows = rows.length) (h : IsC rows v c) (h' : IsC rows v d) : c = d := by
 obtain ⟨q, hq, _, hW⟩ := zii hr
 refine zbf (by rw [h.1, h'.1]) fun i hi => ?_
 rw [<- (h.quo hq (by rw [<- h.1]; exact hi) hW).2, <- (h'.quo hq (by rw [<- h.1]; exact hi) hW).2]
theorem zqb {rows : List (List Int)} {v c : List Int} (hr : zb1 rows = rows.length) (h : IsC rows v c) : zhD rows v = c := by
 have hex : ∃ c, IsC rows v c := ⟨c, h⟩
 unfold zhD;rw [dif_pos hex];exact (Classical.choose_spec hex).uniq hr h
theorem znr {rows : List (List Int)} {v : List Int} (h : ∃ c, IsC rows v c) : IsC rows v (zhD rows v) := by
 unfold zhD;rw [dif_pos h];exact Classical.choose_spec h
theorem cr_is {rows : List (List Int)} {v o : List Int} {q : Nat} (hq : q < 64) (hW : crW rows q ≠ 0) (hl : o.length = rows.length) (ho : ∀ i, i < rows.length -> o.getD i 0 = (crN rows v q i).tdiv (crW rows q)) :
  (∃ c, IsC rows v c) ↔ (∀ i, i < rows.length -> (crN rows v q i).tmod (crW rows q) = 0) /\ ∀ j, j < 6 -> vF v j = zag (fun i => o.getD i 0 * ent rows i j) rows.length := by
 constructor
 ·rintro ⟨c, hc⟩
  have hco : c = o := zbf (by rw [hc.1, hl]) fun i hi => by rw [ho i (by rw [<- hc.1]; exact hi), (hc.quo hq (by rw [<- hc.1]; exact hi) hW).2]
  subst hco;exact ⟨fun i hi => (hc.quo hq hi hW).1, hc.2⟩
 ·rintro ⟨_, h2⟩;exact ⟨o, hl, h2⟩
theorem zf8 {rows : List (List Int)} {v : List Int} : (∃ c, IsC rows v c) ↔ zd5 (ent rows) rows.length (vF v) := by
 constructor
 ·rintro ⟨c, _, h⟩;exact Sp.of_coef h
 ·intro h;obtain ⟨c, hc⟩ := h.coef;refine ⟨(List.range rows.length).map c, by simp, fun j hj => ?_⟩;rw [hc j hj]
  refine zac fun i hi => ?_
  have : ((List.range rows.length).map c).getD i 0 = c i := by simp [List.getD_eq_getElem?_getD, hi]
  rw [this]
set_option maxRecDepth 100000
set_option maxHeartbeats 8000000
def ziB (v : List Int) (n : Int) (c : List Int) (j : Nat) : List Int := (List.range 6).map fun t => if t < j then v.getD t 0 + n * c.getD t 0 else v.getD t 0
theorem zbX (v : List Int) (n : Int) (c : List Int) (j : Nat) : (ziB v n c j).length = 6 := by simp [ziB]
theorem zfq {v : List Int} {n : Int} {c : List Int} {j t : Nat} (h : t < 6) : (ziB v n c j).getD t 0 = if t < j then v.getD t 0 + n * c.getD t 0 else v.getD t 0 := by
 simp [ziB, List.getD_eq_getElem?_getD, h]
theorem zne {v : List Int} {n : Int} {c : List Int} (h6 : v.length = 6) : ziB v n c 0 = v := zbf (by rw [zbX, h6]) fun t ht => by
 rw [zbX] at ht;rw [zfq ht, if_neg (by omega)]
theorem zmP {v : List Int} {n : Int} {c : List Int} {j : Nat} (hj : j < 6) : (ziB v n c j).set j (v.getD j 0 + n * c.getD j 0) = ziB v n c (j + 1) := zbf (by simp [zbX]) fun t ht => by
 have ht : t < 6 := by simpa [zbX] using ht
 rw [zfq ht]
 by_cases e : j = t
 ·subst e;rw [zaD (by rw [zbX]; exact hj), if_pos (by omega)]
 ·rw [zay e, zfq ht]
  by_cases h : t < j
  ·rw [if_pos h, if_pos (by omega)]
  ·rw [if_neg h, if_neg (by omega)]
theorem f29 {E : Env} (hE : E.spec 29 = none) (hF : E.fn 29 = some ir29) {H : Hp} {L : List (Option ALoop)} {b : Nat} {v c : List Int} {n : Int} (hb : Zz.look H b 0 = some (zaa v)) (hv6 : v.length = 6) (hc6 : c.length = 6) (hbd : ∀ j, j < 6 -> (-9000000000000000000 <= n * c.getD j 0 /\ n * c.getD j 0 <= 9000000000000000000) /\ -9000000000000000000 <= v.getD j 0 + n * c.getD j 0 /\ v.getD j 0 + n * c.getD j 0 <= 9000000000000000000) :
  WF E (.func 29 [] []) [.pref b 0 0, .agg (zaa c), .int .i64 n] ⟨H, L⟩ fun _ m' => m' = ⟨H.set b (some ⟨0, zaa (ziB v n c 6)⟩) ++ [some ⟨0, zaa c⟩], L⟩ := by
 have hcc := zav hc6
 have hcl : (zaa c).length = 6 := by rw [zae, hc6]
 have hbl : b < H.length := Classical.byContradiction fun hh => by
  rw [Zz.look, List.getElem?_eq_none (by omega)] at hb
  cases hb
 have hlk : ∀ w : List Int, Zz.look (H.set b (some ⟨0, zaa w⟩) ++ [some ⟨0, zaa c⟩]) b 0 = some (zaa w) := fun w => by
  simp [Zz.look, List.getElem?_append_left, hbl]
 have hst : ∀ w w' : List Int, (H.set b (some ⟨0, zaa w⟩) ++ ([some ⟨0, zaa c⟩] : Hp)).set b (some ⟨0, zaa w'⟩) = H.set b (some ⟨0, zaa w'⟩) ++ ([some ⟨0, zaa c⟩] : Hp) := fun w w' => by
  rw [zoT (by simpa using hbl), List.set_set]
 have hH0 : H = H.set b (some ⟨0, zaa (ziB v n c 0)⟩) := by
  rw [zne hv6];apply List.ext_getElem (by simp);intro i h1 h2
  by_cases e : b = i
  ·subst e;rw [List.getElem_set_self];have := zaC.1 hb;rw [List.getElem?_eq_getElem h1] at this;exact Option.some.inj this
  ·rw [List.getElem_set_ne e]
 refine zx0 hE hF (by show 3 <= 25; decide) ?_;unfold ir29;simp only [zaw, List.replicate, zNA, zAN]
 repeat' (first |refine zE (by intro; simp (disch := omega) only [go_sem, hcc, lk0]; rfl) ?_ |refine zy1 ?_ |refine zy2 ?_ |refine zy3 ?_ |(simp only [fl1]) |refine zy5 ?_)
 refine zx9 (fun m st => ∃ T j, st = ⟨T, H.set b (some ⟨0, zaa (ziB v n c j)⟩) ++ [some ⟨0, zaa c⟩], L⟩ /\ T.length = 25 /\ gt T 0 = .pref b 0 0 /\ gt T 2 = .int .i64 n /\ gt T 8 = .agg (zaa c) /\ gt T 9 = .int .i64 (j : Nat) /\ m + j = 6) ?_ 6 _ ⟨_, 0, by rw [<- hH0], rfl, rfl, rfl, rfl, rfl, by omega⟩;clear hH0;rintro m _ ⟨T, j, rfl, hT, g0, g2, g8, g9, hm⟩;obtain ⟨f, rfl⟩ := exG hT;clear hT;change f 0 = _ at g0;change f 2 = _ at g2;change f 8 = _ at g8;change f 9 = _ at g9;simp only [tb, Nat.reduceAdd, g0, g2, g8, g9]
 by_cases hj : j < 6
 ·have hia := zaK (r := c) (j := j) (by omega);have hib := zaK (r := ziB v n c j) (j := j) (by rw [zbX]; omega);rw [zfq hj, if_neg (by omega)] at hib;have hov := zbp (r := ziB v n c j) (j := j) (by rw [zbX]; omega) (v.getD j 0 + n * c.getD j 0);rw [zmP hj] at hov;have hix : idx (.int .i64 (j : Int)) 6 = some j := zbb hj;obtain ⟨b1, b2⟩ := hbd j hj;have hk := hlk (ziB v n c j);have hs := hst (ziB v n c j) (ziB v n c (j + 1));generalize H.set b (some ⟨0, zaa (ziB v n c j)⟩) ++ [some ⟨0, zaa c⟩] = X at *;generalize c.getD j 0 = x at *;generalize v.getD j 0 = y at *;generalize hP : n * x = P at *;have hP2 : n * x = P := hP
  repeat' (first |refine zE (by intro; simp (disch := omega) only [go_sem, hia, hib, hix, hk, hP2, Nat.mul_one, Nat.zero_add]; rfl) ?_ |refine zx2 (by intro; simp (disch := omega) only [go_sem, Option.bind_eq_bind, hov, hk, hs, Nat.zero_add, zat]; rfl) ?_ |refine zy1 ?_ |refine zy2 ?_ |refine zy3 ?_ |(simp only [fl1, zbr]) |refine zx5 rfl ?_ |refine zy6 ?_ |refine zy5 ?_ |refine zy4 rfl (fun hp => ?_) (fun hp => ?_) <;> try (exfalso; first | omega | contradiction))
  exact ⟨m - 1, by omega, _, j + 1, rfl, rfl, rfl, rfl, rfl, rfl, by omega⟩
 ·have hje : j = 6 := by omega
  subst hje
  repeat' (first |refine zE (by intro; simp (disch := omega) only [go_sem]; rfl) ?_ |refine zy1 ?_ |refine zy2 ?_ |refine zy3 ?_ |(simp only [fl3, fl6, fl9]) |refine zy9 rfl ?_ |refine zy8 ?_)
  exact ⟨_, rfl, rfl⟩
def zft (cs : List Nm) (ns : List Int) : Prop := ns.length = cs.length /\ (∀ i, i < ns.length -> -1000 <= ns.getD i 0 /\ ns.getD i 0 <= 1000) /\ NmOk cs
instance (cs : List Nm) (ns : List Int) : Decidable (zft cs ns) := by unfold zft; infer_instance
theorem g30 {z y : AV} {cs : List Nm} {ns : List Int} (hz : NmL z cs) (hy : IntS y ns) (hn : ns.length < 9223372036854775808) : WF D8 (.func 30 [] []) [z, y] ⟨[], []⟩ fun u m' => u = .bool (decide (zft cs ns)) := by
 have hyl := hy.len
 have hs26 := fun m => s26b (m := m) hz
 refine zx0 rfl (zaz Tryd.func30 cir30) (by show 2 <= 29; decide) ?_;unfold ir30;simp only [zaw, List.replicate, zNA, zAN]
 repeat' (first |refine zE (by intro; simp (disch := omega) only [go_sem]; rfl) ?_ |refine WO.opE (by intro; exact zaf (by simp only [go_sem]; first | rfl | assumption)) (by simp only [pt8, pt0]; rfl) ?_ |refine zy1 ?_ |refine zy2 ?_ |refine zy3 ?_ |(simp only [fl1]) |refine zy5 ?_)
 refine zx9 (fun m st => ∃ T i, st = ⟨T, [], []⟩ /\ T.length = 29 /\ gt T 0 = z /\ gt T 1 = y /\ gt T 7 = y /\ gt T 8 = .int .i64 (ns.length : Nat) /\ gt T 9 = .int .i64 (i : Nat) /\ m + i = ns.length /\ ∀ k, k < i -> -1000 <= ns.getD k 0 /\ ns.getD k 0 <= 1000) ?_ ns.length _ ⟨_, 0, rfl, rfl, rfl, rfl, rfl, rfl, rfl, by omega, fun k hk => by omega⟩;rintro m _ ⟨T, i, rfl, hT, g0, g1, g7, g8, g9, hm, hok⟩;obtain ⟨f, rfl⟩ := exG hT;clear hT;change f 0 = _ at g0;change f 1 = _ at g1;change f 7 = _ at g7;change f 8 = _ at g8;change f 9 = _ at g9;simp only [tb, Nat.reduceAdd, g0, g1, g7, g8, g9]
 by_cases hi : i < ns.length
 ·have hat := hy.atI (i := (i : Int)) (by omega) (by omega);rw [show ((i : Nat) : Int).toNat = i by omega] at hat
  by_cases hx : -1000 <= ns.getD i 0 /\ ns.getD i 0 <= 1000
  ·generalize hxi : ns.getD i 0 = x at *;obtain ⟨x1, x2⟩ := hx
   repeat' (first |refine zx1 rfl ?_ |refine zE (by intro; simp (disch := omega) only [go_sem, Int.reduceNeg, Int.reduceAdd, hat]; rfl) ?_ |refine zy1 ?_ |refine zy2 ?_ |refine zy3 ?_ |(simp only [fl1, zbr]) |refine zy6 ?_ |refine zy5 ?_ |refine zx7 rfl (by intro hp; simp only [hp, decide_true]; rfl) (by intro hp; simp only [hp, decide_false]; rfl) (fun hp => ?_) (fun hp => ?_) <;> try (exfalso; first | omega | contradiction) |refine zy4 rfl (fun hp => ?_) (fun hp => ?_) <;> try (exfalso; first | omega | contradiction))
   exact ⟨m - 1, by omega, _, i + 1, rfl, rfl, rfl, rfl, rfl, rfl, rfl, by omega, fun k hk => by
    by_cases e : k = i
    ·subst e; rw [hxi]; exact ⟨x1, x2⟩
    ·exact hok k (by omega)⟩
  ·rw [decide_eq_false fun h : zft cs ns => hx (h.2.1 i hi)];generalize ns.getD i 0 = x at *
   repeat' (first |refine zx1 rfl ?_ |refine zN rfl ?_ |refine zE (by intro; simp (disch := omega) only [go_sem, Int.reduceNeg, Int.reduceAdd, hat]; rfl) ?_ |refine zy1 ?_ |refine zy2 ?_ |refine zy3 ?_ |(simp only [fl1, fl2, fl5, fl8]) |refine zy0 rfl ?_ |refine zy6 ?_ |refine zy7 ?_ |refine zy5 ?_ |refine zx7 rfl (by intro hp; simp only [hp, decide_true]; rfl) (by intro hp; simp only [hp, decide_false]; rfl) (fun hp => ?_) (fun hp => ?_) <;> try (exfalso; first | omega | contradiction) |refine zy4 rfl (fun hp => ?_) (fun hp => ?_) <;> try (exfalso; first | omega | contradiction))
   all_goals first | exact ⟨_, rfl, rfl⟩ | (exfalso; omega)
 ·have hie : i = ns.length := by omega
  subst hie
  by_cases hl : ns.length = cs.length
  ·have hd : decide (zft cs ns) = decide (NmOk cs) := by
    rw [decide_eq_decide];exact ⟨fun h => h.2.2, fun h => ⟨hl, hok, h⟩⟩
   rw [hd]
   have hl1 : ((ns.length : Nat) : Int) = (cs.length : Int) := by omega
   repeat' (first |refine zx1 rfl ?_ |refine zE (by intro; simp (disch := omega) only [go_sem, hl1]; rfl) ?_ |refine WO.opE (by intro; exact zaf (by simp only [go_sem]; first | rfl | assumption)) (by simp only [pt8, pt5]; rfl) ?_ |refine zE (by intro; exact zaf (by simp only [go_sem]; exact hz.len)) ?_ |refine zS rfl rfl (hs26 _) ?_ |refine zy1 ?_ |refine zy2 ?_ |refine zy3 ?_ |(simp only [fl1]) |refine zy8 ?_ |refine zy7 ?_ |refine zy4 rfl (fun hp => ?_) (fun hp => ?_) <;> try (exfalso; first | omega | contradiction))
   all_goals first | exact ⟨_, rfl, rfl⟩ | skip
  ·rw [decide_eq_false fun h : zft cs ns => hl h.1]
   have hl1 : ¬ ((ns.length : Nat) : Int) = (cs.length : Int) := by omega
   repeat' (first |refine zN rfl ?_ |refine zE (by intro; simp (disch := omega) only [go_sem, hl1]; rfl) ?_ |refine WO.opE (by intro; exact zaf (by simp only [go_sem]; first | rfl | assumption)) (by simp only [pt8, pt5]; rfl) ?_ |refine zE (by intro; exact zaf (by simp only [go_sem]; exact hz.len)) ?_ |refine zy1 ?_ |refine zy2 ?_ |refine zy3 ?_ |(simp only [fl1]) |refine zy8 ?_ |refine zy7 ?_ |refine zy4 rfl (fun hp => ?_) (fun hp => ?_) <;> try (exfalso; first | omega | contradiction))
   all_goals first | exact ⟨_, rfl, rfl⟩ | skip
theorem x30b {z y z' y' : AV} {cs : List Nm} {ns : List Int} (hz : NmL z cs) (hy : IntS y ns) (hn : ns.length < 9223372036854775808) {m : Mem} (h0 : Zz.byVal m.heap z' = some z) (h1 : Zz.byVal m.heap y' = some y) : zaA D8 30 [z', y'] m = some (.bool (decide (zft cs ns)), m) :=
 zaS (zal h0 (zal h1 rfl)) ((g30 hz hy hn).mono fun y m' h => by rw [h]; rfl)
noncomputable def D9 : Env := D8.put 30 (zaA D8 30)
theorem zte : EnvOk Tryd.prog D9 := Env.put_ok zsJ (za6 zsJ (zaq Tryd.func30 (by kernel_rfl)))
set_option maxRecDepth 100000
set_option maxHeartbeats 8000000
def zhK (rows : List (List Int)) (ns : List Int) (i : Nat) : List Int := (List.range 6).map fun j => zag (fun k => ns.getD k 0 * ent rows k j) i
theorem zea (rows : List (List Int)) (ns : List Int) (i : Nat) : (zhK rows ns i).length = 6 := by simp [zhK]
theorem zfl {rows : List (List Int)} {ns : List Int} {i t : Nat} (h : t < 6) : (zhK rows ns i).getD t 0 = zag (fun k => ns.getD k 0 * ent rows k t) i := by
 simp [zhK, List.getD_eq_getElem?_getD, h]
theorem znY {rows : List (List Int)} {ns : List Int} {i : Nat} : ziB (zhK rows ns i) (ns.getD i 0) (rw_ rows i) 6 = zhK rows ns (i + 1) := zbf (by rw [zbX, zea]) fun t ht => by
 rw [zbX] at ht;rw [zfq ht, if_pos ht, zfl ht, zfl ht];rfl
theorem ziA {x y A B : Int} (hx : -A <= x /\ x <= A) (hy : -B <= y /\ y <= B) : -(A * B) <= x * y /\ x * y <= A * B := by
 have ha : zbm x <= A := by unfold zbm; split <;> omega
 have h0 : 0 <= B := by omega
 obtain ⟨h1, h2⟩ := zhe (x := x) hy;have := Int.mul_le_mul_of_nonneg_right ha h0;omega
theorem zov {rows : List (List Int)} {ns : List Int} (hr : ∀ k, okB 48 (rw_ rows k)) (hn : ∀ k, k < ns.length -> -1000 <= ns.getD k 0 /\ ns.getD k 0 <= 1000) : ∀ i, i <= ns.length -> ∀ t, t < 6 -> -(48000 * (i : Int)) <= (zhK rows ns i).getD t 0 /\ (zhK rows ns i).getD t 0 <= 48000 * (i : Int)
 | 0, _, t, ht => by rw [zfl ht]; simp [zag]
 | i + 1, hi, t, ht => by
  have h1 := zov hr hn i (by omega) t ht;rw [zfl ht] at h1 ⊢;have h2 := ziA (hn i (by omega)) (hr i t ht);have e : zag (fun k => ns.getD k 0 * ent rows k t) (i + 1) = zag (fun k => ns.getD k 0 * ent rows k t) i + ns.getD i 0 * (rw_ rows i).getD t 0 := rfl;rw [e];omega
def zew (cs : List Nm) (ns : List Int) : Int := if zft cs ns then if okB 48 (zhK (zaL cs) ns ns.length) then 0 else 3 else 1
def zeM (cs : List Nm) (ns : List Int) : List Int := if zft cs ns /\ okB 48 (zhK (zaL cs) ns ns.length) then zhK (zaL cs) ns ns.length else zer6
theorem NmL.byVal {x : AV} {cs : List Nm} (h : NmL x cs) (H : Hp) : Zz.byVal H x = some x := SL.byVal h.2 (Nm.flat cs) H
theorem zgn {cs : List Nm} (i : Nat) (hi : i < cs.length) : rw_ (zaL cs) i = (zbR cs i).v := by
 simp [rw_, zaL, zbR, List.getD_eq_getElem?_getD, hi]
theorem NmOk.b48 {cs : List Nm} (h : NmOk cs) (k : Nat) : okB 48 (rw_ (zaL cs) k) := by
 by_cases hk : k < cs.length
 ·rw [zgn k hk];exact (h.2.2.1 k hk).2
 ·have : rw_ (zaL cs) k = [] := by simp [rw_, zaL, List.getD_eq_getElem?_getD, hk]
  rw [this];intro j hj;simp
theorem g12 {z y : AV} {cs : List Nm} {ns : List Int} (hz : NmL z cs) (hy : IntS y ns) (hn : ns.length < 9223372036854775808) : WF D9 (.func 12 [] []) [z, y] ⟨[], []⟩ fun u m' => u = .tuple [.agg (zaa (zeM cs ns)), .int .i64 (zew cs ns)] := by
 have hyl := hy.len
 have hs30 := fun m : Mem => x30b (m := m) hz hy hn (hz.byVal _) (hy.byVal _)
 have hze : zaa zer6 = [.int .i64 0, .int .i64 0, .int .i64 0, .int .i64 0, .int .i64 0, .int .i64 0] := rfl;have hcw : Zz.cut [(.int .i64 0 : AV), .int .i64 0, .int .i64 0, .int .i64 0, .int .i64 0, .int .i64 0] 0 6 = some [.int .i64 0, .int .i64 0, .int .i64 0, .int .i64 0, .int .i64 0, .int .i64 0] := rfl
 by_cases ha : zft cs ns
 ·rw [decide_eq_true ha] at hs30;obtain ⟨a1, a2, a3⟩ := ha;have hvl := zbU cs;have h6n := a3.2.1;refine zx0 rfl (zaz Tryd.func12 zsT) (by show 2 <= 34; decide) ?_;unfold ir12;simp only [zaw, List.replicate, zNA, zAN]
  repeat' (first |refine zE (by intro; simp (disch := omega) only [go_sem]; rfl) ?_ |refine WO.opE (by intro; exact zaf (by simp only [go_sem]; first | rfl | assumption)) (by simp only [pt8, pt7]; rfl) ?_ |refine zS rfl rfl (hs30 _) ?_ |refine zy1 ?_ |refine zy2 ?_ |refine zy3 ?_ |(simp only [fl1]) |refine zy9 rfl ?_ |refine zy6 ?_ |refine zy5 ?_)
  refine zx9 (fun m st => ∃ T i R, st = ⟨T, some ⟨0, zaa zer6⟩ :: some ⟨0, zaa (zhK (zaL cs) ns i)⟩ :: R, []⟩ /\ T.length = 34 /\ gt T 0 = z /\ gt T 4 = .pref 0 0 0 /\ gt T 6 = .pref 1 0 0 /\ gt T 14 = y /\ gt T 15 = .int .i64 (ns.length : Nat) /\ gt T 16 = .int .i64 (i : Nat) /\ m + i = ns.length) ?_ ns.length _ ⟨_, 0, [], rfl, rfl, rfl, rfl, rfl, rfl, rfl, rfl, by omega⟩;rintro m _ ⟨T, i, R, rfl, hT, g0, g4, g6, g14, g15, g16, hm⟩;obtain ⟨f, rfl⟩ := exG hT;clear hT;change f 0 = _ at g0;change f 4 = _ at g4;change f 6 = _ at g6;change f 14 = _ at g14;change f 15 = _ at g15;change f 16 = _ at g16;simp only [tb, Nat.reduceAdd, g0, g4, g6, g14, g15, g16]
  by_cases hi : i < ns.length
  ·have hat := hy.atI (i := (i : Int)) (by omega) (by omega);rw [show ((i : Nat) : Int).toNat = i by omega] at hat;obtain ⟨⟨hw1, hw2⟩, hzt⟩ := hz.at (i := i) (by omega);have hbn := a2 i hi;have hbs := zov (fun k => a3.b48 k) a2 i (by omega);have hrb := a3.b48 i;have hnx := znY (rows := zaL cs) (ns := ns) (i := i);have hsl := zea (zaL cs) ns i;rw [zgn i (by omega)] at hrb hnx;generalize zhK (zaL cs) ns i = w at *;generalize ns.getD i 0 = x at *;generalize zbR cs i = c at *;obtain ⟨n, v⟩ := c;simp only at hw1 hw2 hzt hrb hnx
   have h29 := f29 (E := D9) (H := some ⟨0, zaa zer6⟩ :: some ⟨0, zaa w⟩ :: R) (L := []) (b := 1) (v := w) (c := v) (n := x) rfl (zaz Tryd.func29 zth) rfl hsl hw2 fun j hj => by
    have h1 := ziA hbn (hrb j hj);have h2 := hbs j hj;omega
   obtain ⟨v0, v1, v2, v3, v4, v5, rfl⟩ : ∃ v0 v1 v2 v3 v4 v5, v = [v0, v1, v2, v3, v4, v5] := by
    match v, hw2 with
    | [a, b, c, d, e, g], _ => exact ⟨a, b, c, d, e, g, rfl⟩
   simp only [List.map_cons, List.map_nil, zCA, zNA] at hzt
   have hcut6 : ∀ {x1 x2 x3 x4 x5 x6 : AV} {l : List AV}, Zz.cut (x1 :: x2 :: x3 :: x4 :: x5 :: x6 :: l) 0 6 = some [x1, x2, x3, x4, x5, x6] := fun {x1 x2 x3 x4 x5 x6 l} => by simp [Zz.cut]
   repeat' (first |refine zE (by intro; simp (disch := omega) only [go_sem, hat, hzt, hcut6, List.drop_succ_cons, List.drop_zero]; rfl) ?_ |refine zy1 ?_ |refine zy2 ?_ |refine zy3 ?_ |(simp only [fl1, fl4]) |refine zy6 ?_ |refine zy5 ?_ |refine zy4 rfl (fun hp => ?_) (fun hp => ?_) <;> try (exfalso; first | omega | contradiction))
   refine WO.call rfl rfl (h29.mono ?_);rintro u m' rfl;simp only [pt8, pt3, List.set_cons_zero, List.set_cons_succ, zCA]
   repeat' (first |refine zE (by intro; simp (disch := omega) only [go_sem]; rfl) ?_ |refine zy2 ?_ |refine zy3 ?_ |(simp only [zbr]))
   exact ⟨m - 1, by omega, _, i + 1, _, by rw [<- hnx], rfl, rfl, rfl, rfl, rfl, rfl, rfl, by omega⟩
  ·have hie : i = ns.length := by omega
   subst hie;have hsl := zea (zaL cs) ns ns.length
   have hs61 := fun m => s61 (m := m) hsl
   have hcc := zav hsl
   have hml : (zaa (zhK (zaL cs) ns ns.length)).length = 6 := by rw [zae, hsl]
   have hov := fun x0 x1 x2 x3 x4 x5 => zaN hsl (x0 := x0) (x1 := x1) (x2 := x2) (x3 := x3) (x4 := x4) (x5 := x5)
   by_cases hg : okB 48 (zhK (zaL cs) ns ns.length)
   ·rw [decide_eq_true hg] at hs61;have e1 : zeM cs ns = zhK (zaL cs) ns ns.length := if_pos ⟨⟨a1, a2, a3⟩, hg⟩
    have e2 : zew cs ns = 0 := by unfold zew; rw [if_pos ⟨a1, a2, a3⟩, if_pos hg]
    rw [e1, e2];generalize zhK (zaL cs) ns ns.length = w at *;have hcw2 := hcc;rw [hze]
    repeat' (first |refine zE (by intro; simp (disch := omega) only [go_sem, Zz.look, hcc]; rfl) ?_ |refine zx2 (by intro; simp (disch := omega) only [go_sem, Zz.look, Option.bind_eq_bind, hml, hov, zat, List.set_cons_zero]; rfl) ?_ |refine zS rfl rfl (hs61 _) ?_ |refine zy1 ?_ |refine zy2 ?_ |refine zy3 ?_ |(simp only [fl1]) |refine zy9 rfl ?_ |refine zy6 ?_ |refine zy8 ?_ |refine zy7 ?_ |refine zy4 rfl (fun hp => ?_) (fun hp => ?_) <;> try (exfalso; first | omega | contradiction))
    exact ⟨_, by simp only [zbZ, gt4, gt5, Zz.look, List.getElem?_cons_zero, za4, hcc, if_true, Option.bind_some, Option.map_some]; rfl, rfl⟩
   ·rw [decide_eq_false hg] at hs61
    have e1 : zeM cs ns = zer6 := if_neg fun h => hg h.2
    have e2 : zew cs ns = 3 := by unfold zew; rw [if_pos ⟨a1, a2, a3⟩, if_neg hg]
    rw [e1, e2];generalize zhK (zaL cs) ns ns.length = w at *;rw [hze]
    repeat' (first |refine zE (by intro; simp (disch := omega) only [go_sem, Zz.look, zaZ, hcc]; rfl) ?_ |refine zx2 (by intro; simp (disch := omega) only [go_sem, Zz.look, zfo, Option.bind_eq_bind, Nat.reduceAdd, zat, List.set_cons_zero]; rfl) ?_ |refine zS rfl rfl (hs61 _) ?_ |refine zy1 ?_ |refine zy2 ?_ |refine zy3 ?_ |(simp only [fl1, fl2]) |refine zy0 rfl ?_ |refine zy8 ?_ |refine zy7 ?_ |refine zy4 rfl (fun hp => ?_) (fun hp => ?_) <;> try (exfalso; first | omega | contradiction))
    exact ⟨_, by simp only [zbZ, gt4, gt5, Zz.look, List.getElem?_cons_zero, za4, hcw, if_true, Option.bind_some, Option.map_some]; rfl, rfl⟩
 ·rw [decide_eq_false ha] at hs30
  have e1 : zeM cs ns = zer6 := if_neg fun h => ha h.1
  have e2 : zew cs ns = 1 := if_neg ha;rw [e1, e2];refine zx0 rfl (zaz Tryd.func12 zsT) (by show 2 <= 34; decide) ?_;unfold ir12;simp only [zaw, List.replicate, zNA, zAN]
  repeat' (first |refine zE (by intro; simp (disch := omega) only [go_sem, zaZ]; rfl) ?_ |refine zx2 (by intro; simp (disch := omega) only [go_sem, Zz.look, zfo, Option.bind_eq_bind, Nat.reduceAdd, zat, List.set_cons_zero]; rfl) ?_ |refine zS rfl rfl (hs30 _) ?_ |refine zy1 ?_ |refine zy2 ?_ |refine zy3 ?_ |(simp only [fl1, fl2]) |refine zy0 rfl ?_ |refine zy7 ?_)
  exact ⟨_, by simp only [zbZ, gt4, gt5, Zz.look, List.getElem?_cons_zero, za4, hcw, if_true, Option.bind_some, Option.map_some]; rfl, rfl⟩
theorem s12 {z y : AV} {cs : List Nm} {ns : List Int} (hz : NmL z cs) (hy : IntS y ns) (hn : ns.length < 9223372036854775808) {m : Mem} : zar D9 12 [z, y] m = some (.tuple [.agg (zaa (zeM cs ns)), .int .i64 (zew cs ns)], m) :=
 zaB (by rw [List.all_cons, hz.pureA, List.all_cons, hy.pureA]; rfl) ((g12 hz hy hn).mono fun y m' h => by
  rw [h];simp only [Zz.resV, Zz.zr5, Zz.resA, zeE]
  rfl)
noncomputable def D10 : Env := D9.put 12 (zar D9 12)
theorem zpZ : EnvOk Tryd.prog D10 := Env.put_ok zte (zax zte (zaq Tryd.func12 (by kernel_rfl)))
end Go.Proofs.YtgchabldcnmccabDoor

