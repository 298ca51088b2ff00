import Derived.Test.YtnilimjkibimcaaNC
import Derived.Test.YtnilimjkibimcaaAbsI
set_option linter.unusedSimpArgs false
set_option linter.unusedVariables false

namespace Go.Proofs.Ytnilimjkibimcaa
open Go.Zz
def run (s : Nat) : Nat → List Nat
  | 0 => []
  | k + 1 => s :: run (s + 1) k
def nextC (n : Nat) : List Nat → Option (List Nat)
  | [] => none
  | a :: t => match nextC n t with
    | some t' => some (a :: t')
    | none => if a + (t.length + 1) < n then some (run (a + 1) (t.length + 1)) else none
def iterC (n : Nat) : Nat → List Nat → List (List Nat)
  | 0, _ => []
  | f + 1, at_ => at_ :: match nextC n at_ with
    | some a' => iterC n f a'
    | none => []
def combos (n k : Nat) : List (List Nat) := iterC n 531441 (run 0 k)
theorem run_len : ∀ (k s : Nat), (run s k).length = k
  | 0, _ => rfl
  | k + 1, s => by simp [run, run_len k (s + 1)]
theorem run_at : ∀ (k s t : Nat), t < k → (run s k).getD t 0 = s + t
  | 0, s, t, h => by omega
  | k + 1, s, 0, _ => rfl
  | k + 1, s, t + 1, h => by
    have := run_at k (s + 1) t (by omega)
    show (run (s + 1) k).getD t 0 = _
    omega
def Inc (n : Nat) : Nat → List Nat → Prop
  | _, [] => True
  | s, a :: t => s ≤ a ∧ a < n ∧ Inc n (a + 1) t
theorem Inc.room {n : Nat} : ∀ {s : Nat} {l : List Nat}, Inc n s l → s + l.length ≤ n ∨ l = []
  | s, [], _ => .inr rfl
  | s, [a], h => .inl (by have := h.1; have := h.2.1; simp; omega)
  | s, a :: b :: t, h => by
    rcases h.2.2.room with h2 | h2
    · exact .inl (by have := h.1; simp at h2 ⊢; omega)
    · cases h2
theorem Inc.mono {n : Nat} {s s' : Nat} {l : List Nat} (h : Inc n s l) (hs : s' ≤ s) : Inc n s' l := by
  cases l with
  | nil => trivial
  | cons a t => exact ⟨by have := h.1; omega, h.2.1, h.2.2⟩
theorem Inc.run {n : Nat} : ∀ {k s : Nat}, s + k ≤ n → Inc n s (run s k)
  | 0, _, _ => trivial
  | k + 1, s, h => ⟨Nat.le_refl _, by omega, Inc.run (by omega)⟩
theorem Inc.lt {n : Nat} : ∀ {s : Nat} {l : List Nat}, Inc n s l → ∀ x ∈ l, s ≤ x ∧ x < n
  | s, [], _, x, hx => by simp at hx
  | s, a :: t, h, x, hx => by
    rcases List.mem_cons.1 hx with rfl | hx
    · exact ⟨h.1, h.2.1⟩
    · have := h.2.2.lt x hx
      have := h.1
      omega
theorem Inc.nodup {n : Nat} : ∀ {s : Nat} {l : List Nat}, Inc n s l → l.Nodup
  | s, [], _ => List.nodup_nil
  | s, a :: t, h => List.nodup_cons.2 ⟨fun hm => by have := h.2.2.lt a hm; omega, h.2.2.nodup⟩
theorem Inc.okJ {s : Nat} {l : List Nat} (h : Inc 6 s l) : okJ l := ⟨h.nodup, fun x hx => (h.lt x hx).2⟩
theorem next_inc {n : Nat} : ∀ {s : Nat} {l l' : List Nat}, Inc n s l → nextC n l = some l' → Inc n s l' ∧ l'.length = l.length
  | s, [], l', _, h => by simp [nextC] at h
  | s, a :: t, l', hi, h => by
    unfold nextC at h
    split at h
    · rename_i t' ht
      obtain ⟨h1, h2⟩ := next_inc hi.2.2 ht
      simp only [Option.some.injEq] at h
      subst h
      exact ⟨⟨hi.1, hi.2.1, h1⟩, by simp [h2]⟩
    · split at h
      · rename_i hlt
        simp only [Option.some.injEq] at h
        subst h
        exact ⟨(Inc.run (by omega)).mono (by have := hi.1; omega), run_len _ _⟩
      · cases h
def val (n : Nat) : List Nat → Nat
  | [] => 0
  | a :: t => a * (n + 1) ^ t.length + val n t
theorem val_lt {n : Nat} : ∀ {s : Nat} {l : List Nat}, Inc n s l → val n l < (n + 1) ^ l.length
  | s, [], _ => by simp [val]
  | s, a :: t, h => by
    have ih := val_lt h.2.2
    have ha := h.2.1
    have := Nat.mul_le_mul_right ((n + 1) ^ t.length) (show a + 1 ≤ n by omega)
    simp only [val, List.length_cons, Nat.pow_succ]
    have e : (n + 1) ^ t.length * (n + 1) = n * (n + 1) ^ t.length + (n + 1) ^ t.length := by rw [Nat.mul_comm, Nat.add_mul, Nat.one_mul]
    rw [Nat.add_mul, Nat.one_mul] at this
    omega
theorem val_next {n : Nat} : ∀ {s : Nat} {l l' : List Nat}, Inc n s l → nextC n l = some l' → val n l < val n l'
  | s, [], l', _, h => by simp [nextC] at h
  | s, a :: t, l', hi, h => by
    unfold nextC at h
    split at h
    · rename_i t' ht
      have h1 := val_next hi.2.2 ht
      have h2 := (next_inc hi.2.2 ht).2
      simp only [Option.some.injEq] at h
      subst h
      simp only [val, h2]
      omega
    · split at h
      · simp only [Option.some.injEq] at h
        subst h
        have h1 := val_lt hi.2.2
        simp only [run, val, run_len]
        rw [Nat.add_mul, Nat.one_mul]
        omega
      · cases h
theorem pow_bd {n k : Nat} (hn : n ≤ 8) (hk : k ≤ 6) : (n + 1) ^ k ≤ 531441 := by
  have h1 := Nat.pow_le_pow_left (show n + 1 ≤ 9 by omega) k
  have h2 := Nat.pow_le_pow_right (show 0 < 9 by omega) hk
  have h3 : 9 ^ 6 = 531441 := by decide
  omega
theorem next_none {n : Nat} : ∀ {l : List Nat}, (∀ p, p < l.length → l.getD p 0 + (l.length - p) = n) → nextC n l = none
  | [], _ => rfl
  | a :: t, h => by
    unfold nextC
    rw [next_none (l := t) fun p hp => by have := h (p + 1) (by simpa using hp); simp at this ⊢; omega]
    have := h 0 (by simp)
    simp at this
    rw [if_neg (by omega)]
theorem next_some {n : Nat} : ∀ {l : List Nat} {i : Nat}, i < l.length → l.getD i 0 + (l.length - i) < n → (∀ p, i < p → p < l.length → l.getD p 0 + (l.length - p) = n) → nextC n l = some (l.take i ++ run (l.getD i 0 + 1) (l.length - i))
  | [], i, h, _, _ => by simp at h
  | a :: t, 0, _, h1, h2 => by
    unfold nextC
    rw [next_none (l := t) fun p hp => by have := h2 (p + 1) (by omega) (by simpa using hp); simp at this ⊢; omega]
    simp at h1
    simp [h1]
  | a :: t, i + 1, h0, h1, h2 => by
    unfold nextC
    rw [next_some (l := t) (i := i) (by simpa using h0) (by simp at h1 ⊢; omega) fun p hp1 hp2 => by have := h2 (p + 1) (by omega) (by simpa using hp2); simp at this ⊢; omega]
    simp
theorem Inc.max {n : Nat} : ∀ {s : Nat} {l : List Nat}, Inc n s l → ∀ p, p < l.length → l.getD p 0 + (l.length - p) ≤ n
  | s, [], _, p, hp => by simp at hp
  | s, a :: t, h, 0, _ => by
    have h1 := h.2.1
    rcases h.2.2.room with h2 | rfl
    · simp; omega
    · simp; omega
  | s, a :: t, h, p + 1, hp => by
    have := h.2.2.max p (by simpa using hp)
    simp at this ⊢
    omega
def lexLe : List Nat → List Nat → Prop
  | a :: t, c :: u => a < c ∨ a = c ∧ lexLe t u
  | _, _ => True
set_option maxRecDepth 100000
set_option maxHeartbeats 8000000
theorem f103 {a0 b0 : Nat} (ha : a0 ≤ 9000000000000000000) (hb : b0 ≤ 9000000000000000000) : WF E22 (.func 103 [] []) [.int .i64 (a0 : Nat), .int .i64 (b0 : Nat)] ⟨[], []⟩ fun y m' => y = .int .i64 ((Nat.gcd a0 b0 : Nat) : Int) := by
  refine WF.fnE rfl (fn_of Try.func103 cir103) (by show 2 ≤ 12; decide) ?_
  unfold ir103; dsimp only [k0, kI, mV, oO, oG]
  simp only [padTo, List.replicate, List.nil_append, List.append_nil]
  repeat' (first | (refine WO.opE (by intro; simp (disch := omega) only [go_sem]; rfl) (by simp only [pt4]; rfl) ?_) | (refine WC.seq ?_) | (refine WC.region ?_) | (refine WO.nil ?_) | (refine WC.block ?_))
  refine WC.loopI (fun m s => ∃ T a b, s = ⟨T, [], []⟩ ∧ T.length = 12 ∧ gt T 0 = .int .i64 (a : Nat) ∧ gt T 1 = .int .i64 (b : Nat) ∧ m = b ∧ a ≤ 9000000000000000000 ∧ b ≤ 9000000000000000000 ∧ Nat.gcd a b = Nat.gcd a0 b0) ?_ b0 _ ⟨_, a0, b0, rfl, rfl, rfl, rfl, rfl, ha, hb, rfl⟩
  rintro m _ ⟨T, a, b, rfl, hT, g0, g1, hmb, ha', hb', hg⟩
  obtain ⟨f, rfl⟩ := ex12 hT
  clear hT
  replace g0 : f 0 = .int .i64 (a : Nat) := g0
  replace g1 : f 1 = .int .i64 (b : Nat) := g1
  simp only [g0, g1]
  by_cases hb0 : b = 0
  · subst hb0
    rw [Nat.gcd_zero_right] at hg
    repeat' (first | (refine WO.opE (by intro; simp (disch := omega) only [go_sem]; rfl) (by simp only [pt8, pt3, pt4, pt5, pt6]; rfl) ?_) | (refine WC.seq ?_) | (refine WC.region ?_) | (refine WO.nil ?_) | (simp only [fl1]) | (refine WC.no rfl ?_) | (refine WC.exit ?_) | (refine WC.ret ?_))
    exact ⟨_, rfl, by show AV.int .i64 (a : Int) = _; rw [hg]⟩
  · have hrem : ((a : Nat) : Int).tmod (b : Int) = ((a % b : Nat) : Int) := by rw [Int.ofNat_tmod]
    have hlt := Nat.mod_lt a (show b > 0 by omega)
    have hb1 : ¬ (b : Int) = 0 := by omega
    have hgr : Nat.gcd b (a % b) = Nat.gcd a b := by rw [Nat.gcd_comm a b, Nat.gcd_rec b a, Nat.gcd_comm]
    repeat' (first | (refine WO.opE (by intro; simp (disch := omega) only [go_sem, hrem, hb1, if_false]; rfl) (by simp only [pt8, pt0, pt1, pt2, pt5, pt6, pt7]; rfl) ?_) | (refine WC.seq ?_) | (refine WC.region ?_) | (refine WO.nil ?_) | (simp only [fl1, fl4, fl10]) | (refine WC.calm rfl ?_) | (refine WC.yes rfl ?_) | (refine WC.skip ?_) | (refine WC.block ?_))
    exact ⟨a % b, by omega, _, b, a % b, rfl, rfl, rfl, rfl, rfl, by omega, by omega, by rw [hgr, hg]⟩
theorem s103 {a b : Nat} (ha : a ≤ 9000000000000000000) (hb : b ≤ 9000000000000000000) {m : Mem} : borrowE E22 103 [.int .i64 (a : Nat), .int .i64 (b : Nat)] m = some (.int .i64 ((Nat.gcd a b : Nat) : Int), m) :=
  borrowE_of rfl ((f103 ha hb).mono fun y m' h => by rw [h]; rfl)
noncomputable def E23 : Env := E22.put 103 (borrowE E22 103)
theorem E23_ok : EnvOk Try.prog E23 := Env.put_ok E22_ok (borrowE_ok E22_ok (callable Try.func103 (by kernel_rfl)))
theorem ncells_over {l : List Nat} {i x : Nat} (h : i < l.length) : Zz.over (ncells l) i [.int .i64 (x : Int)] = some (ncells (l.set i x)) := by
  rw [over_one (by rw [ncells_len]; exact h), ncells_set]
theorem icells_rep (k : Nat) : icells (List.replicate k 0) = ncells (List.replicate k 0) := by simp [icells, ncells]
theorem getN_set_self {v : List Nat} {j : Nat} {x : Nat} (h : j < v.length) : (v.set j x).getD j 0 = x := by
  rw [List.getD_eq_getElem?_getD, List.getElem?_set, if_pos rfl, if_pos h]
  rfl
theorem getN_set_ne {v : List Nat} {j k : Nat} {x : Nat} (h : j ≠ k) : (v.set j x).getD k 0 = v.getD k 0 := by
  rw [List.getD_eq_getElem?_getD, List.getElem?_set, if_neg h, ← List.getD_eq_getElem?_getD]
theorem getN_app_r {a b : List Nat} {t : Nat} (h : a.length ≤ t) : (a ++ b).getD t 0 = b.getD (t - a.length) 0 := by
  rw [List.getD_eq_getElem?_getD, List.getElem?_append_right h, ← List.getD_eq_getElem?_getD]
theorem getN_app_l {a b : List Nat} {t : Nat} (h : t < a.length) : (a ++ b).getD t 0 = a.getD t 0 := by
  rw [List.getD_eq_getElem?_getD, List.getElem?_append_left h, ← List.getD_eq_getElem?_getD]
theorem getN_take {a : List Nat} {i t : Nat} (h : t < i) : (a.take i).getD t 0 = a.getD t 0 := by
  rw [List.getD_eq_getElem?_getD, List.getElem?_take, if_pos h, ← List.getD_eq_getElem?_getD]
theorem getN_ext {a b : List Nat} (hl : a.length = b.length) (h : ∀ t, t < a.length → a.getD t 0 = b.getD t 0) : a = b := by
  apply List.ext_getElem hl
  intro i h1 h2
  have := h i h1
  rwa [List.getD_eq_getElem?_getD, List.getElem?_eq_getElem h1, List.getD_eq_getElem?_getD, List.getElem?_eq_getElem h2] at this
theorem f136 {E : Env} (hE : E.spec 136 = none) (hF : E.fn 136 = some ir136) {n k bk bn y : Nat} {H0 : Hp} {L : List (Option ALoop)} (I : List (List Nat) → Hp → Prop) (hn : n ≤ 8) (hk6 : k ≤ 6) (hk0 : 0 < k) (hkn : k ≤ n)
    (hbox0 : Zz.look H0 bk 0 = some [.int .i64 (k : Int)])
    (hI0 : ∀ B, I (combos n k) (H0 ++ [B]))
    (hbox : ∀ r H, I r H → Zz.look H bk 0 = some [.int .i64 (k : Int)] ∧ Zz.look H bn 0 = some [.int .i64 (n : Int)])
    (hst : ∀ r H B, I r H → I r (H.set H0.length B))
    (hy : ∀ c r H X, Inc n 0 c → c.length = k → I (c :: r) H → Zz.look H H0.length 0 = some (ncells c) → WF E (.yield y) [.sref H0.length 0 0 1 k (some k)] ⟨H, L ++ X⟩ fun v m' => v = .bool true ∧ (∃ X', m'.loops = L ++ X') ∧ I r m'.heap ∧ Zz.look m'.heap H0.length 0 = some (ncells c)) :
    WF E (.func 136 [] [.pref bk 0 0, .pref bn 0 0]) [.yield y] ⟨H0, L⟩ fun v m' => (∃ X, m'.loops = L ++ X) ∧ I [] m'.heap := by
  refine WF.fnE hE hF (by show 3 ≤ 69; decide) ?_
  unfold ir136; dsimp only [k0, kI, mV, oO, oG]
  simp only [padTo, List.replicate, List.nil_append, List.cons_append]
  have hbl := look_lt hbox0
  repeat' (first | (refine WO.opE (by intro; simp (disch := omega) only [go_sem, hbox0]; rfl) (by simp only [pt8, pt0, pt2, pt4]; rfl) ?_) | (refine WO.opE (by intro; exact ev_lenS (by simp only [go_sem]; first | rfl | assumption)) (by simp only [pt8, pt3]; rfl) ?_) | (refine WO.opE (by intro; exact mk_row (by omega) rfl rfl) (by simp only [pt8, pt1]; rfl) ?_) | (refine WC.seq ?_) | (refine WC.region ?_) | (refine WO.nil ?_) | (simp only [fl1]) | (refine WC.block ?_))
  refine WC.loopI (fun m s => ∃ T w i, s = ⟨T, H0 ++ [some ⟨0, ncells w⟩], L⟩ ∧ T.length = 69 ∧ gt T 0 = .yield y ∧ gt T 1 = .pref bk 0 0 ∧ gt T 2 = .pref bn 0 0 ∧ gt T 4 = .sref H0.length 0 0 1 k (some k) ∧ gt T 11 = .int .i64 (k : Nat) ∧ gt T 12 = .int .i64 (i : Nat) ∧ m + i = k ∧ w.length = k ∧ ∀ t, t < i → w.getD t 0 = t) ?_ k _ ⟨_, List.replicate k 0, 0, by rw [← icells_rep], rfl, rfl, rfl, rfl, rfl, rfl, rfl, by omega, by simp, fun t ht => by omega⟩
  rintro m _ ⟨T, w, i, rfl, hT, g0, g1, g2, g4, g11, g12, hm, hwl, hw⟩
  obtain ⟨f, rfl⟩ := ex69 hT
  clear hT
  replace g0 : f 0 = .yield y := g0
  replace g1 : f 1 = .pref bk 0 0 := g1
  replace g2 : f 2 = .pref bn 0 0 := g2
  replace g4 : f 4 = .sref H0.length 0 0 1 k (some k) := g4
  replace g11 : f 11 = .int .i64 (k : Nat) := g11
  replace g12 : f 12 = .int .i64 (i : Nat) := g12
  simp only [g0, g1, g2, g4, g11, g12]
  by_cases hik : i < k
  · have hix : indexAddrAV 1 (.sref H0.length 0 0 1 k (some k)) (.int .i64 (i : Int)) = some (.pref H0.length 0 i) := by rw [ia_sref, idx_nat hik]; simp
    have hov := ncells_over (l := w) (i := i) (x := i) (by omega)
    repeat' (first | (refine WO.opE (by intro; simp (disch := omega) only [go_sem, hix]; rfl) (by simp only [pt8, pt0, pt1, pt2, pt3, pt4, pt5, pt6, pt7]; rfl) ?_) | (refine WO.opN (by intro; simp (disch := omega) only [go_sem, Option.bind_eq_bind, app_s0, hov, lk0]; rfl) ?_) | (refine WC.seq ?_) | (refine WC.region ?_) | (refine WO.nil ?_) | (simp only [fl10]) | (refine WC.skip ?_) | (refine WC.block ?_) | (refine WC.em2 rfl (fun hp => ?_) (fun hp => ?_) <;> try (exfalso; first | omega | contradiction)))
    exact ⟨m - 1, by omega, _, w.set i i, i + 1, rfl, rfl, rfl, rfl, rfl, rfl, rfl, rfl, by omega, by simpa using hwl, fun t ht => by
      by_cases e : t = i
      · subst e; rw [getN_set_self (by omega)]
      · rw [getN_set_ne (by omega)]; exact hw t (by omega)⟩
  have hie : i = k := by omega
  subst hie
  have hwe : w = run 0 i := getN_ext (by rw [run_len, hwl]) fun t ht => by rw [hw t (by omega), run_at i 0 t (by omega)]; omega
  subst hwe
  have hI00 := hI0 (some ⟨0, ncells (run 0 i)⟩)
  have hlk0 : Zz.look (H0 ++ [some ⟨0, ncells (run 0 i)⟩]) H0.length 0 = some (ncells (run 0 i)) := lk0 rfl
  obtain ⟨bat, hbat⟩ : ∃ bat, bat = H0.length := ⟨_, rfl⟩
  repeat' (first | (refine WO.opE (by intro; simp (disch := omega) only [go_sem]; rfl) (by simp only [pt8, pt5]; rfl) ?_) | (refine WC.seq ?_) | (refine WC.region ?_) | (refine WO.nil ?_) | (simp only [fl1, fl3, fl6, fl9]) | (refine WC.exit ?_) | (refine WC.block ?_) | (refine WC.em2 rfl (fun hp => ?_) (fun hp => ?_) <;> try (exfalso; first | omega | contradiction)))
  refine WC.loopI (fun m s => ∃ T G X at_ fl, s = ⟨T, G, L ++ X⟩ ∧ T.length = 69 ∧ gt T 0 = .yield y ∧ gt T 1 = .pref bk 0 0 ∧ gt T 2 = .pref bn 0 0 ∧ gt T 4 = .sref bat 0 0 1 i (some i) ∧ m = 531441 - val n at_ ∧ Inc n 0 at_ ∧ at_.length = i ∧ m ≤ fl ∧ Zz.look G bat 0 = some (ncells at_) ∧ I (iterC n fl at_) G) ?_ (531441 - val n (run 0 i)) _ ⟨_, _, [], run 0 i, 531441, by rw [List.append_nil], rfl, rfl, rfl, rfl, by rw [hbat]; rfl, rfl, Inc.run (by omega), run_len _ _, by omega, by rw [hbat]; exact hlk0, hI00⟩
  rw [← hbat] at hst hy
  clear g0 g1 g2 g4 g11 g12 f hI00 hlk0 hw hwl hI0 hbl hbox0 hbat
  obtain ⟨k, hki⟩ : ∃ k, k = i := ⟨_, rfl⟩
  subst hki
  rintro m _ ⟨T, G, X, at_, fl, rfl, hT, g0, g1, g2, g4, hm0, hinc, hal, hfl, hlk, hI⟩
  obtain ⟨f, rfl⟩ := ex69 hT
  clear hT
  replace g0 : f 0 = .yield y := g0
  replace g1 : f 1 = .pref bk 0 0 := g1
  replace g2 : f 2 = .pref bn 0 0 := g2
  replace g4 : f 4 = .sref bat 0 0 1 k (some k) := g4
  simp only [g0, g1, g2, g4]
  have hvl := val_lt hinc
  have hpb := pow_bd (k := k) hn hk6
  rw [hal] at hvl
  obtain ⟨h1k, h1n⟩ := hbox _ _ hI
  obtain ⟨fl', rfl⟩ : ∃ f', fl = f' + 1 := ⟨fl - 1, by omega⟩
  have hit : iterC n (fl' + 1) at_ = at_ :: match nextC n at_ with | some a' => iterC n fl' a' | none => [] := rfl
  rw [hit] at hI
  repeat' (first | (refine WO.opE (by intro; simp (disch := omega) only [go_sem, h1k, h1n]; rfl) (by simp only [pt8, pt0, pt4, pt5, pt6, pt7]; rfl) ?_) | (refine WC.seq ?_) | (refine WC.region ?_) | (refine WO.nil ?_) | (simp only [fl1]) | (refine WC.skip ?_) | (refine WC.block ?_) | (refine WC.em2 rfl (fun hp => ?_) (fun hp => ?_) <;> try (exfalso; first | omega | contradiction)))
  refine WO.call rfl rfl ((hy at_ _ G X hinc hal hI hlk).mono ?_)
  rintro v ⟨G2, L2⟩ ⟨rfl, ⟨X2, rfl⟩, hI2, hlk2⟩
  simp only [pt8, pt1]
  obtain ⟨h2k, h2n⟩ := hbox _ _ hI2
  repeat' (first | (refine WO.opE (by intro; simp (disch := omega) only [go_sem, h2k]; rfl) (by simp only [pt8, pt2, pt3, pt4, pt6]; rfl) ?_) | (refine WC.seq ?_) | (refine WC.region ?_) | (refine WO.nil ?_) | (refine WC.no rfl ?_) | (refine WC.skip ?_) | (refine WC.block ?_))
  refine WC.loopI (fun m2 s => ∃ T p, s = ⟨T, G2, L ++ X2⟩ ∧ T.length = 69 ∧ gt T 0 = .yield y ∧ gt T 1 = .pref bk 0 0 ∧ gt T 2 = .pref bn 0 0 ∧ gt T 4 = .sref bat 0 0 1 k (some k) ∧ gt T 6 = .int .i64 (((p : Nat) : Int) - 1) ∧ m2 = p ∧ p ≤ k ∧ ∀ q, p ≤ q → q < k → at_.getD q 0 + (k - q) = n) ?_ k _ ⟨_, k, rfl, rfl, rfl, rfl, rfl, rfl, rfl, rfl, Nat.le_refl _, fun q h1 h2 => by omega⟩
  clear g0 g1 g2 g4 f
  rintro m2 _ ⟨T, p, rfl, hT, g0, g1, g2, g4, g6, hmp, hpk, hmax⟩
  obtain ⟨f, rfl⟩ := ex69 hT
  clear hT
  replace g0 : f 0 = .yield y := g0
  replace g1 : f 1 = .pref bk 0 0 := g1
  replace g2 : f 2 = .pref bn 0 0 := g2
  replace g4 : f 4 = .sref bat 0 0 1 k (some k) := g4
  replace g6 : f 6 = .int .i64 (((p : Nat) : Int) - 1) := g6
  simp only [g0, g1, g2, g4, g6]
  subst hmp
  by_cases hp0 : m2 = 0
  · subst hp0
    have hnn : nextC n at_ = none := next_none fun q hq => by rw [hal] at hq ⊢; exact hmax q (Nat.zero_le _) hq
    rw [hnn] at hI2
    have e1 : ¬ (0 ≤ ((0 : Nat) : Int) - 1) := by decide
    repeat' (first | (refine WO.noE rfl (by simp only [pt8, pt0, pt1, pt2, pt3, pt4, pt5, pt6, pt7]; rfl) ?_) | (refine WO.opE (by intro; simp (disch := omega) only [go_sem, e1, decide_false]; rfl) (by simp only [pt8, pt2, pt5, pt6, pt7]; rfl) ?_) | (refine WC.seq ?_) | (refine WC.region ?_) | (refine WO.nil ?_) | (simp only [fl1, fl2, fl5, fl8]) | (refine WC.calm rfl ?_) | (refine WC.yes rfl ?_) | (refine WC.no rfl ?_) | (refine WC.exit ?_) | (refine WC.ret ?_))
    exact ⟨_, rfl, ⟨X2, rfl⟩, hI2⟩
  obtain ⟨i, rfl⟩ : ∃ i, m2 = i + 1 := ⟨m2 - 1, by omega⟩
  have ei : ((i + 1 : Nat) : Int) - 1 = (i : Int) := by omega
  rw [ei] at g6
  simp only [ei]
  have hik : i < k := by omega
  have hix : indexAddrAV 1 (.sref bat 0 0 1 k (some k)) (.int .i64 (i : Int)) = some (.pref bat 0 i) := by rw [ia_sref, idx_nat hik]; simp
  have hat := ncells_get (l := at_) (k := i) (by omega)
  have hmx := hinc.max i (by omega)
  rw [hal] at hmx
  have hge : (0 : Int) ≤ (i : Int) := by omega
  by_cases he : at_.getD i 0 + (k - i) = n
  · have he1 : ((at_.getD i 0 : Nat) : Int) = (n : Int) - (k : Int) + (i : Int) := by omega
    have he2 : (((n : Int) - (k : Int) + (i : Int)) == ((n : Int) - (k : Int) + (i : Int))) = true := by simp
    repeat' (first | (refine WO.yes rfl ?_) | (refine WO.opE (by intro; simp (disch := omega) only [go_sem, hix, h2k, h2n, hlk2, hat, he1, he2]; rfl) (by simp only [pt8, pt0, pt1, pt2, pt3, pt4, pt5, pt6, pt7]; rfl) ?_) | (refine WC.seq ?_) | (refine WC.region ?_) | (refine WO.nil ?_) | (simp only [fl1, fl4, fl10]) | (refine WC.calm rfl ?_) | (refine WC.yes rfl ?_) | (refine WC.skip ?_) | (refine WC.block ?_))
    exact ⟨i, by omega, _, i, rfl, rfl, rfl, rfl, rfl, rfl, by first | rfl | omega, rfl, by omega, fun q h1 h2 => by
      by_cases e : q = i
      · subst e; exact he
      · exact hmax q (by omega) h2⟩
  · have he1 : ¬ ((at_.getD i 0 : Nat) : Int) = (n : Int) - (k : Int) + (i : Int) := by omega
    have hns := next_some (n := n) (l := at_) (i := i) (by omega) (by rw [hal]; omega) fun q h1 h2 => by rw [hal] at h2 ⊢; exact hmax q (by omega) h2
    rw [hal] at hns
    rw [hns] at hI2
    have hov := ncells_over (l := at_) (i := i) (x := at_.getD i 0 + 1) (by omega)
    have hcast : ((at_.getD i 0 : Nat) : Int) + 1 = ((at_.getD i 0 + 1 : Nat) : Int) := by omega
    have hb8 : at_.getD i 0 < 9 := by omega
    have hI3 := hst _ _ (some ⟨0, ncells (at_.set i (at_.getD i 0 + 1))⟩) hI2
    have lb := look_lt hlk2
    have hi1 : ((i : Nat) : Int) + 1 = ((i + 1 : Nat) : Int) := by omega
    repeat' (first | (refine WO.yes rfl ?_) | (refine WO.opE (by intro; simp (disch := omega) only [go_sem, hix, h2k, h2n, hlk2, hat, hcast, hi1]; rfl) (by simp only [pt8, pt0, pt1, pt2, pt3, pt4, pt5, pt6, pt7]; rfl) ?_) | (refine WO.opN (by intro; simp (disch := omega) only [go_sem, Option.bind_eq_bind, hlk2, hov]; rfl) ?_) | (refine WC.seq ?_) | (refine WC.region ?_) | (refine WO.nil ?_) | (simp only [fl1]) | (refine WC.calm rfl ?_) | (refine WC.no rfl ?_) | (refine WC.skip ?_) | (refine WC.exit ?_) | (refine WC.block ?_) | (refine WC.em2 rfl (fun hp => ?_) (fun hp => ?_) <;> try (exfalso; first | omega | contradiction)))
    refine WC.loopI (fun m3 s => ∃ T G w j, s = ⟨T, G, L ++ X2⟩ ∧ T.length = 69 ∧ gt T 0 = .yield y ∧ gt T 1 = .pref bk 0 0 ∧ gt T 2 = .pref bn 0 0 ∧ gt T 4 = .sref bat 0 0 1 k (some k) ∧ gt T 7 = .int .i64 (j : Nat) ∧ m3 + j = k ∧ i + 1 ≤ j ∧ Zz.look G bat 0 = some (ncells w) ∧ I (iterC n fl' (at_.take i ++ run (at_.getD i 0 + 1) (k - i))) G ∧ w.length = k ∧ (∀ t, t < i → w.getD t 0 = at_.getD t 0) ∧ ∀ t, i ≤ t → t < j → w.getD t 0 = at_.getD i 0 + 1 + (t - i)) ?_ (k - (i + 1)) _ ⟨_, G2.set bat (some ⟨0, ncells (at_.set i (at_.getD i 0 + 1))⟩), at_.set i (at_.getD i 0 + 1), i + 1, rfl, rfl, rfl, rfl, rfl, rfl, rfl, by omega, Nat.le_refl _, look_set lb, hI3, by simpa using hal, fun t ht => getN_set_ne (by omega), fun t h1 h2 => by
      have : t = i := by omega
      subst this
      rw [getN_set_self (by omega)]
      omega⟩
    clear g0 g1 g2 g4 g6 f hI3 hI2 hI h1k h1n h2k h2n
    rintro m3 _ ⟨T, G3, w, j, rfl, hT, g0, g1, g2, g4, g7, hm3, hij, hlk3, hI3, hwl, hw1, hw2⟩
    obtain ⟨f, rfl⟩ := ex69 hT
    clear hT
    replace g0 : f 0 = .yield y := g0
    replace g1 : f 1 = .pref bk 0 0 := g1
    replace g2 : f 2 = .pref bn 0 0 := g2
    replace g4 : f 4 = .sref bat 0 0 1 k (some k) := g4
    replace g7 : f 7 = .int .i64 (j : Nat) := g7
    simp only [g0, g1, g2, g4, g7]
    obtain ⟨h3k, h3n⟩ := hbox _ _ hI3
    by_cases hjk : j < k
    · obtain ⟨j', rfl⟩ : ∃ j', j = j' + 1 := ⟨j - 1, by omega⟩
      have ej : ((j' + 1 : Nat) : Int) - 1 = (j' : Int) := by omega
      have hixj : indexAddrAV 1 (.sref bat 0 0 1 k (some k)) (.int .i64 (((j' + 1 : Nat)) : Int)) = some (.pref bat 0 (j' + 1)) := by rw [ia_sref, idx_nat hjk]; simp
      have hixj' : indexAddrAV 1 (.sref bat 0 0 1 k (some k)) (.int .i64 (j' : Int)) = some (.pref bat 0 j') := by rw [ia_sref, idx_nat (by omega)]; simp
      have hatj := ncells_get (l := w) (k := j') (by omega)
      rw [hw2 j' (by omega) (by omega)] at hatj
      have hcast : ((at_.getD i 0 + 1 + (j' - i) : Nat) : Int) + 1 = ((at_.getD i 0 + 1 + (j' + 1 - i) : Nat) : Int) := by omega
      have hov := ncells_over (l := w) (i := j' + 1) (x := at_.getD i 0 + 1 + (j' + 1 - i)) (by omega)
      have hI4 := hst _ _ (some ⟨0, ncells (w.set (j' + 1) (at_.getD i 0 + 1 + (j' + 1 - i)))⟩) hI3
      have lb3 := look_lt hlk3
      repeat' (first | (refine WO.opE (by intro; simp (disch := omega) only [go_sem, hixj, hixj', hlk3, hatj, hcast, ej, h3k]; rfl) (by simp only [pt8, pt0, pt1, pt2, pt3, pt4, pt5, pt6, pt7]; rfl) ?_) | (refine WO.opN (by intro; simp (disch := omega) only [go_sem, Option.bind_eq_bind, hlk3, hov]; rfl) ?_) | (refine WC.seq ?_) | (refine WC.region ?_) | (refine WO.nil ?_) | (simp only [fl1, fl10]) | (refine WC.skip ?_) | (refine WC.block ?_) | (refine WC.em2 rfl (fun hp => ?_) (fun hp => ?_) <;> try (exfalso; first | omega | contradiction)))
      exact ⟨m3 - 1, by omega, _, G3.set bat (some ⟨0, ncells (w.set (j' + 1) (at_.getD i 0 + 1 + (j' + 1 - i)))⟩), w.set (j' + 1) (at_.getD i 0 + 1 + (j' + 1 - i)), j' + 1 + 1, rfl, rfl, rfl, rfl, rfl, rfl, rfl, by omega, by omega, look_set lb3, hI4, by simpa using hwl, fun t ht => by rw [getN_set_ne (by omega)]; exact hw1 t ht, fun t h1 h2 => by
        by_cases e : t = j' + 1
        · subst e; rw [getN_set_self (by omega)]
        · rw [getN_set_ne (by omega)]; exact hw2 t h1 (by omega)⟩
    · have hje : j = k := by omega
      subst hje
      have hwe : w = at_.take i ++ run (at_.getD i 0 + 1) (j - i) := getN_ext (by rw [List.length_append, List.length_take, run_len]; omega) fun t ht => by
        have htl : (at_.take i).length = i := by rw [List.length_take]; omega
        by_cases hti : t < i
        · rw [hw1 t hti, getN_app_l (by omega), getN_take hti]
        · rw [hw2 t (by omega) (by omega), getN_app_r (by omega), htl, run_at _ _ _ (by omega)]
      have hvn := val_next hinc hns
      obtain ⟨hinc', hlen'⟩ := next_inc hinc hns
      subst hwe
      repeat' (first | (refine WO.opE (by intro; simp (disch := omega) only [go_sem, h3k]; rfl) (by simp only [pt8, pt0, pt1, pt7]; rfl) ?_) | (refine WC.seq ?_) | (refine WC.region ?_) | (refine WO.nil ?_) | (simp only [fl1, fl3, fl4, fl6, fl9, fl10]) | (refine WC.exit ?_) | (refine WC.em2 rfl (fun hp => ?_) (fun hp => ?_) <;> try (exfalso; first | omega | contradiction)))
      exact ⟨_, by omega, _, G3, X2, _, fl', rfl, rfl, rfl, rfl, rfl, rfl, rfl, hinc', by omega, by omega, hlk3, hI3⟩
set_option maxRecDepth 100000
set_option maxHeartbeats 8000000
def gStep (rows : List (List Int)) (is : List Nat) (g : Nat) (js : List Nat) : Nat := Nat.gcd g (absI (minorF (ent rows) is js)).toNat
def gRow (rows : List (List Int)) (k : Nat) (g : Nat) (is : List Nat) : Nat := (combos 6 k).foldl (gStep rows is) g
def divK (rows : List (List Int)) (k : Nat) : Nat := (combos rows.length k).foldl (gRow rows k) 0
def divF (rows : List (List Int)) : List Int := (List.range (rankF rows)).map fun i => ((divK rows (i + 1) : Nat) : Int)
def divR (rows : List (List Int)) : List Int := if VM rows then divF rows else []
theorem nodup_le {m : Nat} {l : List Nat} (hn : l.Nodup) (h : ∀ x ∈ l, x < m) : l.length ≤ m := by
  have h1 := sum_le (a := fun _ => 1) (fun _ => by decide) m l hn h
  have h2 : ∀ l : List Nat, (l.map fun _ => (1 : Int)).sum = l.length := fun l => by
    induction l with
    | nil => rfl
    | cons x l ih => simp only [List.map_cons, List.sum_cons, ih, List.length_cons]; omega
  have h3 : ∀ m, psumF (fun _ => 1) m = m := fun m => by
    induction m with
    | zero => rfl
    | succ m ih => simp only [psumF, ih]; omega
  rw [h2, h3] at h1
  omega
theorem rank_le {rows : List (List Int)} (hB : FrB rows (fwdF rows)) : rankF rows ≤ 6 ∧ rankF rows ≤ rows.length := by
  have h1 := hB.six
  have h2 := hB.len
  have e : rankF rows = (fwdF rows).is.length := rfl
  exact ⟨by omega, by rw [e]; exact nodup_le hB.nd hB.i⟩
theorem gcd_bd {g x : Nat} (hg : g ≤ 1000000000) (hx : x ≤ 1000000000) : Nat.gcd g x ≤ 1000000000 := by
  by_cases h : g = 0
  · subst h; rw [Nat.gcd_zero_left]; exact hx
  · exact Nat.le_trans (Nat.gcd_le_left x (by omega)) hg
theorem minor_1 {rows : List (List Int)} (hv : VM rows) (h6 : ∀ i, i < rows.length → (rw_ rows i).length = 6) {is js : List Nat} (hi : Inc rows.length 0 is) (hj : Inc 6 0 js) : okI rows is ∧ okW rows 1 js ∧ okP rows 1 is ∧ -1000000000 ≤ minorF (ent rows) is js ∧ minorF (ent rows) is js ≤ 1000000000 := by
  have h1 : okI rows is := fun x hx => (hi.lt x hx).2
  have h2 := hj.okJ.toW h6
  have h3 := (minor_bnd (by decide) h1 h2).1
  have h4 := prodB_vol hv hi.nodup h1
  refine ⟨h1, h2, fun s hs => ?_, by omega, by omega⟩
  have := prodB_vol hv (is := s) (hi.nodup.sublist hs.sublist) fun x hx => h1 x (hs.subset hx)
  omega
theorem byVal_js {H : Hp} {q k : Nat} {l : List Nat} (h : Zz.look H q 0 = some (ncells l)) (hl : l.length = k) : Zz.byVal H (.sref q 0 0 1 k (some k)) = some (.sval true k (ncells l)) := by
  have e1 : Zz.cut (ncells l) 0 (k * 1) = some (ncells l) := by
    unfold Zz.cut
    rw [if_pos (by rw [ncells_len]; omega), List.drop_zero, List.take_of_length_le (by rw [ncells_len]; omega)]
  have e2 : (ncells l).all flatAV = true := flat_ints _
  show Zz.byC H (.sref q 0 0 1 k (some k)) = _
  simp only [Zz.byC, h, e1, e2, if_true]
  simp
theorem natS_js {k : Nat} {l : List Nat} (hl : l.length = k) : NatS (.sval true k (ncells l)) l := by
  subst hl
  exact .inr ⟨true, by rw [List.length_map]; rfl⟩
theorem app_mid {L X : List (Option ALoop)} {x : Option ALoop} : ((L ++ [x]) ++ X)[L.length]? = some x := by simp
theorem f102 {n k : Nat} {H : Hp} {L : List (Option ALoop)} : WF E23 (.func 102 [] []) [.int .i64 (n : Nat), .int .i64 (k : Nat)] ⟨H, L⟩ fun y m' => y = .func 136 [] [.pref (H.length + 1) 0 0, .pref H.length 0 0] ∧ m' = ⟨H ++ [some ⟨0, [.int .i64 (n : Int)]⟩, some ⟨0, [.int .i64 (k : Int)]⟩], L⟩ := by
  refine WF.fnE rfl (fn_of Try.func102 cir102) (by show 2 ≤ 6; decide) ?_
  unfold ir102; dsimp only [k0, kI, mV, oO, oG]
  simp only [padTo, List.replicate, List.nil_append, List.append_nil]
  repeat' (first | (refine WO.opE (by intro; simp (disch := omega) only [go_sem, List.append_assoc, List.length_append]; rfl) (by simp only [pt2, pt3, pt4, pt5]; rfl) ?_) | (refine WC.seq ?_) | (refine WC.region ?_) | (refine WO.nil ?_) | (simp only [fl1]) | (refine WC.ret ?_))
  exact ⟨_, rfl, rfl, rfl⟩
theorem f32 {l : AV} {rows : List (List Int)} (hl : RwL l rows) (hv : VM rows) : WF E23 (.func 32 [] []) [l] ⟨[], []⟩ fun y m' => ∃ v q, y = .tuple [v, .int .i64 0] ∧ GS 1 m'.heap v q (icells (divF rows)) := by
  have hr8 := hv.1
  have hlen := hl.len
  have c35 := fun m => s35 (m := m) hl (by omega)
  rw [if_pos hv, if_pos hv] at c35
  obtain ⟨hok, _⟩ := s82 (ov := .sval true 6 [.int .i64 0, .int .i64 1, .int .i64 2, .int .i64 3, .int .i64 4, .int .i64 5]) hl hv (.inr ⟨true, rfl⟩) okJ_fwd (by decide)
  have hF : frame rows [0, 1, 2, 3, 4, 5] ([0, 1, 2, 3, 4, 5] : List Nat).length = fwdF rows := rfl
  rw [hF] at hok
  obtain ⟨hr6, hrl⟩ := rank_le (hok.toB hv (fun i hi => hl.six hi) okJ_fwd (by decide))
  have hdf : divF rows = (List.range (rankF rows)).map fun i => ((divK rows (i + 1) : Nat) : Int) := rfl
  have hlc := hl.cells
  unfold AV.cells at hlc
  refine WF.fnE rfl (fn_of Try.func32 cir32) (by show 1 ≤ 45; decide) ?_
  unfold ir32; dsimp only [k0, kI, mV, oO, oG]
  simp only [padTo, List.replicate, List.nil_append, List.append_nil]
  repeat' (first | (refine WO.opE (by intro; simp (disch := omega) only [go_sem, Zz.look, hlc]; rfl) (by simp only [pt8, pt0, pt1, pt2, pt3, pt4, pt5, pt6, pt7]; rfl) ?_) | (refine WO.opN (by intro; simp (disch := omega) only [go_sem, Zz.look, Option.bind_eq_bind, ov_one0]; rfl) ?_) | (refine WO.specE rfl rfl (c35 _) (by simp only [pt8, pt5]; rfl) ?_) | (refine WC.seq ?_) | (refine WC.region ?_) | (refine WO.nil ?_) | (simp only [fl1]) | (refine WC.no rfl ?_) | (refine WC.skip ?_) | (refine WC.block ?_))
  refine WC.loopI (fun m s => ∃ T G X N7 v q k, s = ⟨T, G, X⟩ ∧ T.length = 45 ∧ gt T 1 = .pref 0 0 0 ∧ gt T 4 = .int .i64 (rankF rows : Nat) ∧ gt T 6 = v ∧ gt T 7 = .pref N7 0 0 ∧ m + k = rankF rows ∧ Zz.look G 0 0 = some [l] ∧ Zz.look G N7 0 = some [.int .i64 ((k + 1 : Nat) : Int)] ∧ GS 1 G v q (icells ((List.range k).map fun i => ((divK rows (i + 1) : Nat) : Int))) ∧ q ≠ 0 ∧ q ≠ N7 ∧ N7 ≠ 0) ?_ (rankF rows) _ ⟨_, _, [], 1, .snil, 2, 0, rfl, rfl, rfl, rfl, rfl, rfl, by omega, rfl, rfl, .inl ⟨rfl, rfl⟩, by decide, by decide, by decide⟩
  rintro m _ ⟨T, G, X, N7, v, q, k, rfl, hT, g1, g4, g6, g7, hm, k0, k7, hgs, hq0, hq7, hN7⟩
  obtain ⟨f, rfl⟩ := ex45 hT
  clear hT
  replace g1 : f 1 = .pref 0 0 0 := g1
  replace g4 : f 4 = .int .i64 (rankF rows : Nat) := g4
  replace g6 : f 6 = v := g6
  replace g7 : f 7 = .pref N7 0 0 := g7
  simp only [g1, g4, g6, g7]
  have l0 := look_lt k0
  have l7 := look_lt k7
  have hvc : v.cells = some [v] := by
    rcases hgs with ⟨rfl, _⟩ | ⟨g, rfl, _⟩ | ⟨g, n, rfl, _⟩ <;> rfl
  unfold AV.cells at hvc
  by_cases hk : k < rankF rows
  · have hkc : ((k + 1 : Nat) : Int) ≤ ((rankF rows : Nat) : Int) := by omega
    have k0g : ∀ c, Zz.look (G ++ [some ⟨0, c⟩]) 0 0 = some [l] := fun c => (look_left l0).trans k0
    have k7g : ∀ c, Zz.look (G ++ [some ⟨0, c⟩]) N7 0 = some [.int .i64 ((k + 1 : Nat) : Int)] := fun c => (look_left l7).trans k7
    repeat' (first | (refine WO.opE (by intro; simp (disch := omega) only [go_sem, k7, k7g, k0g, hkc, decide_true]; rfl) (by simp only [pt8, pt0, pt2, pt3, pt4, pt5]; rfl) ?_) | (refine WO.opN (by intro; simp (disch := omega) only [go_sem, Option.bind_eq_bind, app_s0, ov_one0, lk0]; rfl) ?_) | (refine WO.opE (by intro; exact ev_lenS (by simp only [go_sem]; first | rfl | assumption)) (by simp only [pt8, pt1]; rfl) ?_) | (refine WC.seq ?_) | (refine WC.region ?_) | (refine WO.nil ?_) | (simp only [fl1]) | (refine WC.yes rfl ?_) | (refine WC.skip ?_) | (refine WC.block ?_))
    refine WO.call rfl rfl ((f102 (n := rows.length) (k := k + 1)).mono ?_)
    rintro _ m' ⟨rfl, rfl⟩
    simp only [pt8, pt3, List.append_assoc, List.cons_append, List.nil_append, List.length_append, List.length_singleton]
    obtain ⟨G2, hG2⟩ : ∃ G2, G2 = G ++ [some ⟨0, [.int .i64 0]⟩, some ⟨0, [.int .i64 (rows.length : Nat)]⟩, some ⟨0, [.int .i64 ((k + 1 : Nat) : Int)]⟩] := ⟨_, rfl⟩
    have hG2l : G2.length = G.length + 3 := by rw [hG2]; simp
    have k8 : Zz.look G2 G.length 0 = some [.int .i64 0] := by rw [hG2]; exact lk0 rfl
    have kn : Zz.look G2 (G.length + 1) 0 = some [.int .i64 (rows.length : Nat)] := by rw [hG2]; exact lk1 rfl
    have kk : Zz.look G2 (G.length + 1 + 1) 0 = some [.int .i64 ((k + 1 : Nat) : Int)] := by rw [hG2]; exact lk2 rfl
    have hGG : ∀ b, b < G.length → G2[b]? = G[b]? := fun b hb => by rw [hG2]; exact List.getElem?_append_left hb
    have k02 : Zz.look G2 0 0 = some [l] := (look_of_get (hGG 0 l0)).trans k0
    have k72 : Zz.look G2 N7 0 = some [.int .i64 ((k + 1 : Nat) : Int)] := (look_of_get (hGG N7 l7)).trans k7
    repeat' (first | (refine WO.nil ?_) | (refine WC.block ?_))
    rw [← hG2]
    have hbn : G.length + 1 ≠ G.length := by omega
    refine WC.rangeFuncX rfl ((f136 (E := E23) rfl (fn_of Try.func136 cir136) (n := rows.length) (k := k + 1) (fun r H => (∀ b, b < G2.length → b ≠ G.length → H[b]? = G2[b]?) ∧ G2.length + 1 ≤ H.length ∧ ∃ g : Nat, Zz.look H G.length 0 = some [.int .i64 (g : Int)] ∧ r.foldl (gRow rows (k + 1)) g = divK rows (k + 1) ∧ g ≤ 1000000000) hr8 (by omega) (by omega) (by omega) kk ?_ ?_ ?_ ?_).mono ?_)
    · intro B
      exact ⟨fun b hb _ => List.getElem?_append_left hb, by simp, 0, (look_left (by omega)).trans k8, rfl, by decide⟩
    · rintro r H ⟨h1, h2, _⟩
      exact ⟨(look_of_get (h1 _ (by omega) (by omega))).trans kk, (look_of_get (h1 _ (by omega) (by omega))).trans kn⟩
    · rintro r H B ⟨h1, h2, g, h3, h4, h5⟩
      exact ⟨fun b hb hn => by rw [List.getElem?_set_ne (by omega)]; exact h1 b hb hn, by rw [List.length_set]; exact h2, g, (look_of_get (List.getElem?_set_ne (by omega))).trans h3, h4, h5⟩
    · rintro c r H X' hci hcl ⟨h1, h2, g, h3, h4, h5⟩ hlc1
      have k0H : Zz.look H 0 0 = some [l] := (look_of_get (h1 0 (by omega) (by omega))).trans k02
      have k7H : Zz.look H N7 0 = some [.int .i64 ((k + 1 : Nat) : Int)] := (look_of_get (h1 N7 (by omega) (by omega))).trans k72
      have lH := look_lt h3
      refine WF.yieldX app_mid rfl ?_
      generalize hL1 : (((X ++ [_] ++ X' : List (Option ALoop))).set _ _) = L1
      simp only [setAll, pt8, pt4]
      repeat' (first | (refine WO.opE (by intro; simp (disch := omega) only [go_sem, List.append_assoc]; rfl) (by simp only [pt8, pt1]; rfl) ?_) | (refine WO.opN (by intro; simp (disch := omega) only [go_sem, Option.bind_eq_bind, app_s0, ov_one0, lk0]; rfl) ?_) | (refine WC.region ?_) | (refine WO.nil ?_) | (simp only [fl1]))
      refine ⟨trivial, by first | rfl | (simp; done), ?_⟩
      have k0a : ∀ c, Zz.look (H ++ [some ⟨0, c⟩]) 0 0 = some [l] := fun c => (look_left (by omega)).trans k0H
      have k7a : ∀ c, Zz.look (H ++ [some ⟨0, c⟩]) N7 0 = some [.int .i64 ((k + 1 : Nat) : Int)] := fun c => (look_left (by omega)).trans k7H
      repeat' (first | (refine WO.opE (by intro; simp (disch := omega) only [go_sem, k7a]; rfl) (by simp only [pt8, pt5]; rfl) ?_) | (refine WC.seq ?_) | (refine WC.region ?_) | (simp only [fl1]) | (refine WC.block ?_))
      refine WO.call rfl rfl ((f102 (n := 6) (k := k + 1)).mono ?_)
      rintro _ m' ⟨rfl, rfl⟩
      simp only [pt8, pt6, List.append_assoc, List.cons_append, List.nil_append, List.length_append, List.length_singleton]
      obtain ⟨H2, hH2⟩ : ∃ H2, H2 = H ++ [some ⟨0, [.sref G2.length 0 0 1 (k + 1) (some (k + 1))]⟩, some ⟨0, [.int .i64 ((6 : Nat) : Int)]⟩, some ⟨0, [.int .i64 ((k + 1 : Nat) : Int)]⟩] := ⟨_, rfl⟩
      have hH2l : H2.length = H.length + 3 := by rw [hH2]; simp
      have ki : Zz.look H2 H.length 0 = some [.sref G2.length 0 0 1 (k + 1) (some (k + 1))] := by rw [hH2]; exact lk0 rfl
      have kn2 : Zz.look H2 (H.length + 1) 0 = some [.int .i64 ((6 : Nat) : Int)] := by rw [hH2]; exact lk1 rfl
      have kk2 : Zz.look H2 (H.length + 1 + 1) 0 = some [.int .i64 ((k + 1 : Nat) : Int)] := by rw [hH2]; exact lk2 rfl
      have hHH : ∀ b, b < H.length → H2[b]? = H[b]? := fun b hb => by rw [hH2]; exact List.getElem?_append_left hb
      have k02' : Zz.look H2 0 0 = some [l] := (look_of_get (hHH 0 (by omega))).trans k0H
      have k82 : Zz.look H2 G.length 0 = some [.int .i64 (g : Int)] := (look_of_get (hHH _ lH)).trans h3
      have hlc2 : Zz.look H2 G2.length 0 = some (ncells c) := (look_of_get (hHH _ (by omega))).trans hlc1
      repeat' (first | (refine WO.nil ?_) | (refine WC.block ?_))
      have hH2e : H ++ [some ⟨0, [.sref G2.length 0 0 1 (k + 1) (some (k + 1))]⟩, some ⟨0, [.int .i64 6]⟩, some ⟨0, [.int .i64 ((k + 1 : Nat) : Int)]⟩] = H2 := hH2.symm
      first | rw [hH2e] | rw [← hH2]
      refine WC.rangeFuncX rfl ((f136 (E := E23) rfl (fn_of Try.func136 cir136) (n := 6) (k := k + 1) (fun r2 H' => (∀ b, b < H2.length → b ≠ G.length → H'[b]? = H2[b]?) ∧ H2.length + 1 ≤ H'.length ∧ ∃ g2 : Nat, Zz.look H' G.length 0 = some [.int .i64 (g2 : Int)] ∧ r2.foldl (gStep rows c) g2 = gRow rows (k + 1) g c ∧ g2 ≤ 1000000000) (by decide) (by omega) (by omega) (by omega) kk2 ?_ ?_ ?_ ?_).mono ?_)
      · intro B
        exact ⟨fun b hb _ => List.getElem?_append_left hb, by simp, g, (look_left (by omega)).trans k82, rfl, h5⟩
      · rintro r2 H' ⟨e1, e2, _⟩
        exact ⟨(look_of_get (e1 _ (by omega) (by omega))).trans kk2, (look_of_get (e1 _ (by omega) (by omega))).trans kn2⟩
      · rintro r2 H' B ⟨e1, e2, g2, e3, e4, e5⟩
        exact ⟨fun b hb hn => by rw [List.getElem?_set_ne (by omega)]; exact e1 b hb hn, by rw [List.length_set]; exact e2, g2, (look_of_get (List.getElem?_set_ne (by omega))).trans e3, e4, e5⟩
      · rintro c2 r2 H' X2 hci2 hcl2 ⟨e1, e2, g2, e3, e4, e5⟩ hlc3
        have k0' : Zz.look H' 0 0 = some [l] := (look_of_get (e1 0 (by omega) (by omega))).trans k02'
        have ki' : Zz.look H' H.length 0 = some [.sref G2.length 0 0 1 (k + 1) (some (k + 1))] := (look_of_get (e1 _ (by omega) (by omega))).trans ki
        have hlc' : Zz.look H' G2.length 0 = some (ncells c) := (look_of_get (e1 _ (by omega) (by omega))).trans hlc2
        have lH' := look_lt e3
        obtain ⟨m1, m2, m3, m4, m5⟩ := minor_1 hv (fun i hi => hl.six hi) hci hci2
        have c104 : ∀ (V : Hp) (LL : List (Option ALoop)), (∀ j ∈ [G2.length, H2.length], V[j]? = H'[j]?) → borrowX G0 104 [l, .sref G2.length 0 0 1 (k + 1) (some (k + 1)), .sref H2.length 0 0 1 (k + 1) (some (k + 1))] ⟨V, LL⟩ = some (.int .i64 (minorF (ent rows) c c2), ⟨V, LL⟩) := fun V LL hVj => s104 (m := ⟨V, LL⟩) hl (natS_js (k := k + 1) hcl) (natS_js (k := k + 1) hcl2) m1 (by decide) m2 m3 hv.2.1 (by omega) (by omega) (by omega) (hl.byVal _) (byVal_js ((look_of_get (hVj _ (by simp))).trans hlc') hcl) (byVal_js ((look_of_get (hVj _ (by simp))).trans hlc3) hcl2)
        have hlr : ([.sref G2.length 0 0 1 (k + 1) (some (k + 1))] : List AV).length = 1 := rfl
        have habs : 0 ≤ absI (minorF (ent rows) c c2) ∧ absI (minorF (ent rows) c c2) ≤ 1000000000 := by unfold absI; split <;> omega
        have eabs : ((absI (minorF (ent rows) c c2)).toNat : Int) = absI (minorF (ent rows) c c2) := Int.toNat_of_nonneg habs.1
        have c81 := fun m => s81 (m := m) (x := minorF (ent rows) c c2) (by omega)
        have c103 := fun m => s103 (m := m) (a := g2) (b := (absI (minorF (ent rows) c c2)).toNat) (by omega) (by omega)
        rw [eabs] at c103
        have hgb := gcd_bd (g := g2) (x := (absI (minorF (ent rows) c c2)).toNat) e5 (by omega)
        refine WF.yieldX app_mid rfl ?_
        generalize hL2 : (((L1 ++ [_] ++ X2 : List (Option ALoop))).set _ _) = L2
        simp only [setAll, pt8, pt7]
        repeat' (first | (refine WO.opE (by intro; simp (disch := omega) only [go_sem, List.append_assoc]; rfl) (by simp only [pt8, pt2]; rfl) ?_) | (refine WC.region ?_) | (refine WO.nil ?_) | (simp only [fl1]))
        refine ⟨trivial, by first | rfl | (simp; done), ?_⟩
        repeat' (first | (simp only [fl4]) | (refine WC.drawT ?_) | (refine WT.free rfl (by intro; simp (disch := omega) only [go_sem, e3, k0', ki']; rfl) rfl (by simp only [pt8, pt0, pt1, pt2, pt3]; rfl) ?_) | (refine WT.big rfl rfl (by intro; simp (disch := omega) only [go_sem, e3, k0', ki']; rfl) (by simp (disch := omega) only [go_sem, touch]; rfl) (by first | exact .inl rfl | exact .inr (apart_nil _) | exact .inr trivial | (right; apply apart_mk; simp only [apartL, List.nil_append, List.cons_append, List.getElem?_cons_succ, List.getElem?_cons_zero, Tch.free, and_true, true_and]; first | done | omega)) (by simp only [pt8, pt0, pt1, pt2]; rfl) ?_) | (refine WC.block ?_))
        refine WT.specG [G2.length, H2.length] rfl rfl (apart_all (by
          intro j hj
          simp only [List.mem_cons, List.not_mem_nil, or_false] at hj
          simp only [apartL, List.nil_append, List.cons_append, List.getElem?_cons_zero, Tch.free, and_true]
          omega)) (fun V hVl hVj => c104 V _ hVj) (by simp only [pt8, pt4]; rfl) ?_
        repeat' (first | (refine WT.spec rfl rfl (fun V => c81 _) (by simp only [pt8, pt5]; rfl) ?_) | (refine WT.spec rfl rfl (fun V => c103 _) (by simp only [pt8, pt6]; rfl) ?_) | (simp only [fl1]) | (refine WT.nil ?_) | (refine WT.bigN rfl rfl (by intro; simp (disch := omega) only [go_sem, Option.bind_eq_bind, ov_one0, e3]; rfl) (by simp (disch := omega) only [go_sem, touch]; rfl) (by first | exact .inl rfl | exact .inr (apart_nil _) | exact .inr trivial | (right; apply apart_mk; simp only [apartL, List.nil_append, List.cons_append, List.getElem?_cons_succ, List.getElem?_cons_zero, Tch.free, and_true, true_and]; first | done | omega)) ?_))
        refine ⟨trivial, _, by rw [List.append_nil], trivial, ⟨_, by first | rfl | (rw [List.append_nil])⟩, ⟨fun b hb hn => by rw [List.getElem?_set_ne (Ne.symm hn)]; exact e1 b hb hn, by rw [List.length_set]; exact e2, _, look_set lH', e4, hgb⟩, (look_of_get (List.getElem?_set_ne (by omega))).trans hlc3⟩
      · rintro v2 ⟨H', LL⟩ ⟨⟨X2, rfl⟩, e1, e2, g2, e3, e4, e5⟩
        replace e1 : ∀ b, b < H2.length → b ≠ G.length → H'[b]? = H2[b]? := e1
        replace e2 : H2.length + 1 ≤ H'.length := e2
        replace e3 : Zz.look H' G.length 0 = some [.int .i64 (g2 : Int)] := e3
        refine ⟨X2, rfl, ?_⟩
        have hg2 : g2 = gRow rows (k + 1) g c := e4
        have e6 : G2.length + 1 ≤ H'.length := by omega
        have e7 : ∀ b, b < G2.length → b ≠ G.length → H'[b]? = G2[b]? := fun b hb hn => by rw [e1 b (by omega) hn, hHH b (by omega), h1 b hb hn]
        refine ⟨rfl, _, rfl, by first | rfl | trivial, ⟨X' ++ none :: X2, by simp⟩, ⟨e7, e6, g2, e3, by rw [hg2]; exact h4, e5⟩, (look_of_get (e1 _ (by omega) (by omega))).trans hlc2⟩
    · rintro v2 ⟨H', LL⟩ ⟨⟨X2, rfl⟩, e1, e2, g2, e3, e4, e5⟩
      replace e1 : ∀ b, b < G2.length → b ≠ G.length → H'[b]? = G2[b]? := e1
      replace e2 : G2.length + 1 ≤ H'.length := e2
      replace e3 : Zz.look H' G.length 0 = some [.int .i64 (g2 : Int)] := e3
      refine ⟨X2, rfl, ?_⟩
      have hg2 : g2 = divK rows (k + 1) := e4
      have hHG : ∀ b, b < G.length → H'[b]? = G[b]? := fun b hb => by rw [e1 b (by omega) (by omega), hGG b hb]
      have hgs' := GS.frame (q1 := q + 1) hgs (fun j hj _ => hHG j hj) (by omega)
      have k0' : Zz.look H' 0 0 = some [l] := (look_of_get (hHG 0 l0)).trans k0
      have k7' : Zz.look H' N7 0 = some [.int .i64 ((k + 1 : Nat) : Int)] := (look_of_get (hHG N7 l7)).trans k7
      obtain ⟨v', q', H'', a1, a2, a3, a4, a5⟩ := intPush (L := X ++ none :: X2) hgs' (by simp; omega) ((g2 : Nat) : Int) [some ⟨0, [.int .i64 ((g2 : Nat) : Int)]⟩] (lk0 rfl)
      simp only [List.length_cons, List.length_nil, Nat.zero_add] at a3 a4 a5
      have hrs : ((List.range k).map fun i => ((divK rows (i + 1) : Nat) : Int)) ++ [((g2 : Nat) : Int)] = (List.range (k + 1)).map fun i => ((divK rows (i + 1) : Nat) : Int) := by
        rw [List.range_succ, List.map_append, hg2]
        rfl
      rw [hrs] at a2
      have hq'l : q' < H''.length := by
        obtain ⟨g, n, _, _, _, h⟩ := a2.ref (by simp [icells, List.range_succ])
        exact h
      have k0'' : Zz.look H'' 0 0 = some [l] := (look_of_get ((a5 0 (by omega) (Ne.symm hq0)).trans (List.getElem?_append_left (by omega)))).trans k0'
      have k7'' : Zz.look H'' N7 0 = some [.int .i64 ((k + 1 : Nat) : Int)] := (look_of_get ((a5 N7 (by omega) (Ne.symm hq7)).trans (List.getElem?_append_left (by omega)))).trans k7'
      have l7'' := look_lt k7''
      have hc1 : ((k + 1 : Nat) : Int) + 1 = ((k + 1 + 1 : Nat) : Int) := by omega
      repeat' (first | (refine WO.opE (by intro; simp (disch := omega) only [go_sem, fillP, Option.bind_eq_bind, zeros, ov_one0, e3, k7'', lk0, hc1]; rfl) (by simp only [pt8, pt0, pt1, pt3, pt6, pt7]; rfl) ?_) | (refine WO.opN (by intro; simp (disch := omega) only [go_sem, Option.bind_eq_bind, app_s0, ov_one0, lk0]; rfl) ?_) | (refine WO.opE (by intro; rw [ev_append]; exact a1) (by simp only [pt8, pt2]; rfl) ?_) | (refine WC.seq ?_) | (refine WC.region ?_) | (refine WO.nil ?_) | (simp only [fl10]))
      exact ⟨m - 1, by omega, _, H'' ++ [some ⟨0, [.int .i64 ((k + 1 + 1 : Nat) : Int)]⟩], _, H''.length, v', q', k + 1, rfl, rfl, rfl, rfl, rfl, rfl, by omega, (look_left (look_lt k0'')).trans k0'', lk0 rfl, a2.more _, by rcases a3 with h | h <;> omega, by omega, by omega⟩
  · have hke : k = rankF rows := by omega
    subst hke
    have hkc : ¬ ((rankF rows + 1 : Nat) : Int) ≤ ((rankF rows : Nat) : Int) := by omega
    rw [← hdf] at hgs
    repeat' (first | (refine WO.opE (by intro; simp (disch := omega) only [go_sem, k7, hkc, decide_false]; rfl) (by simp only [pt8, pt2, pt3, pt4, pt5]; rfl) ?_) | (refine WC.seq ?_) | (refine WC.region ?_) | (refine WO.nil ?_) | (simp only [fl1]) | (refine WC.no rfl ?_) | (refine WC.exit ?_) | (refine WC.ret ?_))
    exact ⟨_, rfl, v, q, rfl, hgs⟩
theorem GS.ints {H : Hp} {v : AV} {q : Nat} {l : List Int} (h : GS 1 H v q (icells l)) : ∃ x, IntS x l ∧ Zz.resA H v = some x := by
  have hl := icells_len l
  rw [GS.resA h]
  rcases h with ⟨rfl, h1⟩ | ⟨g, rfl, h1, h2⟩ | ⟨g, n, rfl, h1, h2, h3⟩
  · rw [h1] at hl
    have : l = [] := List.length_eq_zero_iff.1 (by simpa using hl.symm)
    subst this
    exact ⟨.snil, IntS.nil, rfl⟩
  · rw [h1] at hl
    have : l = [] := List.length_eq_zero_iff.1 (by simpa using hl.symm)
    subst this
    exact ⟨.sval true 0 [], IntS.mk [] true, by rw [resC_flat h2 rfl rfl]; rfl⟩
  · have hn : n = l.length := by omega
    subst hn
    exact ⟨_, IntS.mk l _, resC_flat h3 h1 (flat_ints _)⟩
noncomputable def E24 : Env := E23.put 32 (borrowE E23 32)
theorem E24_ok : EnvOk Try.prog E24 := Env.put_ok E23_ok (borrowE_ok E23_ok (callable Try.func32 (by kernel_rfl)))
end Go.Proofs.Ytnilimjkibimcaa

