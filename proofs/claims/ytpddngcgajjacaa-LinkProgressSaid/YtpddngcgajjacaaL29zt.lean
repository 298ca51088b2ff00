import Derived.Test.YtpddngcgajjacaaL29zs
set_option linter.unusedSimpArgs false
set_option linter.unusedVariables false
namespace Go.Proofs.Ytpddngcgajjacaa
open Go.Zz


/-- A slice of ints in its own memory. -/
def Own1 (n0 : Nat) (H : Hp) (v : AV) (xs : List Int) : Prop :=
  (v = .snil ∧ xs = []) ∨ ∃ f g rest, v = .sref f g 0 1 xs.length none ∧ n0 ≤ f ∧ Zz.look H f g = some (xs.map (.int .i64) ++ rest)

theorem Own1.app {n0 : Nat} {H : Hp} {v : AV} {xs : List Int} (h : Own1 n0 H v xs) (R : Hp) : Own1 n0 (H ++ R) v xs := by
  rcases h with h | ⟨f, g, rest, h1, h2, h3⟩
  · exact .inl h
  · exact .inr ⟨f, g, rest, h1, h2, by rw [look_left (look_lt h3)]; exact h3⟩

theorem own1_app {n0 : Nat} {H : Hp} {L : List (Option ALoop)} {v x : AV} {xs ys : List Int} (h : Own1 n0 H v xs) (hn : n0 ≤ H.length) (hpos : 0 < ys.length) (hmax : xs.length + ys.length ≤ 100000) (hx : slen x = some ys.length) (hc : scells H 1 x = some (ys.map (.int .i64))) :
    ∃ v' H', appendAV 1 8 ⟨H, L⟩ v x = some (v', ⟨H', L⟩) ∧ Own1 n0 H' v' (xs ++ ys) ∧ Same H H' n0 (fun _ => False) := by
  rcases h with ⟨rfl, rfl⟩ | ⟨f, g, rest, rfl, hf, hl⟩
  · refine ⟨.sref H.length 0 0 1 ys.length none, H ++ [some ⟨0, ys.map (.int .i64)⟩], ?_, .inr ⟨H.length, 0, [], by simp, hn, by rw [look_right0]; simp [Zz.look]⟩, (Same.app _).weaken hn (fun _ _ h => h)⟩
    simp only [appendAV, hx, hc, Option.bind_eq_bind, Option.bind_some]
    rw [if_neg (by omega), if_pos (by simp only [List.length_nil] at hmax; omega)]
    rfl
  · have hf0 := look_lt hl
    obtain ⟨b0, hb0⟩ := look_some hl
    have hlen : (xs.map (AV.int .i64)).length = xs.length := by simp
    have hq : (ys.map (AV.int .i64)).length = ys.length := by simp
    have eapp : ∃ g' rest', appendAV 1 8 ⟨H, L⟩ (.sref f g 0 1 xs.length none) x = some (.sref f g' 0 1 (xs.length + ys.length) none, ⟨H.set f (some ⟨g', (xs ++ ys).map (.int .i64) ++ rest'⟩), L⟩) := by
      simp only [appendAV, hx, hc, Option.bind_eq_bind, Option.bind_some, if_true, hl, cut, Nat.zero_add, List.length_append, Nat.mul_one]
      rw [if_pos (by omega)]
      simp only [Option.bind_some]
      by_cases h : xs.length + ys.length ≤ (xs.map (AV.int .i64)).length + rest.length
      · rw [if_pos h]
        simp only [storeAt, hl, Option.bind_eq_bind, Option.bind_some, over, List.length_append]
        rw [if_pos (by omega)]
        simp only [Option.bind_some, setBlk]
        refine ⟨g, (xs.map (AV.int .i64) ++ rest).drop (xs.length + (ys.map (AV.int .i64)).length), ?_⟩
        rw [← hlen, List.take_left, List.map_append]
      · rw [if_neg h, if_pos (by omega)]
        refine ⟨g + 1, [], ?_⟩
        simp only [setBlk, List.drop_zero, List.append_nil, List.map_append]
        rw [← hlen, List.take_left]
    obtain ⟨g', rest', eapp⟩ := eapp
    refine ⟨_, _, eapp, .inr ⟨f, g', rest', by simp, hf, look_set hf0⟩, by simp, fun id hi _ => ?_, fun id hd => ?_⟩
    · rw [List.getElem?_set_ne (by omega)]
    · rw [List.getElem?_set_ne]
      · exact hd
      · intro e; subst e; rw [hb0] at hd; cases hd

theorem rest_loop4 {Γ : Env} {L : List (Option ALoop)} {n n0 : Nat} (hn : n ≤ 40) {lb : IR} (hlb : lb = match ir25.body with | .seq _ (.seq _ (.seq (.seq _ (.block _ (.loop b))) _)) => b | _ => .skip) :
    ∀ (k i : Nat) (H : Hp) (v : AV) (xs : List Int), i + k = n → Own1 n0 H v xs → n0 ≤ H.length → xs.length + k * 1 ≤ 1000 → ∀ (u1 u2 u5 u6 u7 u8 u9 u10 u11 u12 u13 u14 u15 u16 u17 u18 u19 u20 u21 u22 u23 u24 u25 u26 u27 u28 u29 u30 u31 u32 u33 u34 u35 u36 u37 u38 : AV),
    WC Γ (.loop lb) ⟨[.int .i64 (n : Int), u1, u2, v, .int .i64 (i : Int), u5, u6, u7, u8, u9, u10, u11, u12, u13, u14, u15, u16, u17, u18, u19, u20, u21, u22, u23, u24, u25, u26, u27, u28, u29, u30, u31, u32, u33, u34, u35, u36, u37, u38], H, L⟩ fun e s' => e = .exit 0 ∧ s'.loops = L ∧ Same H s'.heap n0 (fun _ => False) ∧ s'.T.length = 39 ∧ gt s'.T 0 = .int .i64 (n : Int) ∧ Own1 n0 s'.heap (gt s'.T 3) (xs ++ (List.replicate k ([7] : List Int)).flatten) := by
  subst hlb
  unfold ir25
  simp only
  intro k
  induction k with
  | zero =>
    intro i H v xs hi hv hn0 hx u1 u2 u5 u6 u7 u8 u9 u10 u11 u12 u13 u14 u15 u16 u17 u18 u19 u20 u21 u22 u23 u24 u25 u26 u27 u28 u29 u30 u31 u32 u33 u34 u35 u36 u37 u38
    have hlt : ¬ ((i : Int) < (n : Int)) := by omega
    refine WC.loop (WC.seq (WC.seq (WC.region ?_)))
    repeat (first
      | (refine WO.yes rfl ?_)
      | (refine WO.no rfl ?_; simp only [pt])
      | (refine WO.op (by intro; simp only [go_sem, fillP, over, cut, nilCheckAV, hlt, decide_false]; rfl) ?_; simp only [pt])
      | (refine WO.op (by intro; exact ev_lenS rfl) ?_; simp only [pt])
      | (refine WO.opN (by intro; simp only [go_sem, storeAt, Option.bind_eq_bind, over, setBlk, cut, hlt, decide_false]; rfl) ?_))
    refine WO.nil ?_
    simp only [Then, Out]
    refine WC.no (by simp only [go_sem, hlt, decide_false]) (WC.exit ?_)
    exact ⟨rfl, rfl, Same.refl _ _ _, rfl, rfl, by simpa [gt] using hv⟩
  | succ k ih =>
    intro i H v xs hi hv hn0 hx u1 u2 u5 u6 u7 u8 u9 u10 u11 u12 u13 u14 u15 u16 u17 u18 u19 u20 u21 u22 u23 u24 u25 u26 u27 u28 u29 u30 u31 u32 u33 u34 u35 u36 u37 u38
    have hlt : ((i : Int) < (n : Int)) := by omega
    have hw : IntKind.wrap .i64 ((i : Int) + 1) = ((i + 1 : Nat) : Int) := by rw [wrap_id (by omega) (by omega)]; rfl
    obtain ⟨v', H', happ, hv', hsame⟩ := own1_app (L := L) (ys := ([7] : List Int)) (hv.app [some (Blk.mk 0 [.int .i64 7])]) (by simp; omega) (by simp) (by simp; omega) (x := .sref H.length 0 0 1 1 (some 1)) rfl (by simp only [scells, if_true, look_right0]; rfl)
    have hs2 : Same H H' n0 (fun _ => False) := ((Same.app _).weaken hn0 (fun _ _ h => h)).trans hsame
    refine WC.loop (WC.seq (WC.seq (WC.region ?_)))
    repeat (first
      | (refine WO.yes rfl ?_)
      | (refine WO.no rfl ?_; simp only [pt])
      | (refine WO.op (by intro; simp only [go_sem, fillP, over, cut, nilCheckAV, hlt, decide_true]; rfl) ?_; simp only [pt])
      | (refine WO.op (by intro; exact ev_lenS rfl) ?_; simp only [pt])
      | (refine WO.opN (by intro; simp only [go_sem, storeAt, Option.bind_eq_bind, over, setBlk, cut, hlt, decide_true]; rfl) ?_))
    refine WO.nil ?_
    simp only [Then, Out]
    refine WC.yes (by simp only [go_sem, hlt, decide_true]) (WC.skip ?_)
    simp only [Then, Out]
    refine WC.seq (WC.block (WC.region ?_))
    repeat (first
      | (refine WO.yes rfl ?_)
      | (refine WO.no rfl ?_; simp only [pt])
      | (refine WO.op (by intro; simp only [go_sem, fillP, over, cut, nilCheckAV]; rfl) ?_; simp only [pt])
      | (refine WO.op (by intro; exact ev_lenS rfl) ?_; simp only [pt])
      | (refine WO.opN (by intro; simp only [go_sem, storeAt, Option.bind_eq_bind, over, setBlk, cut]; rfl) ?_))
    refine WO.op (by intro; rw [ev_append]; exact happ) ?_
    simp only [pt]
    repeat (first
      | (refine WO.yes rfl ?_)
      | (refine WO.no rfl ?_; simp only [pt])
      | (refine WO.op (by intro; simp only [go_sem, fillP, over, cut, nilCheckAV]; rfl) ?_; simp only [pt])
      | (refine WO.op (by intro; exact ev_lenS rfl) ?_; simp only [pt])
      | (refine WO.opN (by intro; simp only [go_sem, storeAt, Option.bind_eq_bind, over, setBlk, cut]; rfl) ?_))
    refine WO.nil ?_
    simp only [Then, Out]
    refine WC.region ?_
    repeat (first
      | (refine WO.yes rfl ?_)
      | (refine WO.no rfl ?_; simp only [pt])
      | (refine WO.op (by intro; simp only [go_sem, fillP, over, cut, nilCheckAV, hw]; rfl) ?_; simp only [pt])
      | (refine WO.op (by intro; exact ev_lenS rfl) ?_; simp only [pt])
      | (refine WO.opN (by intro; simp only [go_sem, storeAt, Option.bind_eq_bind, over, setBlk, cut, hw]; rfl) ?_))
    refine WO.nil ?_
    simp only [Then, Out]
    refine (ih (i + 1) H' v' (xs ++ [7]) (by omega) hv' (by have := hs2.len; omega) (by simp; omega) _ _ _ _ _ _ _ _ _ _ _ _ _ _ _ _ _ _ _ _ _ _ _ _ _ _ _ _ _ _ _ _ _ _ _ _).mono ?_
    rintro e s' ⟨h1, h2, h3, h4, h5, h6⟩
    refine ⟨h1, h2, hs2.trans h3, h4, h5, ?_⟩
    rw [List.replicate_succ, List.flatten_cons, ← List.append_assoc]
    exact h6

theorem rest_loop5 {Γ : Env} {L : List (Option ALoop)} {n n0 : Nat} (hn : n ≤ 40) {lb : IR} (hlb : lb = match ir25.body with | .seq _ (.seq _ (.seq _ (.seq (.seq _ (.block _ (.loop b))) _))) => b | _ => .skip) :
    ∀ (k i : Nat) (H : Hp) (v : AV) (xs : List Int), i + k = 160 → Own1 n0 H v xs → n0 ≤ H.length → xs.length + k * 1 ≤ 1000 → ∀ (u1 u2 u4 u6 u7 u8 u9 u10 u11 u12 u13 u14 u15 u16 u17 u18 u19 u20 u21 u22 u23 u24 u25 u26 u27 u28 u29 u30 u31 u32 u33 u34 u35 u36 u37 u38 : AV),
    WC Γ (.loop lb) ⟨[.int .i64 (n : Int), u1, u2, v, u4, .int .i64 (i : Int), u6, u7, u8, u9, u10, u11, u12, u13, u14, u15, u16, u17, u18, u19, u20, u21, u22, u23, u24, u25, u26, u27, u28, u29, u30, u31, u32, u33, u34, u35, u36, u37, u38], H, L⟩ fun e s' => e = .exit 2 ∧ s'.loops = L ∧ Same H s'.heap n0 (fun _ => False) ∧ s'.T.length = 39 ∧ gt s'.T 0 = .int .i64 (n : Int) ∧ Own1 n0 s'.heap (gt s'.T 3) (xs ++ (List.replicate k ([3] : List Int)).flatten) := by
  subst hlb
  unfold ir25
  simp only
  intro k
  induction k with
  | zero =>
    intro i H v xs hi hv hn0 hx u1 u2 u4 u6 u7 u8 u9 u10 u11 u12 u13 u14 u15 u16 u17 u18 u19 u20 u21 u22 u23 u24 u25 u26 u27 u28 u29 u30 u31 u32 u33 u34 u35 u36 u37 u38
    have hlt : ¬ ((i : Int) < (160 : Int)) := by omega
    refine WC.loop (WC.seq (WC.seq (WC.region ?_)))
    repeat (first
      | (refine WO.yes rfl ?_)
      | (refine WO.no rfl ?_; simp only [pt])
      | (refine WO.op (by intro; simp only [go_sem, fillP, over, cut, nilCheckAV, hlt, decide_false]; rfl) ?_; simp only [pt])
      | (refine WO.op (by intro; exact ev_lenS rfl) ?_; simp only [pt])
      | (refine WO.opN (by intro; simp only [go_sem, storeAt, Option.bind_eq_bind, over, setBlk, cut, hlt, decide_false]; rfl) ?_))
    refine WO.nil ?_
    simp only [Then, Out]
    refine WC.no (by simp only [go_sem, hlt, decide_false]) (WC.exit ?_)
    exact ⟨rfl, rfl, Same.refl _ _ _, rfl, rfl, by simpa [gt] using hv⟩
  | succ k ih =>
    intro i H v xs hi hv hn0 hx u1 u2 u4 u6 u7 u8 u9 u10 u11 u12 u13 u14 u15 u16 u17 u18 u19 u20 u21 u22 u23 u24 u25 u26 u27 u28 u29 u30 u31 u32 u33 u34 u35 u36 u37 u38
    have hlt : ((i : Int) < (160 : Int)) := by omega
    have hw : IntKind.wrap .i64 ((i : Int) + 1) = ((i + 1 : Nat) : Int) := by rw [wrap_id (by omega) (by omega)]; rfl
    obtain ⟨v', H', happ, hv', hsame⟩ := own1_app (L := L) (ys := ([3] : List Int)) (hv.app [some (Blk.mk 0 [.int .i64 3])]) (by simp; omega) (by simp) (by simp; omega) (x := .sref H.length 0 0 1 1 (some 1)) rfl (by simp only [scells, if_true, look_right0]; rfl)
    have hs2 : Same H H' n0 (fun _ => False) := ((Same.app _).weaken hn0 (fun _ _ h => h)).trans hsame
    refine WC.loop (WC.seq (WC.seq (WC.region ?_)))
    repeat (first
      | (refine WO.yes rfl ?_)
      | (refine WO.no rfl ?_; simp only [pt])
      | (refine WO.op (by intro; simp only [go_sem, fillP, over, cut, nilCheckAV, hlt, decide_true]; rfl) ?_; simp only [pt])
      | (refine WO.op (by intro; exact ev_lenS rfl) ?_; simp only [pt])
      | (refine WO.opN (by intro; simp only [go_sem, storeAt, Option.bind_eq_bind, over, setBlk, cut, hlt, decide_true]; rfl) ?_))
    refine WO.nil ?_
    simp only [Then, Out]
    refine WC.yes (by simp only [go_sem, hlt, decide_true]) (WC.skip ?_)
    simp only [Then, Out]
    refine WC.seq (WC.block (WC.region ?_))
    repeat (first
      | (refine WO.yes rfl ?_)
      | (refine WO.no rfl ?_; simp only [pt])
      | (refine WO.op (by intro; simp only [go_sem, fillP, over, cut, nilCheckAV]; rfl) ?_; simp only [pt])
      | (refine WO.op (by intro; exact ev_lenS rfl) ?_; simp only [pt])
      | (refine WO.opN (by intro; simp only [go_sem, storeAt, Option.bind_eq_bind, over, setBlk, cut]; rfl) ?_))
    refine WO.op (by intro; rw [ev_append]; exact happ) ?_
    simp only [pt]
    repeat (first
      | (refine WO.yes rfl ?_)
      | (refine WO.no rfl ?_; simp only [pt])
      | (refine WO.op (by intro; simp only [go_sem, fillP, over, cut, nilCheckAV]; rfl) ?_; simp only [pt])
      | (refine WO.op (by intro; exact ev_lenS rfl) ?_; simp only [pt])
      | (refine WO.opN (by intro; simp only [go_sem, storeAt, Option.bind_eq_bind, over, setBlk, cut]; rfl) ?_))
    refine WO.nil ?_
    simp only [Then, Out]
    refine WC.region ?_
    repeat (first
      | (refine WO.yes rfl ?_)
      | (refine WO.no rfl ?_; simp only [pt])
      | (refine WO.op (by intro; simp only [go_sem, fillP, over, cut, nilCheckAV, hw]; rfl) ?_; simp only [pt])
      | (refine WO.op (by intro; exact ev_lenS rfl) ?_; simp only [pt])
      | (refine WO.opN (by intro; simp only [go_sem, storeAt, Option.bind_eq_bind, over, setBlk, cut, hw]; rfl) ?_))
    refine WO.nil ?_
    simp only [Then, Out]
    refine (ih (i + 1) H' v' (xs ++ [3]) (by omega) hv' (by have := hs2.len; omega) (by simp; omega) _ _ _ _ _ _ _ _ _ _ _ _ _ _ _ _ _ _ _ _ _ _ _ _ _ _ _ _ _ _ _ _ _ _ _ _).mono ?_
    rintro e s' ⟨h1, h2, h3, h4, h5, h6⟩
    refine ⟨h1, h2, hs2.trans h3, h4, h5, ?_⟩
    rw [List.replicate_succ, List.flatten_cons, ← List.append_assoc]
    exact h6

theorem rest_loop6 {Γ : Env} {L : List (Option ALoop)} {n n0 : Nat} (hn : n ≤ 40) {lb : IR} (hlb : lb = match ir25.body with | .seq _ (.seq _ (.seq _ (.seq _ (.seq (.seq _ (.block _ (.loop b))) _)))) => b | _ => .skip) :
    ∀ (k i : Nat) (H : Hp) (v : AV) (xs : List Int), i + k = 40 → Own1 n0 H v xs → n0 ≤ H.length → xs.length + k * 1 ≤ 1000 → ∀ (u1 u2 u4 u5 u7 u8 u9 u10 u11 u12 u13 u14 u15 u16 u17 u18 u19 u20 u21 u22 u23 u24 u25 u26 u27 u28 u29 u30 u31 u32 u33 u34 u35 u36 u37 u38 : AV),
    WC Γ (.loop lb) ⟨[.int .i64 (n : Int), u1, u2, v, u4, u5, .int .i64 (i : Int), u7, u8, u9, u10, u11, u12, u13, u14, u15, u16, u17, u18, u19, u20, u21, u22, u23, u24, u25, u26, u27, u28, u29, u30, u31, u32, u33, u34, u35, u36, u37, u38], H, L⟩ fun e s' => e = .exit 4 ∧ s'.loops = L ∧ Same H s'.heap n0 (fun _ => False) ∧ s'.T.length = 39 ∧ gt s'.T 0 = .int .i64 (n : Int) ∧ Own1 n0 s'.heap (gt s'.T 3) (xs ++ (List.replicate k ([6] : List Int)).flatten) := by
  subst hlb
  unfold ir25
  simp only
  intro k
  induction k with
  | zero =>
    intro i H v xs hi hv hn0 hx u1 u2 u4 u5 u7 u8 u9 u10 u11 u12 u13 u14 u15 u16 u17 u18 u19 u20 u21 u22 u23 u24 u25 u26 u27 u28 u29 u30 u31 u32 u33 u34 u35 u36 u37 u38
    have hlt : ¬ ((i : Int) < (40 : Int)) := by omega
    refine WC.loop (WC.seq (WC.seq (WC.region ?_)))
    repeat (first
      | (refine WO.yes rfl ?_)
      | (refine WO.no rfl ?_; simp only [pt])
      | (refine WO.op (by intro; simp only [go_sem, fillP, over, cut, nilCheckAV, hlt, decide_false]; rfl) ?_; simp only [pt])
      | (refine WO.op (by intro; exact ev_lenS rfl) ?_; simp only [pt])
      | (refine WO.opN (by intro; simp only [go_sem, storeAt, Option.bind_eq_bind, over, setBlk, cut, hlt, decide_false]; rfl) ?_))
    refine WO.nil ?_
    simp only [Then, Out]
    refine WC.no (by simp only [go_sem, hlt, decide_false]) (WC.exit ?_)
    exact ⟨rfl, rfl, Same.refl _ _ _, rfl, rfl, by simpa [gt] using hv⟩
  | succ k ih =>
    intro i H v xs hi hv hn0 hx u1 u2 u4 u5 u7 u8 u9 u10 u11 u12 u13 u14 u15 u16 u17 u18 u19 u20 u21 u22 u23 u24 u25 u26 u27 u28 u29 u30 u31 u32 u33 u34 u35 u36 u37 u38
    have hlt : ((i : Int) < (40 : Int)) := by omega
    have hw : IntKind.wrap .i64 ((i : Int) + 1) = ((i + 1 : Nat) : Int) := by rw [wrap_id (by omega) (by omega)]; rfl
    obtain ⟨v', H', happ, hv', hsame⟩ := own1_app (L := L) (ys := ([6] : List Int)) (hv.app [some (Blk.mk 0 [.int .i64 6])]) (by simp; omega) (by simp) (by simp; omega) (x := .sref H.length 0 0 1 1 (some 1)) rfl (by simp only [scells, if_true, look_right0]; rfl)
    have hs2 : Same H H' n0 (fun _ => False) := ((Same.app _).weaken hn0 (fun _ _ h => h)).trans hsame
    refine WC.loop (WC.seq (WC.seq (WC.region ?_)))
    repeat (first
      | (refine WO.yes rfl ?_)
      | (refine WO.no rfl ?_; simp only [pt])
      | (refine WO.op (by intro; simp only [go_sem, fillP, over, cut, nilCheckAV, hlt, decide_true]; rfl) ?_; simp only [pt])
      | (refine WO.op (by intro; exact ev_lenS rfl) ?_; simp only [pt])
      | (refine WO.opN (by intro; simp only [go_sem, storeAt, Option.bind_eq_bind, over, setBlk, cut, hlt, decide_true]; rfl) ?_))
    refine WO.nil ?_
    simp only [Then, Out]
    refine WC.yes (by simp only [go_sem, hlt, decide_true]) (WC.skip ?_)
    simp only [Then, Out]
    refine WC.seq (WC.block (WC.region ?_))
    repeat (first
      | (refine WO.yes rfl ?_)
      | (refine WO.no rfl ?_; simp only [pt])
      | (refine WO.op (by intro; simp only [go_sem, fillP, over, cut, nilCheckAV]; rfl) ?_; simp only [pt])
      | (refine WO.op (by intro; exact ev_lenS rfl) ?_; simp only [pt])
      | (refine WO.opN (by intro; simp only [go_sem, storeAt, Option.bind_eq_bind, over, setBlk, cut]; rfl) ?_))
    refine WO.op (by intro; rw [ev_append]; exact happ) ?_
    simp only [pt]
    repeat (first
      | (refine WO.yes rfl ?_)
      | (refine WO.no rfl ?_; simp only [pt])
      | (refine WO.op (by intro; simp only [go_sem, fillP, over, cut, nilCheckAV]; rfl) ?_; simp only [pt])
      | (refine WO.op (by intro; exact ev_lenS rfl) ?_; simp only [pt])
      | (refine WO.opN (by intro; simp only [go_sem, storeAt, Option.bind_eq_bind, over, setBlk, cut]; rfl) ?_))
    refine WO.nil ?_
    simp only [Then, Out]
    refine WC.region ?_
    repeat (first
      | (refine WO.yes rfl ?_)
      | (refine WO.no rfl ?_; simp only [pt])
      | (refine WO.op (by intro; simp only [go_sem, fillP, over, cut, nilCheckAV, hw]; rfl) ?_; simp only [pt])
      | (refine WO.op (by intro; exact ev_lenS rfl) ?_; simp only [pt])
      | (refine WO.opN (by intro; simp only [go_sem, storeAt, Option.bind_eq_bind, over, setBlk, cut, hw]; rfl) ?_))
    refine WO.nil ?_
    simp only [Then, Out]
    refine (ih (i + 1) H' v' (xs ++ [6]) (by omega) hv' (by have := hs2.len; omega) (by simp; omega) _ _ _ _ _ _ _ _ _ _ _ _ _ _ _ _ _ _ _ _ _ _ _ _ _ _ _ _ _ _ _ _ _ _ _ _).mono ?_
    rintro e s' ⟨h1, h2, h3, h4, h5, h6⟩
    refine ⟨h1, h2, hs2.trans h3, h4, h5, ?_⟩
    rw [List.replicate_succ, List.flatten_cons, ← List.append_assoc]
    exact h6

theorem rest_loop7 {Γ : Env} {L : List (Option ALoop)} {n n0 : Nat} (hn : n ≤ 40) {lb : IR} (hlb : lb = match ir25.body with | .seq _ (.seq _ (.seq _ (.seq _ (.seq _ (.seq (.seq _ (.block _ (.loop b))) _))))) => b | _ => .skip) :
    ∀ (k i : Nat) (H : Hp) (v : AV) (xs : List Int), i + k = n → Own1 n0 H v xs → n0 ≤ H.length → xs.length + k * 9 ≤ 1000 → ∀ (u1 u2 u4 u5 u6 u8 u9 u10 u11 u12 u13 u14 u15 u16 u17 u18 u19 u20 u21 u22 u23 u24 u25 u26 u27 u28 u29 u30 u31 u32 u33 u34 u35 u36 u37 u38 : AV),
    WC Γ (.loop lb) ⟨[.int .i64 (n : Int), u1, u2, v, u4, u5, u6, .int .i64 (i : Int), u8, u9, u10, u11, u12, u13, u14, u15, u16, u17, u18, u19, u20, u21, u22, u23, u24, u25, u26, u27, u28, u29, u30, u31, u32, u33, u34, u35, u36, u37, u38], H, L⟩ fun e s' => e = .exit 6 ∧ s'.loops = L ∧ Same H s'.heap n0 (fun _ => False) ∧ s'.T.length = 39 ∧ gt s'.T 0 = .int .i64 (n : Int) ∧ Own1 n0 s'.heap (gt s'.T 3) (xs ++ (List.replicate k ([0, 1, 1, 1, 1, 4, 4, 4, 4] : List Int)).flatten) := by
  subst hlb
  unfold ir25
  simp only
  intro k
  induction k with
  | zero =>
    intro i H v xs hi hv hn0 hx u1 u2 u4 u5 u6 u8 u9 u10 u11 u12 u13 u14 u15 u16 u17 u18 u19 u20 u21 u22 u23 u24 u25 u26 u27 u28 u29 u30 u31 u32 u33 u34 u35 u36 u37 u38
    have hlt : ¬ ((i : Int) < (n : Int)) := by omega
    refine WC.loop (WC.seq (WC.seq (WC.region ?_)))
    repeat (first
      | (refine WO.yes rfl ?_)
      | (refine WO.no rfl ?_; simp only [pt])
      | (refine WO.op (by intro; simp only [go_sem, fillP, over, cut, nilCheckAV, hlt, decide_false]; rfl) ?_; simp only [pt])
      | (refine WO.op (by intro; exact ev_lenS rfl) ?_; simp only [pt])
      | (refine WO.opN (by intro; simp only [go_sem, storeAt, Option.bind_eq_bind, over, setBlk, cut, hlt, decide_false]; rfl) ?_))
    refine WO.nil ?_
    simp only [Then, Out]
    refine WC.no (by simp only [go_sem, hlt, decide_false]) (WC.exit ?_)
    exact ⟨rfl, rfl, Same.refl _ _ _, rfl, rfl, by simpa [gt] using hv⟩
  | succ k ih =>
    intro i H v xs hi hv hn0 hx u1 u2 u4 u5 u6 u8 u9 u10 u11 u12 u13 u14 u15 u16 u17 u18 u19 u20 u21 u22 u23 u24 u25 u26 u27 u28 u29 u30 u31 u32 u33 u34 u35 u36 u37 u38
    have hlt : ((i : Int) < (n : Int)) := by omega
    have hw : IntKind.wrap .i64 ((i : Int) + 1) = ((i + 1 : Nat) : Int) := by rw [wrap_id (by omega) (by omega)]; rfl
    obtain ⟨v', H', happ, hv', hsame⟩ := own1_app (L := L) (ys := ([0, 1, 1, 1, 1, 4, 4, 4, 4] : List Int)) (hv.app [some (Blk.mk 0 [.int .i64 0, .int .i64 1, .int .i64 1, .int .i64 1, .int .i64 1, .int .i64 4, .int .i64 4, .int .i64 4, .int .i64 4])]) (by simp; omega) (by simp) (by simp; omega) (x := .sref H.length 0 0 1 9 (some 9)) rfl (by simp only [scells, if_true, look_right0]; rfl)
    have hs2 : Same H H' n0 (fun _ => False) := ((Same.app _).weaken hn0 (fun _ _ h => h)).trans hsame
    refine WC.loop (WC.seq (WC.seq (WC.region ?_)))
    repeat (first
      | (refine WO.yes rfl ?_)
      | (refine WO.no rfl ?_; simp only [pt])
      | (refine WO.op (by intro; simp only [go_sem, fillP, over, cut, nilCheckAV, hlt, decide_true]; rfl) ?_; simp only [pt])
      | (refine WO.op (by intro; exact ev_lenS rfl) ?_; simp only [pt])
      | (refine WO.opN (by intro; simp only [go_sem, storeAt, Option.bind_eq_bind, over, setBlk, cut, hlt, decide_true]; rfl) ?_))
    refine WO.nil ?_
    simp only [Then, Out]
    refine WC.yes (by simp only [go_sem, hlt, decide_true]) (WC.skip ?_)
    simp only [Then, Out]
    refine WC.seq (WC.block (WC.region ?_))
    repeat (first
      | (refine WO.yes rfl ?_)
      | (refine WO.no rfl ?_; simp only [pt])
      | (refine WO.op (by intro; simp only [go_sem, fillP, over, cut, nilCheckAV]; rfl) ?_; simp only [pt])
      | (refine WO.op (by intro; exact ev_lenS rfl) ?_; simp only [pt])
      | (refine WO.opN (by intro; simp only [go_sem, storeAt, Option.bind_eq_bind, over, setBlk, cut]; rfl) ?_))
    refine WO.op (by intro; rw [ev_append]; exact happ) ?_
    simp only [pt]
    repeat (first
      | (refine WO.yes rfl ?_)
      | (refine WO.no rfl ?_; simp only [pt])
      | (refine WO.op (by intro; simp only [go_sem, fillP, over, cut, nilCheckAV]; rfl) ?_; simp only [pt])
      | (refine WO.op (by intro; exact ev_lenS rfl) ?_; simp only [pt])
      | (refine WO.opN (by intro; simp only [go_sem, storeAt, Option.bind_eq_bind, over, setBlk, cut]; rfl) ?_))
    refine WO.nil ?_
    simp only [Then, Out]
    refine WC.region ?_
    repeat (first
      | (refine WO.yes rfl ?_)
      | (refine WO.no rfl ?_; simp only [pt])
      | (refine WO.op (by intro; simp only [go_sem, fillP, over, cut, nilCheckAV, hw]; rfl) ?_; simp only [pt])
      | (refine WO.op (by intro; exact ev_lenS rfl) ?_; simp only [pt])
      | (refine WO.opN (by intro; simp only [go_sem, storeAt, Option.bind_eq_bind, over, setBlk, cut, hw]; rfl) ?_))
    refine WO.nil ?_
    simp only [Then, Out]
    refine (ih (i + 1) H' v' (xs ++ [0, 1, 1, 1, 1, 4, 4, 4, 4]) (by omega) hv' (by have := hs2.len; omega) (by simp; omega) _ _ _ _ _ _ _ _ _ _ _ _ _ _ _ _ _ _ _ _ _ _ _ _ _ _ _ _ _ _ _ _ _ _ _ _).mono ?_
    rintro e s' ⟨h1, h2, h3, h4, h5, h6⟩
    refine ⟨h1, h2, hs2.trans h3, h4, h5, ?_⟩
    rw [List.replicate_succ, List.flatten_cons, ← List.append_assoc]
    exact h6

theorem as39 {T : List AV} {n : Nat} {v : AV} (hl : T.length = 39) (h0 : gt T 0 = .int .i64 (n : Int)) (h3 : gt T 3 = v) : ∃ f : Nat → AV, T = [.int .i64 (n : Int), f 1, f 2, v, f 4, f 5, f 6, f 7, f 8, f 9, f 10, f 11, f 12, f 13, f 14, f 15, f 16, f 17, f 18, f 19, f 20, f 21, f 22, f 23, f 24, f 25, f 26, f 27, f 28, f 29, f 30, f 31, f 32, f 33, f 34, f 35, f 36, f 37, f 38] := by
  refine ⟨gt T, ?_⟩
  rw [← h0, ← h3]
  have := list_gts T
  rw [hl] at this
  exact this

theorem flat_len (k : Nat) (ys : List Int) : (List.replicate k ys).flatten.length = k * ys.length := by
  induction k with
  | zero => simp
  | succ k ih => rw [List.replicate_succ, List.flatten_cons, List.length_append, ih, Nat.succ_mul, Nat.add_comm]

/-- The steps of rest, as integers. -/
def restZ (n : Nat) : List Int := (List.replicate n ([7] : List Int)).flatten ++ (List.replicate 160 ([3] : List Int)).flatten ++ (List.replicate 40 ([6] : List Int)).flatten ++ (List.replicate n ([0, 1, 1, 1, 1, 4, 4, 4, 4] : List Int)).flatten

theorem rest_run {Γ : Env} (hs : Γ.spec 25 = none) (hf : Γ.fn 25 = some ir25) {n : Nat} (hn : n ≤ 40) (H : Hp) (L : List (Option ALoop)) :
    WF Γ (.func 25 [] []) [.int .i64 (n : Int)] ⟨H, L⟩ fun y m' => m'.loops = L ∧ Same H m'.heap H.length (fun _ => False) ∧ Own1 H.length m'.heap y (restZ n) := by
  have l4 := rest_loop4 (Γ := Γ) (L := L) (n0 := H.length) hn (lb := match ir25.body with | .seq _ (.seq _ (.seq (.seq _ (.block _ (.loop b))) _)) => b | _ => .skip) rfl
  have l5 := rest_loop5 (Γ := Γ) (L := L) (n0 := H.length) hn (lb := match ir25.body with | .seq _ (.seq _ (.seq _ (.seq (.seq _ (.block _ (.loop b))) _))) => b | _ => .skip) rfl
  have l6 := rest_loop6 (Γ := Γ) (L := L) (n0 := H.length) hn (lb := match ir25.body with | .seq _ (.seq _ (.seq _ (.seq _ (.seq (.seq _ (.block _ (.loop b))) _)))) => b | _ => .skip) rfl
  have l7 := rest_loop7 (Γ := Γ) (L := L) (n0 := H.length) hn (lb := match ir25.body with | .seq _ (.seq _ (.seq _ (.seq _ (.seq _ (.seq (.seq _ (.block _ (.loop b))) _))))) => b | _ => .skip) rfl
  refine WF.fn hs hf (by show 1 ≤ 39; decide) ?_
  unfold ir25 at l4 l5 l6 l7 ⊢
  simp only at l4 l5 l6 l7
  simp only [padTo, List.replicate, List.nil_append, List.append_nil, List.cons_append]
  refine WC.seq (WC.region ?_)
  repeat (first
    | (refine WO.yes rfl ?_)
    | (refine WO.no rfl ?_; simp only [pt])
    | (refine WO.op (by intro; simp only [go_sem, fillP, over, cut, nilCheckAV]; rfl) ?_; simp only [pt])
    | (refine WO.op (by intro; exact ev_lenS rfl) ?_; simp only [pt])
    | (refine WO.opN (by intro; simp only [go_sem, storeAt, Option.bind_eq_bind, over, setBlk, cut]; rfl) ?_))
  refine WO.nil ?_
  simp only [Then]
  refine WC.seq (WC.region ?_)
  repeat (first
    | (refine WO.yes rfl ?_)
    | (refine WO.no rfl ?_; simp only [pt])
    | (refine WO.op (by intro; simp only [go_sem, fillP, over, cut, nilCheckAV]; rfl) ?_; simp only [pt])
    | (refine WO.op (by intro; exact ev_lenS rfl) ?_; simp only [pt])
    | (refine WO.opN (by intro; simp only [go_sem, storeAt, Option.bind_eq_bind, over, setBlk, cut]; rfl) ?_))
  refine WO.nil ?_
  simp only [Then]
  refine WC.seq (WC.seq (WC.region ?_))
  repeat (first
    | (refine WO.yes rfl ?_)
    | (refine WO.no rfl ?_; simp only [pt])
    | (refine WO.op (by intro; simp only [go_sem, fillP, over, cut, nilCheckAV]; rfl) ?_; simp only [pt])
    | (refine WO.op (by intro; exact ev_lenS rfl) ?_; simp only [pt])
    | (refine WO.opN (by intro; simp only [go_sem, storeAt, Option.bind_eq_bind, over, setBlk, cut]; rfl) ?_))
  refine WO.nil ?_
  simp only [Then]
  refine WC.block ((l4 n 0 _ _ _ (by omega) (.inl ⟨rfl, rfl⟩) (Nat.le_refl _) (by simp only [List.length_append, flat_len, List.length_cons, List.length_nil]; omega) _ _ _ _ _ _ _ _ _ _ _ _ _ _ _ _ _ _ _ _ _ _ _ _ _ _ _ _ _ _ _ _ _ _ _ _).mono ?_)
  rintro e ⟨T1, H1, L1⟩ ⟨rfl, rfl, s1', t1, a1, o1⟩
  simp only at s1' t1 a1 o1
  have s1 := s1'
  obtain ⟨f1, hT1⟩ := as39 t1 a1 rfl
  generalize gt T1 3 = v1 at o1 hT1
  subst hT1
  simp only [Out, if_true, Then]
  refine WC.seq (WC.seq (WC.region ?_))
  repeat (first
    | (refine WO.yes rfl ?_)
    | (refine WO.no rfl ?_; simp only [pt])
    | (refine WO.op (by intro; simp only [go_sem, fillP, over, cut, nilCheckAV]; rfl) ?_; simp only [pt])
    | (refine WO.op (by intro; exact ev_lenS rfl) ?_; simp only [pt])
    | (refine WO.opN (by intro; simp only [go_sem, storeAt, Option.bind_eq_bind, over, setBlk, cut]; rfl) ?_))
  refine WO.nil ?_
  simp only [Then]
  refine WC.block ((l5 160 0 _ _ _ (by omega) (o1) ((by have := s1.len; omega)) (by simp only [List.length_append, flat_len, List.length_cons, List.length_nil]; omega) _ _ _ _ _ _ _ _ _ _ _ _ _ _ _ _ _ _ _ _ _ _ _ _ _ _ _ _ _ _ _ _ _ _ _ _).mono ?_)
  rintro e ⟨T2, H2, L2⟩ ⟨rfl, rfl, s2', t2, a2, o2⟩
  simp only at s2' t2 a2 o2
  have s2 := s1.trans s2'
  obtain ⟨f2, hT2⟩ := as39 t2 a2 rfl
  generalize gt T2 3 = v2 at o2 hT2
  subst hT2
  simp only [Out, if_true, Then]
  refine WC.seq (WC.seq (WC.region ?_))
  repeat (first
    | (refine WO.yes rfl ?_)
    | (refine WO.no rfl ?_; simp only [pt])
    | (refine WO.op (by intro; simp only [go_sem, fillP, over, cut, nilCheckAV]; rfl) ?_; simp only [pt])
    | (refine WO.op (by intro; exact ev_lenS rfl) ?_; simp only [pt])
    | (refine WO.opN (by intro; simp only [go_sem, storeAt, Option.bind_eq_bind, over, setBlk, cut]; rfl) ?_))
  refine WO.nil ?_
  simp only [Then]
  refine WC.block ((l6 40 0 _ _ _ (by omega) (o2) ((by have := s2.len; omega)) (by simp only [List.length_append, flat_len, List.length_cons, List.length_nil]; omega) _ _ _ _ _ _ _ _ _ _ _ _ _ _ _ _ _ _ _ _ _ _ _ _ _ _ _ _ _ _ _ _ _ _ _ _).mono ?_)
  rintro e ⟨T3, H3, L3⟩ ⟨rfl, rfl, s3', t3, a3, o3⟩
  simp only at s3' t3 a3 o3
  have s3 := s2.trans s3'
  obtain ⟨f3, hT3⟩ := as39 t3 a3 rfl
  generalize gt T3 3 = v3 at o3 hT3
  subst hT3
  simp only [Out, if_true, Then]
  refine WC.seq (WC.seq (WC.region ?_))
  repeat (first
    | (refine WO.yes rfl ?_)
    | (refine WO.no rfl ?_; simp only [pt])
    | (refine WO.op (by intro; simp only [go_sem, fillP, over, cut, nilCheckAV]; rfl) ?_; simp only [pt])
    | (refine WO.op (by intro; exact ev_lenS rfl) ?_; simp only [pt])
    | (refine WO.opN (by intro; simp only [go_sem, storeAt, Option.bind_eq_bind, over, setBlk, cut]; rfl) ?_))
  refine WO.nil ?_
  simp only [Then]
  refine WC.block ((l7 n 0 _ _ _ (by omega) (o3) ((by have := s3.len; omega)) (by simp only [List.length_append, flat_len, List.length_cons, List.length_nil]; omega) _ _ _ _ _ _ _ _ _ _ _ _ _ _ _ _ _ _ _ _ _ _ _ _ _ _ _ _ _ _ _ _ _ _ _ _).mono ?_)
  rintro e ⟨T4, H4, L4⟩ ⟨rfl, rfl, s4', t4, a4, o4⟩
  simp only at s4' t4 a4 o4
  have s4 := s3.trans s4'
  obtain ⟨f4, hT4⟩ := as39 t4 a4 rfl
  generalize gt T4 3 = v4 at o4 hT4
  subst hT4
  simp only [Out, if_true, Then]
  refine WC.seq (WC.region ?_)
  repeat (first
    | (refine WO.yes rfl ?_)
    | (refine WO.no rfl ?_; simp only [pt])
    | (refine WO.op (by intro; simp only [go_sem, fillP, over, cut, nilCheckAV]; rfl) ?_; simp only [pt])
    | (refine WO.op (by intro; exact ev_lenS rfl) ?_; simp only [pt])
    | (refine WO.opN (by intro; simp only [go_sem, storeAt, Option.bind_eq_bind, over, setBlk, cut]; rfl) ?_))
  refine WO.nil ?_
  simp only [Then]
  refine WC.ret ⟨_, rfl, rfl, s4, ?_⟩
  have e : restZ n = [] ++ (List.replicate n ([7] : List Int)).flatten ++ (List.replicate 160 ([3] : List Int)).flatten ++ (List.replicate 40 ([6] : List Int)).flatten ++ (List.replicate n ([0, 1, 1, 1, 1, 4, 4, 4, 4] : List Int)).flatten := rfl
  rw [e]
  exact o4
end Go.Proofs.Ytpddngcgajjacaa

