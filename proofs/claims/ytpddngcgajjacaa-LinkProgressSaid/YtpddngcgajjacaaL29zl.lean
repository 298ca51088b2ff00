import Derived.Test.YtpddngcgajjacaaL29zk
set_option linter.unusedSimpArgs false
set_option linter.unusedVariables false
namespace Go.Proofs.Ytpddngcgajjacaa
open Go.Zz


theorem handed_loop {Γ : Env} {b x : AV} {bs : List Int} {ss : List Nat} (hb : IntS b bs) (hx : IntS x (ss.map fun s : Nat => (s : Int))) (hbl : bs.length ≤ 1000) (hsl : ss.length ≤ 1000) {lb : IR} (hlb : lb = match ir24.body with | .seq _ (.seq _ (.seq (.seq _ (.block _ (.loop b))) _)) => b | _ => .skip) :
    ∀ (k i n : Nat), i + k = ss.length → n ≤ bs.length → ∀ (u2 u3 u7 u8 u9 u10 u11 u12 u13 u14 u15 u16 u17 u18 u19 u20 u21 u22 u23 u24 u25 u26 u27 : AV),
    WC Γ (.loop lb) ⟨[b, x, u2, u3, .int .i64 0, .int .i64 (n : Int), .int .i64 (i : Int), u7, u8, u9, u10, u11, u12, u13, u14, u15, u16, u17, u18, u19, u20, u21, u22, u23, u24, u25, u26, u27], [], []⟩ fun e s' => e = .exit 0 ∧ s'.heap = [] ∧ s'.loops = [] ∧ s'.T.length = 28 ∧ gt s'.T 5 = .int .i64 (handedM bs.length (ss.drop i) n : Nat) := by
  subst hlb
  unfold ir24
  simp only
  have hlen : slen x = some ss.length := by rw [hx.len]; simp
  have h80 : ((8 : Int) = 0) = False := by simp
  intro k
  induction k with
  | zero =>
    intro i n hi hn u2 u3 u7 u8 u9 u10 u11 u12 u13 u14 u15 u16 u17 u18 u19 u20 u21 u22 u23 u24 u25 u26 u27
    have hlt : ¬ ((i : Int) < (ss.length : Int)) := by omega
    refine WC.loop (WC.seq (WC.seq (WC.region ?_)))
    repeat (first
      | (refine WO.yes rfl ?_)
      | (refine WO.no rfl ?_; simp only [pt])
      | (refine WO.op (by intro; simp only [go_sem, Zz.look, fillP, over, cut]; rfl) ?_; simp only [pt])
      | (refine WO.opN (by intro; simp only [go_sem, Zz.look, storeAt, over, setBlk, cut]; rfl) ?_))
    refine WO.op (by intro; exact ev_lenS (n := ss.length) (by simp only [go_sem]; exact hlen)) ?_
    simp only [pt]
    repeat (first
      | (refine WO.yes rfl ?_)
      | (refine WO.no rfl ?_; simp only [pt])
      | (refine WO.op (by intro; simp only [go_sem, Zz.look, fillP, over, cut, hlt, decide_false]; rfl) ?_; simp only [pt])
      | (refine WO.opN (by intro; simp only [go_sem, Zz.look, storeAt, over, setBlk, cut, hlt, decide_false]; rfl) ?_))
    refine WO.nil ?_
    simp only [Then, Out]
    refine WC.no (by simp only [go_sem, hlt, decide_false]) (WC.exit ?_)
    refine ⟨rfl, rfl, rfl, rfl, ?_⟩
    rw [List.drop_of_length_le (by omega)]
    rfl
  | succ k ih =>
    intro i n hi hn u2 u3 u7 u8 u9 u10 u11 u12 u13 u14 u15 u16 u17 u18 u19 u20 u21 u22 u23 u24 u25 u26 u27
    have hix : i < ss.length := by omega
    have hlt : ((i : Int) < (ss.length : Int)) := by omega
    have hixx : i < (ss.map fun s : Nat => (s : Int)).length := by simpa using hix
    have hp := hx.at hixx
    have hld := drop_at hixx
    simp only [List.getElem_map] at hld
    have hw : IntKind.wrap .i64 ((i : Int) + 1) = ((i + 1 : Nat) : Int) := by rw [wrap_id (by omega) (by omega)]; rfl
    have hwn : IntKind.wrap .i64 ((n : Int) + 1) = ((n + 1 : Nat) : Int) := by rw [wrap_id (by omega) (by omega)]; rfl
    have hrem : Int.tmod (ss[i] : Int) 8 = ((ss[i] % 8 : Nat) : Int) := rfl
    have hdrop : ss.drop i = ss[i] :: ss.drop (i + 1) := List.drop_eq_getElem_cons hix
    rw [hdrop]
    refine WC.loop (WC.seq (WC.seq (WC.region ?_)))
    repeat (first
      | (refine WO.yes rfl ?_)
      | (refine WO.no rfl ?_; simp only [pt])
      | (refine WO.op (by intro; simp only [go_sem, Zz.look, fillP, over, cut]; rfl) ?_; simp only [pt])
      | (refine WO.opN (by intro; simp only [go_sem, Zz.look, storeAt, over, setBlk, cut]; rfl) ?_))
    refine WO.op (by intro; exact ev_lenS (n := ss.length) (by simp only [go_sem]; exact hlen)) ?_
    simp only [pt]
    repeat (first
      | (refine WO.yes rfl ?_)
      | (refine WO.no rfl ?_; simp only [pt])
      | (refine WO.op (by intro; simp only [go_sem, Zz.look, fillP, over, cut, hlt, decide_true]; rfl) ?_; simp only [pt])
      | (refine WO.opN (by intro; simp only [go_sem, Zz.look, storeAt, over, setBlk, cut, hlt, decide_true]; rfl) ?_))
    refine WO.nil ?_
    simp only [Then, Out]
    refine WC.yes (by simp only [go_sem, hlt, decide_true]) (WC.skip ?_)
    simp only [Then, Out]
    refine WC.seq (WC.block (WC.seq (WC.region ?_)))
    repeat (first
      | (refine WO.yes rfl ?_)
      | (refine WO.no rfl ?_; simp only [pt])
      | (refine WO.op (by intro; simp only [go_sem, Zz.look, fillP, over, cut]; rfl) ?_; simp only [pt])
      | (refine WO.opN (by intro; simp only [go_sem, Zz.look, storeAt, over, setBlk, cut]; rfl) ?_))
    refine WO.op (by intro; rw [ev_indexAddr]; exact (congrArg (Option.map _) hp).trans rfl) ?_
    simp only [pt]
    by_cases h7 : ss[i] % 8 = 7
    · have h7' : (((ss[i] % 8 : Nat) : Int) == 7) = true := by rw [h7]; rfl
      repeat (first
        | (refine WO.yes rfl ?_)
        | (refine WO.no rfl ?_; simp only [pt])
        | (refine WO.op (by intro; simp only [go_sem, Zz.look, fillP, over, cut, hld, h80, hrem, h7']; rfl) ?_; simp only [pt])
        | (refine WO.opN (by intro; simp only [go_sem, Zz.look, storeAt, over, setBlk, cut, hld, h80, hrem, h7']; rfl) ?_))
      refine WO.op (by intro; exact ev_lenS (n := bs.length) (by simp only [go_sem]; exact hb.len)) ?_
      simp only [pt]
      by_cases hnb : n < bs.length
      · have hnb' : ((n : Int) < (bs.length : Int)) := by omega
        have hif : (if ss[i] % 8 = 7 ∧ n < bs.length then n + 1 else n) = n + 1 := if_pos ⟨h7, hnb⟩
        repeat (first
          | (refine WO.yes rfl ?_)
          | (refine WO.no rfl ?_; simp only [pt])
          | (refine WO.op (by intro; simp only [go_sem, Zz.look, fillP, over, cut, hnb', decide_true]; rfl) ?_; simp only [pt])
          | (refine WO.opN (by intro; simp only [go_sem, Zz.look, storeAt, over, setBlk, cut, hnb', decide_true]; rfl) ?_))
        refine WO.nil ?_
        simp only [Then, Out]
        refine WC.yes (by simp only [go_sem, hnb', decide_true]) (WC.region ?_)
        repeat (first
          | (refine WO.yes rfl ?_)
          | (refine WO.no rfl ?_; simp only [pt])
          | (refine WO.op (by intro; simp only [go_sem, Zz.look, fillP, over, cut, hwn]; rfl) ?_; simp only [pt])
          | (refine WO.opN (by intro; simp only [go_sem, Zz.look, storeAt, over, setBlk, cut, hwn]; rfl) ?_))
        refine WO.nil ?_
        simp only [Then, Out]
        refine WC.region ?_
        repeat (first
          | (refine WO.yes rfl ?_)
          | (refine WO.no rfl ?_; simp only [pt])
          | (refine WO.op (by intro; simp only [go_sem, Zz.look, fillP, over, cut, hw]; rfl) ?_; simp only [pt])
          | (refine WO.opN (by intro; simp only [go_sem, Zz.look, storeAt, over, setBlk, cut, hw]; rfl) ?_))
        refine WO.nil ?_
        simp only [Then, Out]
        rw [show handedM bs.length (ss[i] :: ss.drop (i + 1)) n = handedM bs.length (ss.drop (i + 1)) (n + 1) by rw [handedM, hif]]
        exact ih (i + 1) (n + 1) (by omega) (by omega) _ _ _ _ _ _ _ _ _ _ _ _ _ _ _ _ _ _ _ _ _ _ _
      · have hnb' : ¬ ((n : Int) < (bs.length : Int)) := by omega
        have hif : (if ss[i] % 8 = 7 ∧ n < bs.length then n + 1 else n) = n := if_neg (fun h => hnb h.2)
        repeat (first
          | (refine WO.yes rfl ?_)
          | (refine WO.no rfl ?_; simp only [pt])
          | (refine WO.op (by intro; simp only [go_sem, Zz.look, fillP, over, cut, hnb', decide_false]; rfl) ?_; simp only [pt])
          | (refine WO.opN (by intro; simp only [go_sem, Zz.look, storeAt, over, setBlk, cut, hnb', decide_false]; rfl) ?_))
        refine WO.nil ?_
        simp only [Then, Out]
        refine WC.no (by simp only [go_sem, hnb', decide_false]) (WC.skip ?_)
        simp only [Then, Out]
        refine WC.region ?_
        repeat (first
          | (refine WO.yes rfl ?_)
          | (refine WO.no rfl ?_; simp only [pt])
          | (refine WO.op (by intro; simp only [go_sem, Zz.look, fillP, over, cut, hw]; rfl) ?_; simp only [pt])
          | (refine WO.opN (by intro; simp only [go_sem, Zz.look, storeAt, over, setBlk, cut, hw]; rfl) ?_))
        refine WO.nil ?_
        simp only [Then, Out]
        rw [show handedM bs.length (ss[i] :: ss.drop (i + 1)) n = handedM bs.length (ss.drop (i + 1)) n by rw [handedM, hif]]
        exact ih (i + 1) n (by omega) hn _ _ _ _ _ _ _ _ _ _ _ _ _ _ _ _ _ _ _ _ _ _ _
    · have h7' : (((ss[i] % 8 : Nat) : Int) == 7) = false := by simp; omega
      have hif : (if ss[i] % 8 = 7 ∧ n < bs.length then n + 1 else n) = n := if_neg (fun h => h7 h.1)
      repeat (first
        | (refine WO.yes rfl ?_)
        | (refine WO.no rfl ?_; simp only [pt])
        | (refine WO.op (by intro; simp only [go_sem, Zz.look, fillP, over, cut, hld, h80, hrem, h7']; rfl) ?_; simp only [pt])
        | (refine WO.opN (by intro; simp only [go_sem, Zz.look, storeAt, over, setBlk, cut, hld, h80, hrem, h7']; rfl) ?_))
      refine WO.nil ?_
      simp only [Then, Out]
      refine WC.no (by simp only [go_sem, h7']) (WC.skip ?_)
      simp only [Then, Out]
      refine WC.region ?_
      repeat (first
        | (refine WO.yes rfl ?_)
        | (refine WO.no rfl ?_; simp only [pt])
        | (refine WO.op (by intro; simp only [go_sem, Zz.look, fillP, over, cut, hw]; rfl) ?_; simp only [pt])
        | (refine WO.opN (by intro; simp only [go_sem, Zz.look, storeAt, over, setBlk, cut, hw]; rfl) ?_))
      refine WO.nil ?_
      simp only [Then, Out]
      rw [show handedM bs.length (ss[i] :: ss.drop (i + 1)) n = handedM bs.length (ss.drop (i + 1)) n by rw [handedM, hif]]
      exact ih (i + 1) n (by omega) hn _ _ _ _ _ _ _ _ _ _ _ _ _ _ _ _ _ _ _ _ _ _ _

theorem handed_eq {b x : AV} {bs : List Int} {ss : List Nat} (hb : IntS b bs) (hx : IntS x (ss.map fun s : Nat => (s : Int))) (hbl : bs.length ≤ 1000) (hsl : ss.length ≤ 1000) (m : Mem) : borrowE G0 24 [b, x] m = some (.int .i64 (handedM bs.length ss 0 : Nat), m) := by
  refine borrowE_of (by simp [hb.pureA, hx.pureA]) (WF.fn rfl (fn_of Try.func24 cir24) (by show 2 ≤ 28; decide) ?_)
  have loop := handed_loop (Γ := G0) hb hx hbl hsl (lb := match ir24.body with | .seq _ (.seq _ (.seq (.seq _ (.block _ (.loop b))) _)) => b | _ => .skip) rfl ss.length 0 0 (by omega) (by omega)
  unfold ir24 at loop ⊢
  simp only at loop
  simp only [padTo, List.replicate, List.nil_append, List.append_nil, List.cons_append]
  refine WC.seq (WC.region ?_)
  repeat (first
    | (refine WO.yes rfl ?_)
    | (refine WO.no rfl ?_; simp only [pt])
    | (refine WO.op (by intro; simp only [go_sem, Zz.look, fillP, over, cut]; rfl) ?_; simp only [pt])
    | (refine WO.opN (by intro; simp only [go_sem, Zz.look, storeAt, over, setBlk, cut]; rfl) ?_))
  refine WO.nil ?_
  simp only [Then]
  refine WC.seq (WC.region ?_)
  repeat (first
    | (refine WO.yes rfl ?_)
    | (refine WO.no rfl ?_; simp only [pt])
    | (refine WO.op (by intro; simp only [go_sem, Zz.look, fillP, over, cut]; rfl) ?_; simp only [pt])
    | (refine WO.opN (by intro; simp only [go_sem, Zz.look, storeAt, over, setBlk, cut]; rfl) ?_))
  refine WO.nil ?_
  simp only [Then]
  refine WC.seq (WC.seq (WC.region ?_))
  repeat (first
    | (refine WO.yes rfl ?_)
    | (refine WO.no rfl ?_; simp only [pt])
    | (refine WO.op (by intro; simp only [go_sem, Zz.look, fillP, over, cut]; rfl) ?_; simp only [pt])
    | (refine WO.opN (by intro; simp only [go_sem, Zz.look, storeAt, over, setBlk, cut]; rfl) ?_))
  refine WO.nil ?_
  simp only [Then]
  refine WC.block ((loop _ _ _ _ _ _ _ _ _ _ _ _ _ _ _ _ _ _ _ _ _ _ _).mono ?_)
  rintro e ⟨T, H', L'⟩ ⟨rfl, h1, h2, h3, h4⟩
  simp only at h1 h2 h3 h4
  subst h1
  subst h2
  simp only [Out, if_true, Then]
  refine WC.seq (WC.region ?_)
  refine WO.op (by intro; rw [ev_move]) ?_
  refine WO.op (by intro; rw [ev_move]) ?_
  refine WO.nil (WC.ret ⟨_, rfl, ?_⟩)
  simp [oneRes, gt_pt, pt_length, h3, Opd.ev, h4, resV, resA, resC]
end Go.Proofs.Ytpddngcgajjacaa

