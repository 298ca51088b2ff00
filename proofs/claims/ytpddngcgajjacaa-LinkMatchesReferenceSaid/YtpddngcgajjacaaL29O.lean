import Derived.Test.YtpddngcgajjacaaL29N
import Derived.Test.YtpddngcgajjacaaAbsG
set_option linter.unusedSimpArgs false
set_option linter.unusedVariables false
namespace Go.Proofs.Ytpddngcgajjacaa
open Go.Zz


theorem PackS.len {v : AV} {ps : List Pkt} (h : PackS v ps) : slen v = some ps.length := (h.rd []).1

theorem pk_eq (p p' : Pkt) : cellsEq [false, true, true] (pk p) (pk p') = some (decide (p = p')) := by
  obtain ⟨a, s, b⟩ := p
  obtain ⟨a', s', b'⟩ := p'
  simp only [pk, cellsEq, cellEq, Option.map_some, Option.some.injEq]
  by_cases h1 : a = a' <;> by_cases h2 : s = s' <;> by_cases h3 : b = b' <;> simp [h1, h2, h3]

theorem packets_loop {Γ : Env} {a b : AV} {ps qs : List Pkt} (ha : PackS a ps) (hb : PackS b qs) (hl : ps.length = qs.length) (hmax : ps.length ≤ 1000000) {lb : IR} (hlb : lb = match ir16.body with | .seq _ (.seq _ (.seq (.seq _ (.block _ (.loop b))) _)) => b | _ => .skip) :
    ∀ (k i : Nat), i + k = ps.length → (∀ j, j < i → ps[j]? = qs[j]?) → ∀ (u2 u3 u4 u6 u7 u8 u9 u10 u11 u12 u13 u14 u15 u16 u17 u18 u19 u20 u21 u22 u23 u24 u25 : AV),
    WC Γ (.loop lb) ⟨[a, b, u2, u3, u4, .int .i64 (i : Int), u6, u7, u8, u9, u10, u11, u12, u13, u14, u15, u16, u17, u18, u19, u20, u21, u22, u23, u24, u25], [], []⟩ fun e s' => s'.heap = [] ∧ s'.loops = [] ∧ s'.T.length = 26 ∧ ((e = .exit 0 ∧ ps = qs) ∨ (e = .ret ∧ gt s'.T 4 = .bool false ∧ ps ≠ qs)) := by
  subst hlb
  unfold ir16
  simp only
  intro k
  induction k with
  | zero =>
    intro i hi hsame u2 u3 u4 u6 u7 u8 u9 u10 u11 u12 u13 u14 u15 u16 u17 u18 u19 u20 u21 u22 u23 u24 u25
    have e : ps = qs := List.ext_getElem? fun j => by
      by_cases hj : j < i
      · exact hsame j hj
      · rw [List.getElem?_eq_none (by omega), List.getElem?_eq_none (by omega)]
    have hlt : ¬ ((i : Int) < (ps.length : Int)) := by omega
    refine WC.loop (WC.seq (WC.seq (WC.region ?_)))
    repeat (first
      | (refine WO.yes rfl ?_)
      | (refine WO.no rfl ?_; simp only [pt])
      | (refine WO.op (by intro; simp only [go_sem, Zz.look, fillP, over, cut]; rfl) ?_; simp only [pt])
      | (refine WO.opN (by intro; simp only [go_sem, Zz.look, storeAt, over, setBlk, cut]; rfl) ?_))
    refine WO.op (by intro; exact ev_lenS (n := ps.length) (by simp only [go_sem]; exact ha.len)) ?_
    simp only [pt]
    repeat (first
      | (refine WO.yes rfl ?_)
      | (refine WO.no rfl ?_; simp only [pt])
      | (refine WO.op (by intro; simp only [go_sem, Zz.look, fillP, over, cut, hlt, decide_false]; rfl) ?_; simp only [pt])
      | (refine WO.opN (by intro; simp only [go_sem, Zz.look, storeAt, over, setBlk, cut, hlt, decide_false]; rfl) ?_))
    refine WO.nil ?_
    simp only [Then, Out]
    refine WC.no (by simp only [go_sem, hlt, decide_false]) (WC.exit ?_)
    exact ⟨rfl, rfl, rfl, .inl ⟨rfl, e⟩⟩
  | succ k ih =>
    intro i hi hsame u2 u3 u4 u6 u7 u8 u9 u10 u11 u12 u13 u14 u15 u16 u17 u18 u19 u20 u21 u22 u23 u24 u25
    have hix : i < ps.length := by omega
    have hiy : i < qs.length := by omega
    have hlt : ((i : Int) < (ps.length : Int)) := by omega
    have hw : IntKind.wrap .i64 ((i : Int) + 1) = ((i + 1 : Nat) : Int) := by rw [wrap_id (by omega) (by omega)]; rfl
    obtain ⟨r1, hx⟩ := ha.at (i := i) (p := ps[i]) (by simp [hix])
    obtain ⟨r2, hy⟩ := hb.at (i := i) (p := qs[i]) (by simp [hiy])
    have l3 : ∀ (p : Pkt) r, loadAV [] true 3 (.pval (.bool p.1 :: .int .i64 p.2.1 :: .int .i64 p.2.2 :: r)) = some (.agg (pk p)) := fun p r => by
      simp [loadAV, loadCs, cut, pk]
    have heq := pk_eq ps[i] qs[i]
    refine WC.loop (WC.seq (WC.seq (WC.region ?_)))
    repeat (first
      | (refine WO.yes rfl ?_)
      | (refine WO.no rfl ?_; simp only [pt])
      | (refine WO.op (by intro; simp only [go_sem, Zz.look, fillP, over, cut]; rfl) ?_; simp only [pt])
      | (refine WO.opN (by intro; simp only [go_sem, Zz.look, storeAt, over, setBlk, cut]; rfl) ?_))
    refine WO.op (by intro; exact ev_lenS (n := ps.length) (by simp only [go_sem]; exact ha.len)) ?_
    simp only [pt]
    repeat (first
      | (refine WO.yes rfl ?_)
      | (refine WO.no rfl ?_; simp only [pt])
      | (refine WO.op (by intro; simp only [go_sem, Zz.look, fillP, over, cut, hlt, decide_true]; rfl) ?_; simp only [pt])
      | (refine WO.opN (by intro; simp only [go_sem, Zz.look, storeAt, over, setBlk, cut, hlt, decide_true]; rfl) ?_))
    refine WO.nil ?_
    simp only [Then, Out]
    refine WC.yes (by simp only [go_sem, hlt, decide_true]) (WC.skip ?_)
    simp only [Then, Out]
    refine WC.seq (WC.block (WC.seq (WC.calm rfl ?_)))
    simp only [List.map]
    repeat (first
      | (refine WO.yes rfl ?_)
      | (refine WO.no rfl ?_; simp only [pt])
      | (refine WO.op (by intro; simp only [go_sem, Zz.look, fillP, over, cut]; rfl) ?_; simp only [pt])
      | (refine WO.opN (by intro; simp only [go_sem, Zz.look, storeAt, over, setBlk, cut]; rfl) ?_))
    refine WO.op (by intro; rw [ev_indexAddr]; exact (congrArg (Option.map _) hx).trans rfl) ?_
    simp only [pt]
    refine WO.op (by intro; rw [ev_load]; exact (congrArg (Option.map _) (l3 _ _)).trans rfl) ?_
    simp only [pt]
    repeat (first
      | (refine WO.yes rfl ?_)
      | (refine WO.no rfl ?_; simp only [pt])
      | (refine WO.op (by intro; simp only [go_sem, Zz.look, fillP, over, cut]; rfl) ?_; simp only [pt])
      | (refine WO.opN (by intro; simp only [go_sem, Zz.look, storeAt, over, setBlk, cut]; rfl) ?_))
    refine WO.op (by intro; rw [ev_indexAddr]; exact (congrArg (Option.map _) hy).trans rfl) ?_
    simp only [pt]
    refine WO.op (by intro; rw [ev_load]; exact (congrArg (Option.map _) (l3 _ _)).trans rfl) ?_
    simp only [pt]
    by_cases c : ps[i] = qs[i]
    · rw [decide_eq_true c] at heq
      repeat (first
        | (refine WO.yes rfl ?_)
        | (refine WO.no rfl ?_; simp only [pt])
        | (refine WO.op (by intro; simp only [go_sem, Zz.look, fillP, over, cut, heq]; rfl) ?_; simp only [pt])
        | (refine WO.opN (by intro; simp only [go_sem, Zz.look, storeAt, over, setBlk, cut, heq]; rfl) ?_))
      refine WO.nil ?_
      simp only [Then, Out]
      refine WC.no (by simp only [go_sem]) (WC.skip ?_)
      simp only [Then, Out]
      refine WC.region ?_
      repeat (first
        | (refine WO.yes rfl ?_)
        | (refine WO.no rfl ?_; simp only [pt])
        | (refine WO.op (by intro; simp only [go_sem, Zz.look, fillP, over, cut, hw]; rfl) ?_; simp only [pt])
        | (refine WO.opN (by intro; simp only [go_sem, Zz.look, storeAt, over, setBlk, cut, hw]; rfl) ?_))
      refine WO.nil ?_
      simp only [Then, Out]
      refine ih (i + 1) (by omega) ?_ _ _ _ _ _ _ _ _ _ _ _ _ _ _ _ _ _ _ _ _ _ _ _
      intro j hj
      by_cases hji : j = i
      · subst hji
        rw [List.getElem?_eq_getElem hix, List.getElem?_eq_getElem hiy, c]
      · exact hsame j (by omega)
    · rw [decide_eq_false c] at heq
      repeat (first
        | (refine WO.yes rfl ?_)
        | (refine WO.no rfl ?_; simp only [pt])
        | (refine WO.op (by intro; simp only [go_sem, Zz.look, fillP, over, cut, heq]; rfl) ?_; simp only [pt])
        | (refine WO.opN (by intro; simp only [go_sem, Zz.look, storeAt, over, setBlk, cut, heq]; rfl) ?_))
      refine WO.nil ?_
      simp only [Then, Out]
      refine WC.yes (by simp only [go_sem]) (WC.seq (WC.region ?_))
      repeat (first
        | (refine WO.yes rfl ?_)
        | (refine WO.no rfl ?_; simp only [pt])
        | (refine WO.op (by intro; simp only [go_sem, Zz.look, fillP, over, cut]; rfl) ?_; simp only [pt])
        | (refine WO.opN (by intro; simp only [go_sem, Zz.look, storeAt, over, setBlk, cut]; rfl) ?_))
      refine WO.nil ?_
      simp only [Then, Out]
      refine WC.ret ⟨rfl, rfl, rfl, .inr ⟨rfl, rfl, fun e => c ?_⟩⟩
      subst e
      rfl

theorem packets_run {Γ : Env} {a b : AV} {ps qs : List Pkt} (hs : Γ.spec 16 = none) (hf : Γ.fn 16 = some ir16) (ha : PackS a ps) (hb : PackS b qs) (hmax : ps.length ≤ 1000000) :
    WF Γ (.func 16 [] []) [a, b] ⟨[], []⟩ fun y m' => y = .bool (decide (ps = qs)) := by
  refine WF.fn hs hf (by show 2 ≤ 26; decide) ?_
  by_cases hl : ps.length = qs.length
  · have loop := packets_loop (Γ := Γ) ha hb hl hmax (lb := match ir16.body with | .seq _ (.seq _ (.seq (.seq _ (.block _ (.loop b))) _)) => b | _ => .skip) rfl ps.length 0 (by omega) (fun j hj => absurd hj (by omega))
    have hne : ((ps.length : Int) != (qs.length : Int)) = false := by rw [hl]; simp
    unfold ir16 at loop ⊢
    simp only at loop
    simp only [padTo, List.replicate, List.nil_append, List.append_nil, List.cons_append]
    refine WC.seq (WC.region ?_)
    repeat (first
      | (refine WO.yes rfl ?_)
      | (refine WO.no rfl ?_; simp only [pt])
      | (refine WO.op (by intro; simp only [go_sem, Zz.look, fillP, over, cut]; rfl) ?_; simp only [pt])
      | (refine WO.opN (by intro; simp only [go_sem, Zz.look, storeAt, over, setBlk, cut]; rfl) ?_))
    refine WO.nil ?_
    simp only [Then]
    refine WC.seq (WC.seq (WC.region ?_))
    repeat (first
      | (refine WO.yes rfl ?_)
      | (refine WO.no rfl ?_; simp only [pt])
      | (refine WO.op (by intro; simp only [go_sem, Zz.look, fillP, over, cut]; rfl) ?_; simp only [pt])
      | (refine WO.opN (by intro; simp only [go_sem, Zz.look, storeAt, over, setBlk, cut]; rfl) ?_))
    refine WO.op (by intro; exact ev_lenS (n := ps.length) (by simp only [go_sem]; exact ha.len)) ?_
    simp only [pt]
    repeat (first
      | (refine WO.yes rfl ?_)
      | (refine WO.no rfl ?_; simp only [pt])
      | (refine WO.op (by intro; simp only [go_sem, Zz.look, fillP, over, cut]; rfl) ?_; simp only [pt])
      | (refine WO.opN (by intro; simp only [go_sem, Zz.look, storeAt, over, setBlk, cut]; rfl) ?_))
    refine WO.op (by intro; exact ev_lenS (n := qs.length) (by simp only [go_sem]; exact hb.len)) ?_
    simp only [pt]
    repeat (first
      | (refine WO.yes rfl ?_)
      | (refine WO.no rfl ?_; simp only [pt])
      | (refine WO.op (by intro; simp only [go_sem, Zz.look, fillP, over, cut, hne]; rfl) ?_; simp only [pt])
      | (refine WO.opN (by intro; simp only [go_sem, Zz.look, storeAt, over, setBlk, cut, hne]; rfl) ?_))
    refine WO.nil ?_
    simp only [Then]
    refine WC.no (by simp only [go_sem]) (WC.skip ?_)
    simp only [Then]
    refine WC.seq (WC.seq (WC.region ?_))
    repeat (first
      | (refine WO.yes rfl ?_)
      | (refine WO.no rfl ?_; simp only [pt])
      | (refine WO.op (by intro; simp only [go_sem, Zz.look, fillP, over, cut]; rfl) ?_; simp only [pt])
      | (refine WO.opN (by intro; simp only [go_sem, Zz.look, storeAt, over, setBlk, cut]; rfl) ?_))
    refine WO.nil ?_
    simp only [Then]
    refine WC.block ((loop _ _ _ _ _ _ _ _ _ _ _ _ _ _ _ _ _ _ _ _ _ _ _).mono ?_)
    rintro e ⟨T, H', L'⟩ ⟨h1, h2, h3, h4⟩
    simp only at h1 h2 h3 h4
    subst h1
    subst h2
    rcases h4 with ⟨rfl, h4⟩ | ⟨rfl, h4, h5⟩
    · simp only [Out, if_true, Then]
      refine WC.seq (WC.region ?_)
      refine WO.op (by intro; rw [ev_move]) ?_
      refine WO.nil (WC.ret ⟨_, rfl, ?_⟩)
      simp [oneRes, gt_pt, h3, Opd.ev, h4]
    · simp only [Out, Then]
      refine ⟨_, rfl, ?_⟩
      simp [oneRes, h4, h5]
  · have hne : ((ps.length : Int) != (qs.length : Int)) = true := by simp; omega
    unfold ir16
    simp only [padTo, List.replicate, List.nil_append, List.append_nil, List.cons_append]
    refine WC.seq (WC.region ?_)
    repeat (first
      | (refine WO.yes rfl ?_)
      | (refine WO.no rfl ?_; simp only [pt])
      | (refine WO.op (by intro; simp only [go_sem, Zz.look, fillP, over, cut]; rfl) ?_; simp only [pt])
      | (refine WO.opN (by intro; simp only [go_sem, Zz.look, storeAt, over, setBlk, cut]; rfl) ?_))
    refine WO.nil ?_
    simp only [Then]
    refine WC.seq (WC.seq (WC.region ?_))
    repeat (first
      | (refine WO.yes rfl ?_)
      | (refine WO.no rfl ?_; simp only [pt])
      | (refine WO.op (by intro; simp only [go_sem, Zz.look, fillP, over, cut]; rfl) ?_; simp only [pt])
      | (refine WO.opN (by intro; simp only [go_sem, Zz.look, storeAt, over, setBlk, cut]; rfl) ?_))
    refine WO.op (by intro; exact ev_lenS (n := ps.length) (by simp only [go_sem]; exact ha.len)) ?_
    simp only [pt]
    repeat (first
      | (refine WO.yes rfl ?_)
      | (refine WO.no rfl ?_; simp only [pt])
      | (refine WO.op (by intro; simp only [go_sem, Zz.look, fillP, over, cut]; rfl) ?_; simp only [pt])
      | (refine WO.opN (by intro; simp only [go_sem, Zz.look, storeAt, over, setBlk, cut]; rfl) ?_))
    refine WO.op (by intro; exact ev_lenS (n := qs.length) (by simp only [go_sem]; exact hb.len)) ?_
    simp only [pt]
    repeat (first
      | (refine WO.yes rfl ?_)
      | (refine WO.no rfl ?_; simp only [pt])
      | (refine WO.op (by intro; simp only [go_sem, Zz.look, fillP, over, cut, hne]; rfl) ?_; simp only [pt])
      | (refine WO.opN (by intro; simp only [go_sem, Zz.look, storeAt, over, setBlk, cut, hne]; rfl) ?_))
    refine WO.nil ?_
    simp only [Then]
    refine WC.yes (by simp only [go_sem]) (WC.seq (WC.region ?_))
    repeat (first
      | (refine WO.yes rfl ?_)
      | (refine WO.no rfl ?_; simp only [pt])
      | (refine WO.op (by intro; simp only [go_sem, Zz.look, fillP, over, cut]; rfl) ?_; simp only [pt])
      | (refine WO.opN (by intro; simp only [go_sem, Zz.look, storeAt, over, setBlk, cut]; rfl) ?_))
    refine WO.nil ?_
    simp only [Then]
    refine WC.ret ⟨_, rfl, ?_⟩
    have e : ps ≠ qs := fun h => hl (by rw [h])
    simp [oneRes, gt, e]

theorem pcells_flat (ps : List Pkt) : (pcells ps).all flatAV = true := by
  induction ps with
  | nil => rfl
  | cons p r ih =>
    have : pcells (p :: r) = pk p ++ pcells r := rfl
    rw [this, List.all_append, ih]
    rfl
theorem PackS.pureA {v : AV} {ps : List Pkt} (h : PackS v ps) : Zz.pureA v = true := by
  rcases h with ⟨rfl, _⟩ | ⟨f, rfl⟩
  · rfl
  · exact pcells_flat ps

theorem packets_eq {a b : AV} {ps qs : List Pkt} (ha : PackS a ps) (hb : PackS b qs) (hmax : ps.length ≤ 1000000) (m : Mem) : borrowE G0 16 [a, b] m = some (.bool (decide (ps = qs)), m) :=
  borrowE_of (by simp [ha.pureA, hb.pureA]) ((packets_run (Γ := G0) rfl (fn_of Try.func16 cir16) ha hb hmax).mono fun y m' h => by rw [h]; rfl)
end Go.Proofs.Ytpddngcgajjacaa

set_option linter.unusedSimpArgs false
set_option linter.unusedVariables false
namespace Go.Proofs.Ytpddngcgajjacaa
open Go.Zz


noncomputable def Gq : Env := withSpec G0 [(12, borrowE Gr 12), (15, borrowE Gr 15), (18, borrowE Gr 18), (20, borrowE G0 20)]
theorem Gq_ok : EnvOk Try.prog Gq := withSpec_ok fun p hp => by
  simp only [List.mem_cons, List.not_mem_nil, or_false] at hp
  rcases hp with rfl | rfl | rfl | rfl
  · exact borrowE_ok Gr_ok (callable Try.func12 (by kernel_rfl))
  · exact borrowE_ok Gr_ok (callable Try.func15 (by kernel_rfl))
  · exact borrowE_ok Gr_ok (callable Try.func18 (by kernel_rfl))
  · exact borrowE_ok G0_ok (callable Try.func20 (by kernel_rfl))

theorem rsend_eq {s b : Int} {q : AV} {qs : List Int} (hq : IntS q qs) (h1 : I64 s) (hmax : qs.length < 9223372036854775808) :
    ∃ v, IntS v (sendM s qs b).2 ∧ ∀ m, borrowE Gr 12 [.agg [.int .i64 s, q], .int .i64 b] m = some (.tuple [.agg [.int .i64 (sendM s qs b).1, v], .int .i64 (sendE s qs)], m) := by
  have hp : [AV.agg [.int .i64 s, q], .int .i64 b].all pureA = true := by
    have e : Zz.pureA (.int .i64 b) = true := rfl
    simp [pureS hq, e]
  by_cases hv : vS s qs
  · by_cases hf : s + qs.length = 1000
    · refine ⟨.snil, .inl ⟨rfl, by simp [sendM, hf]⟩, fun m => ?_⟩
      rw [show sendM s qs b = (0, []) by simp [sendM, hf], show sendE s qs = 2 by simp [sendE, hv, hf]]
      exact borrowE_of hp (rsend_full spec27 rfl (fn_of Try.func12 cir12) hq h1 hmax hv hf)
    · obtain ⟨v, hv', h⟩ := rsend_good (b := b) spec27 rfl (fn_of Try.func12 cir12) hq h1 hmax hv hf
      have e : sendM s qs b = (s, qs ++ [b]) := by simp [sendM, hv, hf]
      rw [e, show sendE s qs = 0 by simp [sendE, hv, hf]]
      exact ⟨v, hv', fun m => borrowE_of hp h⟩
  · refine ⟨.snil, .inl ⟨rfl, by simp [sendM, hv]⟩, fun m => ?_⟩
    rw [show sendM s qs b = (0, []) by simp [sendM, hv], show sendE s qs = 1 by simp [sendE, hv]]
    exact borrowE_of hp (rsend_bad spec27 rfl (fn_of Try.func12 cir12) hq h1 hmax hv)

theorem rout_eq {s : Int} {q : AV} {qs : List Int} (hq : IntS q qs) (h1 : I64 s) (hmax : qs.length < 9223372036854775808) :
    ∃ v, PackS v (outM s qs) ∧ ∀ m, borrowE Gr 15 [.agg [.int .i64 s, q]] m = some (.tuple [v, .int .i64 (outE s qs)], m) := by
  have hp : [AV.agg [.int .i64 s, q]].all pureA = true := by simp [pureS hq]
  by_cases hv : vS s qs
  · obtain ⟨v, hv', h⟩ := rout_good spec27 rfl (fn_of Try.func15 cir15) hq h1 hmax hv
    rw [show outM s qs = outs s (qs.take (min 4 qs.length)) by simp [outM, hv], show outE s qs = 0 by simp [outE, hv]]
    exact ⟨v, hv', fun m => borrowE_of hp h⟩
  · refine ⟨.snil, .inl ⟨rfl, by simp [outM, hv]⟩, fun m => ?_⟩
    rw [show outE s qs = 1 by simp [outE, hv]]
    exact borrowE_of hp (rout_bad spec27 rfl (fn_of Try.func15 cir15) hq h1 hmax hv)

theorem rhear_eq {s : Int} {p : Pkt} {q : AV} {qs : List Int} (hq : IntS q qs) (h1 : I64 s) (h2 : I64 p.2.1) (hmax : qs.length < 9223372036854775808) :
    ∃ v, IntS v (hearM s qs p).2 ∧ ∀ m, borrowE Gr 18 [.agg [.int .i64 s, q], .agg (pk p)] m = some (.tuple [.agg [.int .i64 (hearM s qs p).1, v], .int .i64 (hearE s qs p)], m) := by
  obtain ⟨ack, ps, bd⟩ := p
  simp only [pk]
  have h2 : I64 ps := h2
  have hp := pure17 (s := s) (ps := ps) (bd := bd) (ack := ack) hq
  by_cases hb : (0 ≤ s ∧ s ≤ 1000 ∧ (qs.length : Int) ≤ 1000 - s) ∧ ack = true ∧ bd = 0 ∧ 0 ≤ ps ∧ ps ≤ 1000
  · by_cases hl : ps - s ≤ qs.length
    · have hh : Hears s qs ack ps bd := ⟨hb.1, hb.2.1, hb.2.2.1, hb.2.2.2.1, hb.2.2.2.2, hl⟩
      have e1 : hearM s qs (ack, ps, bd) = (s + (ps - s).toNat, qs.drop (ps - s).toNat) := by simp [hearM, hh]
      have e2 : hearE s qs (ack, ps, bd) = 0 := (if_pos (show _ ∧ _ from ⟨hb.1, hb.2⟩)).trans (if_pos hl)
      rw [e1, e2]
      obtain ⟨hV, rfl, rfl, g1, g2⟩ := hb
      obtain ⟨v, hv, h⟩ := rhear_good (ps := ps) spec27 rfl (fn_of Try.func18 cir18) hq h1 h2 hmax hV (by omega) (by omega) (by omega)
      exact ⟨v, hv, fun m => borrowE_of hp h⟩
    · have hh : ¬ Hears s qs ack ps bd := fun h => hl h.2.2.2.2.2
      have e1 : hearM s qs (ack, ps, bd) = (0, []) := by simp [hearM, hh]
      have e2 : hearE s qs (ack, ps, bd) = 6 := (if_pos (show _ ∧ _ from ⟨hb.1, hb.2⟩)).trans (if_neg hl)
      rw [e1, e2]
      obtain ⟨hV, rfl, rfl, g1, g2⟩ := hb
      exact ⟨.snil, .inl ⟨rfl, rfl⟩, fun m => borrowE_of hp (rhear_state (ps := ps) spec27 rfl (fn_of Try.func18 cir18) hq h1 h2 hmax hV (by omega) (by omega) (by omega))⟩
  · have hh : ¬ Hears s qs ack ps bd := fun h => hb ⟨h.1, h.2.1, h.2.2.1, h.2.2.2.1, h.2.2.2.2.1⟩
    have e1 : hearM s qs (ack, ps, bd) = (0, []) := by simp [hearM, hh]
    have e2 : hearE s qs (ack, ps, bd) = 1 := if_neg hb
    rw [e1, e2]
    exact ⟨.snil, .inl ⟨rfl, rfl⟩, fun m => borrowE_of hp (rhear_bad (ps := ps) spec27 rfl (fn_of Try.func18 cir18) hq h1 h2 hmax hb)⟩

theorem rtake_eq {p : Pkt} {g : AV} {gs : List Int} (hg : IntS g gs) (hmax : gs.length < 9223372036854775808) :
    ∃ v, IntS v (takeM gs p).1 ∧ ∀ m, borrowE G0 20 [.agg [g], .agg (pk p)] m = some (.tuple [.agg [v], .agg (pk (takeM gs p).2), .int .i64 (takeE gs p)], m) := by
  obtain ⟨ack, ps, bd⟩ := p
  have hp := pureTake (ack := ack) (ps := ps) (bd := bd) hg
  by_cases hT : Takes gs ack ps
  · have e1 : takeM gs (ack, ps, bd) = (takes gs ps bd, (true, ((takes gs ps bd).length : Int), 0)) := by simp [takeM, hT]
    have e2 : takeE gs (ack, ps, bd) = 0 := by simp [takeE, hT]
    rw [e1, e2]
    obtain ⟨c1, rfl, c2, c3⟩ := hT
    obtain ⟨v, hv, h⟩ := rtake_good (Γ := G0) (bd := bd) rfl (fn_of Try.func20 cir20) hg c1 c2 c3
    exact ⟨v, hv, fun m => borrowE_of hp h⟩
  · have e1 : takeM gs (ack, ps, bd) = ([], (false, 0, 0)) := by simp [takeM, hT]
    have e2 : takeE gs (ack, ps, bd) = 1 := by simp [takeE, hT]
    rw [e1, e2]
    exact ⟨.snil, .inl ⟨rfl, rfl⟩, fun m => borrowE_of hp (rtake_bad rfl (fn_of Try.func20 cir20) hg hmax hT)⟩

/-- What is under way, in its own memory; it may be empty and have no room. -/
def QR (n0 : Nat) (H : Hp) (x : AV) (ps : List Pkt) : Prop :=
  (x = .snil ∧ ps = []) ∨ (∃ f, x = .sref f 0 0 3 0 (some 0) ∧ ps = [] ∧ n0 ≤ f ∧ Zz.look H f 0 = some []) ∨ ∃ f g rest, x = .sref f g 0 3 ps.length none ∧ n0 ≤ f ∧ Zz.look H f g = some (pcells ps ++ rest)

section
variable {H : Hp} {L : List (Option ALoop)} {n0 : Nat}

theorem QR.len {x : AV} {ps : List Pkt} (h : QR n0 H x ps) : slen x = some ps.length := by
  rcases h with ⟨rfl, rfl⟩ | ⟨f, rfl, rfl, _⟩ | ⟨f, g, rest, rfl, _⟩ <;> rfl
theorem QR.own {x : AV} {ps : List Pkt} (h : QR n0 H x ps) {id : Nat} (ho : owns x id) : n0 ≤ id ∧ id < H.length := by
  rcases h with ⟨rfl, _⟩ | ⟨f, rfl, _, h1, h2⟩ | ⟨f, g, rest, rfl, h2, h3⟩
  · exact (owns_snil ho).elim
  · rw [owns_sref ho]; exact ⟨h1, look_lt h2⟩
  · rw [owns_sref ho]; exact ⟨h2, look_lt h3⟩
theorem QR.weaken {n1 : Nat} {x : AV} {ps : List Pkt} (h : QR n0 H x ps) (hn : n1 ≤ n0) : QR n1 H x ps := by
  rcases h with h | ⟨f, h1, h2, h3, h4⟩ | ⟨f, g, rest, h1, h2, h3⟩
  · exact .inl h
  · exact .inr (.inl ⟨f, h1, h2, by omega, h4⟩)
  · exact .inr (.inr ⟨f, g, rest, h1, by omega, h3⟩)
theorem QR.same {H' : Hp} {x : AV} {ps : List Pkt} {S : Nat → Prop} (h : QR n0 H x ps) (hs : Same H H' H.length S) (hS : ∀ id, owns x id → ¬ S id) : QR n0 H' x ps := by
  rcases h with h | ⟨f, h1, h2, h3, h4⟩ | ⟨f, g, rest, h1, h2, h3⟩
  · exact .inl h
  · exact .inr (.inl ⟨f, h1, h2, h3, by rw [hs.look (look_lt h4) (hS f (h1 ▸ owns_mk))]; exact h4⟩)
  · exact .inr (.inr ⟨f, g, rest, h1, h2, by rw [hs.look (look_lt h3) (hS f (h1 ▸ owns_mk))]; exact h3⟩)
theorem QR.app {x : AV} {ps : List Pkt} (h : QR n0 H x ps) (R : Hp) : QR n0 (H ++ R) x ps := h.same (Same.app R (S := fun _ => False)) fun _ _ h => h
theorem QR.setO {x : AV} {ps : List Pkt} {k : Nat} {b : Option Blk} (h : QR n0 H x ps) (hk : ¬ owns x k) : QR n0 (H.set k b) x ps := by
  have hl : ∀ id g, id ≠ k → Zz.look (H.set k b) id g = Zz.look H id g := fun id g hne => look_of_get (List.getElem?_set_ne (Ne.symm hne))
  rcases h with h | ⟨f, h1, h2, h3, h4⟩ | ⟨f, g, rest, h1, h2, h3⟩
  · exact .inl h
  · exact .inr (.inl ⟨f, h1, h2, h3, by rw [hl _ _ (fun e => hk (e ▸ h1 ▸ owns_mk))]; exact h4⟩)
  · exact .inr (.inr ⟨f, g, rest, h1, h2, by rw [hl _ _ (fun e => hk (e ▸ h1 ▸ owns_mk))]; exact h3⟩)

theorem cells_sref {f g o s n : Nat} {c : Option Nat} : (AV.sref f g o s n c).cells = some [.sref f g o s n c] := rfl
theorem QR.cells {x : AV} {ps : List Pkt} (h : QR n0 H x ps) : x.cells = some [x] := by
  rcases h with ⟨rfl, _⟩ | ⟨f, rfl, _⟩ | ⟨f, g, rest, rfl, _⟩ <;> rfl

theorem qr_app {it x : AV} {ps qs : List Pkt} (h : QR n0 H it ps) (hn : n0 ≤ H.length) (hmax : ps.length + qs.length ≤ 1000000) (hx : slen x = some qs.length) (hc : scells H 3 x = some (pcells qs)) :
    ∃ it' H', appendAV 3 24 ⟨H, L⟩ it x = some (it', ⟨H', L⟩) ∧ QR n0 H' it' (ps ++ qs) ∧ (∀ id, owns it' id → owns it id ∨ H.length ≤ id) ∧ Same H H' H.length (fun id => owns it id) := by
  have hlq := pcells_len qs
  rcases h with ⟨rfl, rfl⟩ | ⟨f, rfl, rfl, hf, hl⟩ | ⟨f, g, rest, rfl, hf, hl⟩
  · simp only [List.length_nil, Nat.zero_add, List.nil_append] at hmax ⊢
    by_cases h0 : qs.length = 0
    · have e : qs = [] := List.eq_nil_of_length_eq_zero h0
      subst e
      exact ⟨.snil, H, by simp only [appendAV, hx, hc, Option.bind_eq_bind, Option.bind_some, List.length_nil, if_true], .inl ⟨rfl, rfl⟩, fun _ h => .inl h, Same.refl _ _ _⟩
    · refine ⟨.sref H.length 0 0 3 qs.length none, H ++ [some ⟨0, pcells qs⟩], ?_, .inr (.inr ⟨H.length, 0, [], rfl, hn, by rw [look_right0]; simp [Zz.look]⟩), fun id h => .inr (by rw [owns_sref h]; exact Nat.le_refl _), Same.app _⟩
      simp only [appendAV, hx, hc, Option.bind_eq_bind, Option.bind_some]
      rw [if_neg h0, if_pos (by omega)]
      rfl
  · simp only [List.length_nil, Nat.zero_add, List.nil_append] at hmax ⊢
    have hf0 := look_lt hl
    by_cases h0 : qs.length = 0
    · have e : qs = [] := List.eq_nil_of_length_eq_zero h0
      subst e
      refine ⟨.sref f 0 0 3 0 (some 0), H, ?_, .inr (.inl ⟨f, rfl, rfl, hf, hl⟩), fun _ h => .inl h, Same.refl _ _ _⟩
      have e2 : setBlk H f 0 [] = H := by
        unfold setBlk
        have := look_eq_iff.1 hl
        apply List.ext_getElem?
        intro i
        by_cases hi : i = f
        · subst hi
          rw [this]; simp [hf0]
        · rw [List.getElem?_set_ne (Ne.symm hi)]
      unfold appendAV
      simp only [hx, hc, Option.bind_eq_bind, Option.bind_some, if_true, hl, cut, Nat.zero_mul, Nat.zero_add, List.length_nil, Nat.le_refl, List.drop_zero, List.take_zero]
      simp [storeAt, hl, over, pcells, e2]
    · refine ⟨.sref H.length 0 0 3 qs.length none, H ++ [some ⟨0, pcells qs⟩], ?_, .inr (.inr ⟨H.length, 0, [], rfl, hn, by rw [look_right0]; simp [Zz.look]⟩), fun id h => .inr (by rw [owns_sref h]; exact Nat.le_refl _), Same.app _⟩
      unfold appendAV
      simp only [hx, hc, Option.bind_eq_bind, Option.bind_some, if_true, hl, cut, Nat.zero_mul, Nat.zero_add, List.length_nil, Nat.le_refl, List.drop_zero, List.take_zero]
      rw [if_neg (by omega), if_pos (by omega)]
      simp [newBlk]
  · have hf0 := look_lt hl
    obtain ⟨b0, hb0⟩ := look_some hl
    have hlen : (pcells ps).length = ps.length * 3 := pcells_len ps
    have eapp : ∃ g' rest', appendAV 3 24 ⟨H, L⟩ (.sref f g 0 3 ps.length none) x = some (.sref f g' 0 3 (ps.length + qs.length) none, ⟨H.set f (some ⟨g', pcells (ps ++ qs) ++ rest'⟩), L⟩) := by
      simp only [appendAV, hx, hc, Option.bind_eq_bind, Option.bind_some, if_true, hl, cut, Nat.zero_add, List.length_append]
      rw [if_pos (by omega)]
      simp only [Option.bind_some]
      by_cases h : (ps.length + qs.length) * 3 ≤ (pcells ps).length + rest.length
      · rw [if_pos h]
        simp only [storeAt, hl, Option.bind_eq_bind, Option.bind_some, over, List.length_append]
        rw [if_pos (by omega)]
        simp only [Option.bind_some, setBlk]
        refine ⟨g, (pcells ps ++ rest).drop (ps.length * 3 + (pcells qs).length), ?_⟩
        rw [← hlen, List.take_left, pcells_append]
      · rw [if_neg h, if_pos (by omega)]
        refine ⟨g + 1, [], ?_⟩
        simp only [setBlk, List.drop_zero, List.append_nil, pcells_append]
        rw [← hlen, List.take_left]
    obtain ⟨g', rest', eapp⟩ := eapp
    exact ⟨_, _, eapp, .inr (.inr ⟨f, g', rest', by simp, hf, look_set hf0⟩), fun id h => .inl (by rw [owns_sref h]; exact owns_mk), Same.setL owns_mk hb0⟩
end
end Go.Proofs.Ytpddngcgajjacaa

set_option linter.unusedSimpArgs false
set_option linter.unusedVariables false
namespace Go.Proofs.Ytpddngcgajjacaa
open Go.Zz


theorem strikes_all {X : Hp} {Y : Hp} {n : Nat} {seen : List (Hp × Nat × Nat)} {i : Nat} (h : seen[i]? = some (blanks Y, n, n)) : strikes X seen [i] = X := by
  simp only [strikes, h, strike_none, strikeV_blanks]

theorem without_run {Γ : Env} (hs : Γ.spec 44 = none) (hf : Γ.fn 44 = some ir44) {H : Hp} {L : List (Option ALoop)} {f g i : Nat} {ps : List Pkt} {rest : List AV} (hl : Zz.look H f g = some (pcells ps ++ rest)) (hi : i < ps.length) (hmax : ps.length ≤ 100000) :
    WF Γ (.func 44 [] []) [.sref f g 0 3 ps.length none, .int .i64 i] ⟨H, L⟩ fun y m' => m'.loops = L ∧ Same H m'.heap H.length (fun _ => False) ∧ QR H.length m'.heap y (ps.eraseIdx i) := by
  have hf0 := look_lt hl
  have hl1 : Zz.look (H ++ [some (Blk.mk 0 [])]) f g = some (pcells ps ++ rest) := by rw [look_left hf0]; exact hl
  have hlen : ps.length * 3 ≤ (pcells ps ++ rest).length := by rw [List.length_append, pcells_len]; omega
  have hA : (pcells ps).length = ps.length * 3 := pcells_len ps
  have e22 := sl_front (H := H ++ [some (Blk.mk 0 [])]) (f := f) (g := g) (Nat.le_of_lt hi)
  obtain ⟨v25, e25, s25, c25⟩ := sl_back hl1 hlen hi
  have hw : IntKind.wrap .i64 ((i : Int) + 1) = ((i + 1 : Nat) : Int) := by rw [wrap_id (by omega) (by omega)]; rfl
  have cfront : scells (H ++ [some (Blk.mk 0 [])]) 3 (.sref f g 0 3 i none) = some (pcells (ps.take i)) := by
    simp only [scells, if_true, hl1, Option.bind_some, cut, Nat.zero_add, List.drop_zero]
    rw [if_pos (by omega), List.take_append_of_le_length (by omega), pcells_take]
  have c25' : scells (H ++ [some (Blk.mk 0 [])]) 3 v25 = some (pcells (ps.drop (i + 1))) := by
    rw [c25, List.drop_append_of_le_length (by omega), List.take_append_of_le_length (by rw [List.length_drop]; omega), pcells_drop, List.take_of_length_le]
    rw [pcells_len, List.length_drop]; omega
  have q0 : QR H.length (H ++ [some (Blk.mk 0 [])]) (.sref H.length 0 0 3 0 (some 0)) [] := .inr (.inl ⟨H.length, rfl, rfl, Nat.le_refl _, by rw [look_right0]; rfl⟩)
  obtain ⟨v9, H2, happ1, q9, o9, sm9⟩ := qr_app (L := L) (qs := ps.take i) q0 (by simp) (by simp; omega) (by simp [slen]; omega) cfront
  have sm9' : Same (H ++ [some (Blk.mk 0 [])]) H2 H.length (fun _ => False) := sm9.weaken (by simp) (fun id hid h => by have := owns_sref h; omega)
  -- what is sliced lies as it did
  have v25r : scells H2 3 v25 = some (pcells (ps.drop (i + 1))) := by
    rw [← c25']
    have hsl := e25
    simp only [sliceAV, if_true, bnds, bndO, bnd, Option.isNone_none, Option.isSome_none, Bool.and_false, Bool.false_eq_true, if_false, Option.getD_none] at hsl
    rw [if_pos ⟨by omega, by omega⟩] at hsl
    simp only [Int.toNat_natCast, Option.bind_some] at hsl
    rw [if_neg (by omega)] at hsl
    split at hsl
    · cases hsl; rfl
    · cases hsl
      simp only [scells, if_true]
      rw [sm9'.look hf0 (fun h => h)]
  have hlen9 : H.length ≤ H2.length := by have := sm9.len; simp at this; omega
  obtain ⟨v14, H3, happ2, q14, o14, sm14⟩ := qr_app (L := L) (qs := ps.drop (i + 1)) q9 hlen9 (by simp; omega) (by rw [List.length_drop]; exact s25) v25r
  have sm14' : Same H2 H3 H.length (fun _ => False) := sm14.weaken hlen9 (fun id hid h => by have := q9.own h; omega)
  refine WF.fn hs hf (by show 2 ≤ 15; decide) ?_
  unfold ir44
  simp only [padTo, List.replicate, List.nil_append, List.append_nil, List.cons_append]
  refine WC.seq (WC.region ?_)
  repeat (first
    | (refine WO.yes rfl ?_)
    | (refine WO.no rfl ?_; simp only [pt])
    | (refine WO.op (by intro; simp only [go_sem, fillP, over, cut, nilCheckAV]; rfl) ?_; simp only [pt])
    | (refine WO.op (by intro; exact ev_lenS rfl) ?_; simp only [pt])
    | (refine WO.opN (by intro; simp only [go_sem, storeAt, Option.bind_eq_bind, over, setBlk, cut]; rfl) ?_))
  refine WO.nil ?_
  simp only [Then]
  refine WC.seq (WC.draw ?_)
  refine WD.newS rfl (by intro; simp only [go_sem, fillP, over, cut]; rfl) (by simp) ?_
  simp only [pt, St.put, List.nil_append, List.cons_append]
  simp only [zeros]
  refine WD.free rfl (by intro; simp only [go_sem, fillP, over, cut, nilCheckAV]; rfl) ?_
  simp only [pt, St.put, List.nil_append, List.cons_append]
  refine WD.free rfl (by intro; simp only [go_sem, fillP, over, cut, nilCheckAV]; rfl) ?_
  simp only [pt, St.put, List.nil_append, List.cons_append]
  refine WD.sliceS (id := f) rfl e22 ?_ (by simp) ?_
  · simp only [strikes, List.getElem?_cons_zero, strike_last, strikeV_blanks]
    rw [List.getElem?_append_left hf0, List.getElem?_append_left hf0]
  intro W
  simp only [pt, St.put, List.nil_append, List.cons_append]
  refine WD.free rfl (by intro; simp only [go_sem, fillP, over, cut, nilCheckAV]; rfl) ?_
  simp only [pt, St.put, List.nil_append, List.cons_append]
  refine WD.free rfl (by intro; simp only [go_sem, fillP, over, cut, nilCheckAV]; rfl) ?_
  simp only [pt, St.put, List.nil_append, List.cons_append]
  refine WD.free rfl (by intro; simp only [go_sem, fillP, over, cut, nilCheckAV, hw]; rfl) ?_
  simp only [pt, St.put, List.nil_append, List.cons_append]
  refine WD.slice0 e25 (by simp) ?_
  simp only [pt, St.put, List.nil_append, List.cons_append]
  have hd1 : stillDead (H ++ [some (Blk.mk 0 [])]) H2 = true := sm9.dead'
  refine WD.bigG (V := H ++ [some (Blk.mk 0 [])]) (H' := H2) (H2 := H2) rfl (by simp only [limit]; refine strikes_all (i := 7) (Y := H ++ [some (Blk.mk 0 [])]) (n := List.length (H ++ [some (Blk.mk 0 [])])) ?_; rfl) (by intro; rw [ev_append]; exact happ1) hd1 (back_dead hd1) rfl ?_
  simp only [pt, St.put, List.nil_append, List.cons_append]
  refine WD.plain rfl rfl (by intro; rw [ev_append]; exact happ2) sm14.dead' ?_
  intro seen2
  simp only [pt, St.put, List.nil_append, List.cons_append]
  refine WD.free rfl (by intro; simp only [go_sem, fillP, over, cut, nilCheckAV]; rfl) ?_
  simp only [pt, St.put, List.nil_append, List.cons_append]
  refine WD.nil ?_
  simp only [Then]
  refine WC.ret ⟨_, rfl, rfl, ((Same.app _).trans sm9').trans sm14', ?_⟩
  have e : ps.eraseIdx i = [] ++ ps.take i ++ ps.drop (i + 1) := by rw [List.eraseIdx_eq_take_drop_succ]; rfl
  rw [e]
  exact q14
end Go.Proofs.Ytpddngcgajjacaa

set_option linter.unusedSimpArgs false
set_option linter.unusedVariables false
namespace Go.Proofs.Ytpddngcgajjacaa
open Go.Zz

/-- A state in a box, and what else lies there. -/
structure SS (n0 k : Nat) (H M : Hp) (C : List AV) (F : List (Nat × List AV)) (f b : AV) (fs bs : List Pkt) : Prop where
  c : Zz.look M k 0 = some C
  nk : ¬ owns f k ∧ ¬ owns b k
  fr : ∀ e ∈ F, Zz.look M e.1 0 = some e.2 ∧ ¬ owns f e.1 ∧ ¬ owns b e.1 ∧ e.1 ≠ k
  hf : QR n0 M f fs
  hb : QR n0 M b bs
  apart : ∀ id, owns f id → owns b id → False
  same : Same H M n0 (fun _ => False)
  kn : n0 ≤ k

section
variable {n0 k : Nat} {H M : Hp} {L : List (Option ALoop)} {C : List AV} {F : List (Nat × List AV)} {f b : AV} {fs bs : List Pkt}

theorem SS.lenM (h : SS n0 k H M C F f b fs bs) : n0 ≤ M.length ∧ k < M.length := by
  have := look_lt h.c
  have := h.kn
  omega

theorem SS.turn (h : SS n0 k H M C F f b fs bs) (C' : List AV) : SS n0 k H (M.set k (some ⟨0, C'⟩)) C' F f b fs bs := by
  obtain ⟨b0, hb0⟩ := look_some h.c
  refine ⟨look_set (look_lt h.c), h.nk, fun e he => ?_, h.hf.setO h.nk.1, h.hb.setO h.nk.2, h.apart, h.same.trans ⟨by simp, fun id hi _ => List.getElem?_set_ne (by have := h.kn; omega), fun id hd => ?_⟩, h.kn⟩
  · obtain ⟨h1, h2, h3, h4⟩ := h.fr e he
    exact ⟨by rw [look_of_get (List.getElem?_set_ne (Ne.symm h4))]; exact h1, h2, h3, h4⟩
  · rw [List.getElem?_set_ne]
    · exact hd
    · intro e; subst e; rw [hb0] at hd; cases hd

theorem SS.app (h : SS n0 k H M C F f b fs bs) (R : Hp) : SS n0 k H (M ++ R) C F f b fs bs := by
  have hM := h.lenM
  refine ⟨by rw [look_left hM.2]; exact h.c, h.nk, fun e he => ?_, h.hf.app R, h.hb.app R, h.apart, h.same.trans ((Same.app R).weaken hM.1 (fun _ _ h => h)), h.kn⟩
  obtain ⟨h1, h2, h3, h4⟩ := h.fr e he
  exact ⟨by rw [look_left (look_lt h1)]; exact h1, h2, h3, h4⟩

/-- One more block that is known. -/
theorem SS.know (h : SS n0 k H M C F f b fs bs) {R : Hp} {j : Nat} {c : List AV} (hj : Zz.look R j 0 = some c) : SS n0 k H (M ++ R) C ((M.length + j, c) :: F) f b fs bs := by
  have h' := h.app R
  have hM := h.lenM
  refine ⟨h'.c, h'.nk, fun e he => ?_, h'.hf, h'.hb, h'.apart, h'.same, h'.kn⟩
  simp only [List.mem_cons] at he
  rcases he with rfl | he
  · exact ⟨by rw [look_right]; exact hj, fun ho => by have := h.hf.own ho; simp only at this; omega, fun ho => by have := h.hb.own ho; simp only at this; omega, by simp only; omega⟩
  · exact h'.fr e he

theorem SS.appF (h : SS n0 k H M C F f b fs bs) {it' : AV} {M' : Hp} {fs' : List Pkt} (hq : QR n0 M' it' fs') (ho : ∀ id, owns it' id → owns f id ∨ M.length ≤ id) (hs : Same M M' M.length (fun id => owns f id)) : SS n0 k H M' C F it' b fs' bs := by
  have hM := h.lenM
  refine ⟨by rw [hs.look hM.2 h.nk.1]; exact h.c, ⟨fun e => ?_, h.nk.2⟩, fun e he => ?_, hq, h.hb.same hs fun id h1 h2 => h.apart id h2 h1, fun id h1 h2 => ?_, h.same.trans (hs.weaken hM.1 fun id hi ho => by have := h.hf.own ho; omega), h.kn⟩
  · rcases ho _ e with e | e
    · exact h.nk.1 e
    · omega
  · obtain ⟨h1, h2, h3, h4⟩ := h.fr e he
    have hlt := look_lt h1
    exact ⟨by rw [hs.look hlt h2]; exact h1, fun e' => by rcases ho _ e' with e' | e'; exact h2 e'; omega, h3, h4⟩
  · rcases ho _ h1 with e | e
    · exact h.apart id e h2
    · have := h.hb.own h2; omega

theorem SS.appB (h : SS n0 k H M C F f b fs bs) {it' : AV} {M' : Hp} {bs' : List Pkt} (hq : QR n0 M' it' bs') (ho : ∀ id, owns it' id → owns b id ∨ M.length ≤ id) (hs : Same M M' M.length (fun id => owns b id)) : SS n0 k H M' C F f it' fs bs' := by
  have hM := h.lenM
  refine ⟨by rw [hs.look hM.2 h.nk.2]; exact h.c, ⟨h.nk.1, fun e => ?_⟩, fun e he => ?_, h.hf.same hs fun id h1 h2 => h.apart id h1 h2, hq, fun id h1 h2 => ?_, h.same.trans (hs.weaken hM.1 fun id hi ho => by have := h.hb.own ho; omega), h.kn⟩
  · rcases ho _ e with e | e
    · exact h.nk.2 e
    · omega
  · obtain ⟨h1, h2, h3, h4⟩ := h.fr e he
    have hlt := look_lt h1
    exact ⟨by rw [hs.look hlt h3]; exact h1, h2, fun e' => by rcases ho _ e' with e' | e'; exact h3 e'; omega, h4⟩
  · rcases ho _ h2 with e | e
    · exact h.apart id h1 e
    · have := h.hf.own h1; omega

/-- A new slice in the place of the first, of the second queue. -/
theorem SS.newF (h : SS n0 k H M C F f b fs bs) {it' : AV} {M' : Hp} {fs' : List Pkt} (hq : QR M.length M' it' fs') (hs : Same M M' M.length (fun _ => False)) : SS n0 k H M' C F it' b fs' bs :=
  h.appF (hq.weaken h.lenM.1) (fun id ho => .inr (hq.own ho).1) (hs.weaken (Nat.le_refl _) (fun _ _ h => h.elim))
theorem SS.newB (h : SS n0 k H M C F f b fs bs) {it' : AV} {M' : Hp} {bs' : List Pkt} (hq : QR M.length M' it' bs') (hs : Same M M' M.length (fun _ => False)) : SS n0 k H M' C F f it' fs bs' :=
  h.appB (hq.weaken h.lenM.1) (fun id ho => .inr (hq.own ho).1) (hs.weaken (Nat.le_refl _) (fun _ _ h => h.elim))

theorem SS.at (h : SS n0 k H M C F f b fs bs) {j : Nat} {c : List AV} (hj : (j, c) ∈ F) : Zz.look M j 0 = some c := (h.fr _ hj).1

/-- The reference's state, between its steps. -/
structure RR (n0 : Nat) (H : Hp) (bs : List Int) (X : RunSt) (hd : Nat) (q g f b : AV) : Prop where
  hq : IntS q X.queue
  hg : IntS g X.got
  hf : QR n0 H f X.forth
  hb : QR n0 H b X.back
  apart : ∀ id, owns f id → owns b id → False
  left : X.left = bs.drop hd
  hdle : hd ≤ bs.length

def Done (n0 : Nat) (H : Hp) (L : List (Option ALoop)) (bs : List Int) (X' : RunSt) (y : AV) (m' : Mem) : Prop :=
  m'.loops = L ∧ Same H m'.heap n0 (fun _ => False) ∧ ∃ q g f b hd, y = .agg [.int .i64 X'.seq, q, g, f, b, .int .i64 (hd : Nat)] ∧ RR n0 m'.heap bs X' hd q g f b

/-- The result is laid. -/
theorem SS.fin {X' : RunSt} {q g : AV} {hd : Nat} {ys : List Int} (h : SS n0 k H M C F f b X'.forth X'.back) {c : List AV} (hz : (k + 1, c) ∈ F) (C' : List AV) (hq : IntS q X'.queue) (hg : IntS g X'.got) (hl : X'.left = ys.drop hd) (hd' : hd ≤ ys.length) :
    Done n0 H L ys X' (.agg [.int .i64 X'.seq, q, g, f, b, .int .i64 (hd : Nat)]) ⟨M.set (k + 1) (some ⟨0, C'⟩), L⟩ := by
  obtain ⟨h1, h2, h3, _⟩ := h.fr _ hz
  obtain ⟨b0, hb0⟩ := look_some h1
  simp only at hb0 h2 h3
  have hkn := h.kn
  refine ⟨rfl, h.same.trans ⟨by simp, fun id hi _ => List.getElem?_set_ne (by omega), fun id hd => ?_⟩, q, g, f, b, hd, rfl, hq, hg, h.hf.setO h2, h.hb.setO h3, h.apart, hl, hd'⟩
  rw [List.getElem?_set_ne]
  · exact hd
  · intro e; subst e; rw [hb0] at hd; cases hd
end
end Go.Proofs.Ytpddngcgajjacaa

set_option linter.unusedSimpArgs false
set_option linter.unusedVariables false
namespace Go.Proofs.Ytpddngcgajjacaa
open Go.Zz


set_option maxRecDepth 20000 in
theorem rstep0 {H : Hp} {L : List (Option ALoop)} {n0 hd s : Nat} {X : RunSt} {bs : List Int} {q g f b bd : AV} (hR : RR n0 H bs X hd q g f b) (hn0 : n0 ≤ H.length) (hbd : IntS bd bs) (hsm : Sm X) (hs63 : s < 9223372036854775808) (hbl : bs.length ≤ 1000) (e8 : s % 8 = 0) :
    WF Gq (.func 38 [] []) [.agg [.int .i64 X.seq, q, g, f, b, .int .i64 (hd : Nat)], bd, .int .i64 (s : Nat)] ⟨H, L⟩ fun y m' => Done n0 H L bs (stepM X s) y m' := by
  have hX : stepM X s = { X with forth := X.forth ++ outM X.seq X.queue } := by unfold stepM; simp only [e8]
  obtain ⟨v, hv, ho⟩ := rout_eq hR.hq hsm.seq (by have := hsm.queue; omega)
  have hol := outM_len X.seq X.queue
  generalize hk : H.length = k
  have hS : SS n0 k H (H ++ [some (Blk.mk 0 [.int .i64 X.seq, q, g, f, b, .int .i64 (hd : Nat)]), some (Blk.mk 0 [.int .i64 0, .snil, .snil, .snil, .snil, .int .i64 0])]) [.int .i64 X.seq, q, g, f, b, .int .i64 (hd : Nat)] [(k + 1, [.int .i64 0, .snil, .snil, .snil, .snil, .int .i64 0])] f b X.forth X.back := by
    refine ⟨by rw [← hk]; exact look2.1, ⟨fun e => ?_, fun e => ?_⟩, fun e he => ?_, hR.hf.app _, hR.hb.app _, hR.apart, (Same.app _).weaken hn0 (fun _ _ h => h), by omega⟩
    · have := hR.hf.own e; omega
    · have := hR.hb.own e; omega
    · simp only [List.mem_cons, List.not_mem_nil, or_false] at he
      subst he
      exact ⟨by rw [← hk]; exact look2.2, fun e => by have := hR.hf.own e; simp only at this; omega, fun e => by have := hR.hb.own e; simp only at this; omega, by simp⟩
  have h80 : ((8 : Int) = 0) = False := by simp
  have hrem : Int.tmod (s : Int) 8 = 0 := by
    have e1 : Int.tmod (s : Int) 8 = ((s % 8 : Nat) : Int) := rfl
    rw [e1, e8]
    rfl
  have hquo : IntKind.wrap .i64 (Int.tdiv (s : Int) 8) = ((s / 8 : Nat) : Int) := by
    have e : Int.tdiv (s : Int) 8 = ((s / 8 : Nat) : Int) := rfl
    rw [e, wrap_id (by omega) (by omega)]
  have hqc := hR.hq.cells
  have hgc := hR.hg.cells
  have hfc := hR.hf.cells
  have hbc := hR.hb.cells
  simp only [AV.cells] at hqc hgc hfc hbc
  have h1 := hsm.seq
  have h2 := hsm.queue
  have h3 := hsm.got
  have h4 := hsm.forth
  have h5 := hsm.back
  refine WF.fn rfl (fn_of Try.func38 cir38) (by show 3 ≤ 135; decide) ?_
  unfold ir38
  simp only [padTo, List.replicate, List.nil_append, List.append_nil, List.cons_append]
  refine WC.seq (WC.region ?_)
  repeat (first
    | (refine WO.yes rfl ?_)
    | (refine WO.no rfl ?_; simp only [pt])
    | (refine WO.op (by intro; simp only [go_sem, fillP, over, cut, nilCheckAV]; rfl) ?_; simp only [pt])
    | (refine WO.op (by intro; exact ev_lenS rfl) ?_; simp only [pt])
    | (refine WO.opN (by intro; simp only [go_sem, storeAt, Option.bind_eq_bind, over, setBlk, cut]; rfl) ?_))
  simp only [List.append_assoc, List.cons_append, List.nil_append, List.length_append, List.length_cons, List.length_nil, Nat.zero_add, hk]
  refine WO.nil ?_
  simp only [Then]
  generalize H ++ [some (Blk.mk 0 [.int .i64 X.seq, q, g, f, b, .int .i64 (hd : Nat)]), some (Blk.mk 0 [.int .i64 0, .snil, .snil, .snil, .snil, .int .i64 0])] = M at hS ⊢
  refine WC.seq (WC.region ?_)
  repeat (first
    | (refine WO.yes rfl ?_)
    | (refine WO.no rfl ?_; simp only [pt])
    | (refine WO.op (by intro; simp only [go_sem, fillP, over, cut, nilCheckAV, h80, hrem]; rfl) ?_; simp only [pt])
    | (refine WO.op (by intro; exact ev_lenS rfl) ?_; simp only [pt])
    | (refine WO.opN (by intro; simp only [go_sem, storeAt, Option.bind_eq_bind, over, setBlk, cut, h80, hrem]; rfl) ?_))
  refine WO.nil ?_
  simp only [Then]
  refine WC.seq (WC.seq (WC.region ?_))
  repeat (first
    | (refine WO.yes rfl ?_)
    | (refine WO.no rfl ?_; simp only [pt])
    | (refine WO.op (by intro; simp only [go_sem, fillP, over, cut, nilCheckAV]; rfl) ?_; simp only [pt])
    | (refine WO.op (by intro; exact ev_lenS rfl) ?_; simp only [pt])
    | (refine WO.opN (by intro; simp only [go_sem, storeAt, Option.bind_eq_bind, over, setBlk, cut]; rfl) ?_))
  refine WO.nil ?_
  simp only [Then]
  refine WC.yes rfl (WC.seq (WC.region ?_))
  have hC := hS.c
  repeat (first
    | (refine WO.yes rfl ?_)
    | (refine WO.no rfl ?_; simp only [pt])
    | (refine WO.op (by intro; simp only [go_sem, fillP, over, cut, nilCheckAV, hC]; rfl) ?_; simp only [pt])
    | (refine WO.op (by intro; exact ev_lenS rfl) ?_; simp only [pt])
    | (refine WO.opN (by intro; simp only [go_sem, storeAt, Option.bind_eq_bind, over, setBlk, cut, hC]; rfl) ?_))
  refine WO.call rfl rfl (WF.spec rfl (ho _) ?_)
  simp only [pt]
  repeat (first
    | (refine WO.yes rfl ?_)
    | (refine WO.no rfl ?_; simp only [pt])
    | (refine WO.op (by intro; simp only [go_sem, fillP, over, cut, nilCheckAV]; rfl) ?_; simp only [pt])
    | (refine WO.op (by intro; exact ev_lenS rfl) ?_; simp only [pt])
    | (refine WO.opN (by intro; simp only [go_sem, storeAt, Option.bind_eq_bind, over, setBlk, cut]; rfl) ?_))
  refine WO.nil ?_
  simp only [Then]
  obtain ⟨r1, r2⟩ := hv.rd M
  obtain ⟨f', M2, happ, qf, of, sf⟩ := qr_app (L := L) (qs := outM X.seq X.queue) hS.hf hS.lenM.1 (by omega) r1 r2
  have hS2 := hS.appF qf of sf
  have hC2 := hS2.c
  have hfc2 := qf.cells
  simp only [AV.cells] at hfc2
  refine WC.seq (WC.region ?_)
  repeat (first
    | (refine WO.yes rfl ?_)
    | (refine WO.no rfl ?_; simp only [pt])
    | (refine WO.op (by intro; simp only [go_sem, fillP, over, cut, nilCheckAV, hC]; rfl) ?_; simp only [pt])
    | (refine WO.op (by intro; exact ev_lenS rfl) ?_; simp only [pt])
    | (refine WO.opN (by intro; simp only [go_sem, storeAt, Option.bind_eq_bind, over, setBlk, cut, hC]; rfl) ?_))
  refine WO.op (by intro; rw [ev_append]; exact happ) ?_
  simp only [pt]
  repeat (first
    | (refine WO.yes rfl ?_)
    | (refine WO.no rfl ?_; simp only [pt])
    | (refine WO.op (by intro; simp only [go_sem, fillP, over, cut, nilCheckAV, hC2, hfc2]; rfl) ?_; simp only [pt])
    | (refine WO.op (by intro; exact ev_lenS rfl) ?_; simp only [pt])
    | (refine WO.opN (by intro; simp only [go_sem, storeAt, Option.bind_eq_bind, over, setBlk, cut, hC2, hfc2]; rfl) ?_))
  simp only [List.take, List.drop, List.nil_append, List.append_nil, List.cons_append, List.length_cons, List.length_nil, Nat.zero_add, Nat.reduceAdd, setBlk]
  refine WO.nil ?_
  simp only [Then]
  have hS3 := hS2.turn [.int .i64 X.seq, q, g, f', b, .int .i64 (hd : Nat)]
  generalize M2.set k (some ⟨0, [.int .i64 X.seq, q, g, f', b, .int .i64 (hd : Nat)]⟩) = M3 at hS3 ⊢
  have hS := hS3
  refine WC.seq (WC.region ?_)
  have hC := hS.c
  have hz := hS.at (j := k + 1) (c := [.int .i64 0, .snil, .snil, .snil, .snil, .int .i64 0]) (by simp)
  have hlt := look_lt hz
  repeat (first
    | (refine WO.yes rfl ?_)
    | (refine WO.no rfl ?_; simp only [pt])
    | (refine WO.op (by intro; simp only [go_sem, fillP, over, cut, nilCheckAV, hC, hz]; rfl) ?_; simp only [pt])
    | (refine WO.op (by intro; exact ev_lenS rfl) ?_; simp only [pt])
    | (refine WO.opN (by intro; simp only [go_sem, storeAt, Option.bind_eq_bind, over, setBlk, cut, hC, hz]; rfl) ?_))
  simp only [List.take, List.drop, List.nil_append, List.append_nil, List.cons_append, List.length_cons, List.length_nil, Nat.zero_add, Nat.reduceAdd, setBlk]
  refine WO.nil ?_
  simp only [Then]
  refine WC.ret ⟨[.agg [.int .i64 X.seq, q, g, f', b, .int .i64 (hd : Nat)]], ?_, ?_⟩
  · simp only [evRes, gt, look_set hlt, Option.bind_some, loadCs, if_true, cut, Option.map_some]
    rfl
  · rw [hX]
    exact SS.fin (X' := { X with forth := X.forth ++ outM X.seq X.queue }) (c := [.int .i64 0, .snil, .snil, .snil, .snil, .int .i64 0]) hS (by simp) _ hR.hq hR.hg hR.left hR.hdle

set_option maxRecDepth 20000 in
theorem rstep7 {H : Hp} {L : List (Option ALoop)} {n0 hd s : Nat} {X : RunSt} {bs : List Int} {q g f b bd : AV} (hR : RR n0 H bs X hd q g f b) (hn0 : n0 ≤ H.length) (hbd : IntS bd bs) (hsm : Sm X) (hs63 : s < 9223372036854775808) (hbl : bs.length ≤ 1000) (e8 : s % 8 = 7) :
    WF Gq (.func 38 [] []) [.agg [.int .i64 X.seq, q, g, f, b, .int .i64 (hd : Nat)], bd, .int .i64 (s : Nat)] ⟨H, L⟩ fun y m' => Done n0 H L bs (stepM X s) y m' := by
  by_cases hlt7 : hd < bs.length
  · have hl7 : X.left = bs[hd] :: bs.drop (hd + 1) := by rw [hR.left, List.drop_eq_getElem_cons hlt7]
    have hX : stepM X s = { X with seq := (sendM X.seq X.queue bs[hd]).1, queue := (sendM X.seq X.queue bs[hd]).2, left := bs.drop (hd + 1) } := by
      have : stepM X s = handM X := by unfold stepM; simp only [e8]
      rw [this]
      unfold handM
      rw [hl7]
    obtain ⟨v, hv, hsend⟩ := rsend_eq (b := bs[hd]) hR.hq hsm.seq (by have := hsm.queue; omega)
    have hvc := hv.cells
    simp only [AV.cells] at hvc
    have hix := hbd.at hlt7
    have hdx := drop_at hlt7
    have hltI : ((hd : Nat) : Int) < (bs.length : Int) := by omega
    have hwh : IntKind.wrap .i64 (((hd : Nat) : Int) + 1) = ((hd + 1 : Nat) : Int) := by rw [wrap_id (by omega) (by omega)]; rfl
    generalize hk : H.length = k
    have hS : SS n0 k H (H ++ [some (Blk.mk 0 [.int .i64 X.seq, q, g, f, b, .int .i64 (hd : Nat)]), some (Blk.mk 0 [.int .i64 0, .snil, .snil, .snil, .snil, .int .i64 0])]) [.int .i64 X.seq, q, g, f, b, .int .i64 (hd : Nat)] [(k + 1, [.int .i64 0, .snil, .snil, .snil, .snil, .int .i64 0])] f b X.forth X.back := by
      refine ⟨by rw [← hk]; exact look2.1, ⟨fun e => ?_, fun e => ?_⟩, fun e he => ?_, hR.hf.app _, hR.hb.app _, hR.apart, (Same.app _).weaken hn0 (fun _ _ h => h), by omega⟩
      · have := hR.hf.own e; omega
      · have := hR.hb.own e; omega
      · simp only [List.mem_cons, List.not_mem_nil, or_false] at he
        subst he
        exact ⟨by rw [← hk]; exact look2.2, fun e => by have := hR.hf.own e; simp only at this; omega, fun e => by have := hR.hb.own e; simp only at this; omega, by simp⟩
    have h80 : ((8 : Int) = 0) = False := by simp
    have hrem : Int.tmod (s : Int) 8 = 7 := by
      have e1 : Int.tmod (s : Int) 8 = ((s % 8 : Nat) : Int) := rfl
      rw [e1, e8]
      rfl
    have hquo : IntKind.wrap .i64 (Int.tdiv (s : Int) 8) = ((s / 8 : Nat) : Int) := by
      have e : Int.tdiv (s : Int) 8 = ((s / 8 : Nat) : Int) := rfl
      rw [e, wrap_id (by omega) (by omega)]
    have hqc := hR.hq.cells
    have hgc := hR.hg.cells
    have hfc := hR.hf.cells
    have hbc := hR.hb.cells
    simp only [AV.cells] at hqc hgc hfc hbc
    have h1 := hsm.seq
    have h2 := hsm.queue
    have h3 := hsm.got
    have h4 := hsm.forth
    have h5 := hsm.back
    refine WF.fn rfl (fn_of Try.func38 cir38) (by show 3 ≤ 135; decide) ?_
    unfold ir38
    simp only [padTo, List.replicate, List.nil_append, List.append_nil, List.cons_append]
    refine WC.seq (WC.region ?_)
    repeat (first
      | (refine WO.yes rfl ?_)
      | (refine WO.no rfl ?_; simp only [pt])
      | (refine WO.op (by intro; simp only [go_sem, fillP, over, cut, nilCheckAV]; rfl) ?_; simp only [pt])
      | (refine WO.op (by intro; exact ev_lenS rfl) ?_; simp only [pt])
      | (refine WO.opN (by intro; simp only [go_sem, storeAt, Option.bind_eq_bind, over, setBlk, cut]; rfl) ?_))
    simp only [List.append_assoc, List.cons_append, List.nil_append, List.length_append, List.length_cons, List.length_nil, Nat.zero_add, hk]
    refine WO.nil ?_
    simp only [Then]
    generalize H ++ [some (Blk.mk 0 [.int .i64 X.seq, q, g, f, b, .int .i64 (hd : Nat)]), some (Blk.mk 0 [.int .i64 0, .snil, .snil, .snil, .snil, .int .i64 0])] = M at hS ⊢
    refine WC.seq (WC.region ?_)
    repeat (first
      | (refine WO.yes rfl ?_)
      | (refine WO.no rfl ?_; simp only [pt])
      | (refine WO.op (by intro; simp only [go_sem, fillP, over, cut, nilCheckAV, h80, hrem]; rfl) ?_; simp only [pt])
      | (refine WO.op (by intro; exact ev_lenS rfl) ?_; simp only [pt])
      | (refine WO.opN (by intro; simp only [go_sem, storeAt, Option.bind_eq_bind, over, setBlk, cut, h80, hrem]; rfl) ?_))
    refine WO.nil ?_
    simp only [Then]
    refine WC.seq (WC.seq (WC.region ?_))
    repeat (first
      | (refine WO.yes rfl ?_)
      | (refine WO.no rfl ?_; simp only [pt])
      | (refine WO.op (by intro; simp only [go_sem, fillP, over, cut, nilCheckAV]; rfl) ?_; simp only [pt])
      | (refine WO.op (by intro; exact ev_lenS rfl) ?_; simp only [pt])
      | (refine WO.opN (by intro; simp only [go_sem, storeAt, Option.bind_eq_bind, over, setBlk, cut]; rfl) ?_))
    refine WO.nil ?_
    simp only [Then]
    refine WC.no rfl (WC.skip ?_)
    simp only [Then]
    refine WC.seq (WC.seq (WC.region ?_))
    repeat (first
      | (refine WO.yes rfl ?_)
      | (refine WO.no rfl ?_; simp only [pt])
      | (refine WO.op (by intro; simp only [go_sem, fillP, over, cut, nilCheckAV]; rfl) ?_; simp only [pt])
      | (refine WO.op (by intro; exact ev_lenS rfl) ?_; simp only [pt])
      | (refine WO.opN (by intro; simp only [go_sem, storeAt, Option.bind_eq_bind, over, setBlk, cut]; rfl) ?_))
    refine WO.nil ?_
    simp only [Then]
    refine WC.yes rfl (WC.seq (WC.seq (WC.region ?_)))
    have hC := hS.c
    repeat (first
      | (refine WO.yes rfl ?_)
      | (refine WO.no rfl ?_; simp only [pt])
      | (refine WO.op (by intro; simp only [go_sem, fillP, over, cut, nilCheckAV, hC]; rfl) ?_; simp only [pt])
      | (refine WO.op (by intro; exact ev_lenS rfl) ?_; simp only [pt])
      | (refine WO.opN (by intro; simp only [go_sem, storeAt, Option.bind_eq_bind, over, setBlk, cut, hC]; rfl) ?_))
    refine WO.op (by intro; exact ev_lenS (n := bs.length) (by simp only [go_sem]; exact hbd.len)) ?_
    simp only [pt]
    repeat (first
      | (refine WO.yes rfl ?_)
      | (refine WO.no rfl ?_; simp only [pt])
      | (refine WO.op (by intro; simp only [go_sem, fillP, over, cut, nilCheckAV, hltI, decide_true]; rfl) ?_; simp only [pt])
      | (refine WO.op (by intro; exact ev_lenS rfl) ?_; simp only [pt])
      | (refine WO.opN (by intro; simp only [go_sem, storeAt, Option.bind_eq_bind, over, setBlk, cut, hltI, decide_true]; rfl) ?_))
    refine WO.nil ?_
    simp only [Then]
    refine WC.yes (by simp only [go_sem, hltI, decide_true]) (WC.seq (WC.draw (WD.calmN 7 rfl ?_)))
    simp only [List.take, List.drop, List.map]
    repeat (first
      | (refine WO.yes rfl ?_)
      | (refine WO.no rfl ?_; simp only [pt])
      | (refine WO.op (by intro; simp only [go_sem, fillP, over, cut, nilCheckAV, hC]; rfl) ?_; simp only [pt])
      | (refine WO.op (by intro; exact ev_lenS rfl) ?_; simp only [pt])
      | (refine WO.opN (by intro; simp only [go_sem, storeAt, Option.bind_eq_bind, over, setBlk, cut, hC]; rfl) ?_))
    refine WO.op (by intro; rw [ev_indexAddr]; exact (congrArg (Option.map _) hix).trans rfl) ?_
    simp only [pt]
    repeat (first
      | (refine WO.yes rfl ?_)
      | (refine WO.no rfl ?_; simp only [pt])
      | (refine WO.op (by intro; simp only [go_sem, fillP, over, cut, nilCheckAV, hdx]; rfl) ?_; simp only [pt])
      | (refine WO.op (by intro; exact ev_lenS rfl) ?_; simp only [pt])
      | (refine WO.opN (by intro; simp only [go_sem, storeAt, Option.bind_eq_bind, over, setBlk, cut, hdx]; rfl) ?_))
    refine WO.nil ?_
    intro seen
    refine WD.callP (WF.spec (S := borrowE Gr 12) rfl (hsend _) ⟨dead_self _, ?_⟩)
    intro seen
    refine WD.calmN 5 rfl ?_
    simp only [List.take, List.drop, List.map, St.put, pt]
    repeat (first
      | (refine WO.yes rfl ?_)
      | (refine WO.no rfl ?_; simp only [pt])
      | (refine WO.op (by intro; simp only [go_sem, fillP, over, cut, nilCheckAV, hC, hvc]; rfl) ?_; simp only [pt])
      | (refine WO.op (by intro; exact ev_lenS rfl) ?_; simp only [pt])
      | (refine WO.opN (by intro; simp only [go_sem, storeAt, Option.bind_eq_bind, over, setBlk, cut, hC, hvc]; rfl) ?_))
    refine WO.nil ?_
    intro seen
    refine WD.nil ?_
    simp only [Then]
    simp only [List.take, List.drop, List.nil_append, List.append_nil, List.cons_append, List.length_cons, List.length_nil, Nat.zero_add, Nat.reduceAdd, setBlk]
    have hS2 := hS.turn [.int .i64 (sendM X.seq X.queue bs[hd]).1, v, g, f, b, .int .i64 (hd : Nat)]
    generalize M.set k (some ⟨0, [.int .i64 (sendM X.seq X.queue bs[hd]).1, v, g, f, b, .int .i64 (hd : Nat)]⟩) = M2 at hS2 ⊢
    have hC2 := hS2.c
    refine WC.region ?_
    repeat (first
      | (refine WO.yes rfl ?_)
      | (refine WO.no rfl ?_; simp only [pt])
      | (refine WO.op (by intro; simp only [go_sem, fillP, over, cut, nilCheckAV, hC2, hwh]; rfl) ?_; simp only [pt])
      | (refine WO.op (by intro; exact ev_lenS rfl) ?_; simp only [pt])
      | (refine WO.opN (by intro; simp only [go_sem, storeAt, Option.bind_eq_bind, over, setBlk, cut, hC2, hwh]; rfl) ?_))
    simp only [List.take, List.drop, List.nil_append, List.append_nil, List.cons_append, List.length_cons, List.length_nil, Nat.zero_add, Nat.reduceAdd, setBlk]
    refine WO.nil ?_
    simp only [Then]
    have hS3 := hS2.turn [.int .i64 (sendM X.seq X.queue bs[hd]).1, v, g, f, b, .int .i64 ((hd + 1 : Nat) : Int)]
    generalize M2.set k (some ⟨0, [.int .i64 (sendM X.seq X.queue bs[hd]).1, v, g, f, b, .int .i64 ((hd + 1 : Nat) : Int)]⟩) = M3 at hS3 ⊢
    have hS := hS3
    refine WC.seq (WC.region ?_)
    have hC := hS.c
    have hz := hS.at (j := k + 1) (c := [.int .i64 0, .snil, .snil, .snil, .snil, .int .i64 0]) (by simp)
    have hlt := look_lt hz
    repeat (first
      | (refine WO.yes rfl ?_)
      | (refine WO.no rfl ?_; simp only [pt])
      | (refine WO.op (by intro; simp only [go_sem, fillP, over, cut, nilCheckAV, hC, hz]; rfl) ?_; simp only [pt])
      | (refine WO.op (by intro; exact ev_lenS rfl) ?_; simp only [pt])
      | (refine WO.opN (by intro; simp only [go_sem, storeAt, Option.bind_eq_bind, over, setBlk, cut, hC, hz]; rfl) ?_))
    simp only [List.take, List.drop, List.nil_append, List.append_nil, List.cons_append, List.length_cons, List.length_nil, Nat.zero_add, Nat.reduceAdd, setBlk]
    refine WO.nil ?_
    simp only [Then]
    refine WC.ret ⟨[.agg [.int .i64 (sendM X.seq X.queue bs[hd]).1, v, g, f, b, .int .i64 ((hd + 1 : Nat) : Int)]], ?_, ?_⟩
    · simp only [evRes, gt, look_set hlt, Option.bind_some, loadCs, if_true, cut, Option.map_some]
      rfl
    · rw [hX]
      exact SS.fin (X' := { X with seq := (sendM X.seq X.queue bs[hd]).1, queue := (sendM X.seq X.queue bs[hd]).2, left := bs.drop (hd + 1) }) (c := [.int .i64 0, .snil, .snil, .snil, .snil, .int .i64 0]) hS (by simp) _ hv hR.hg rfl (by omega)

  · have hX : stepM X s = X := by
      have : stepM X s = handM X := by unfold stepM; simp only [e8]
      rw [this]
      unfold handM
      rw [hR.left, List.drop_of_length_le (by omega)]
    have hltI : ¬ ((hd : Nat) : Int) < (bs.length : Int) := by omega
    generalize hk : H.length = k
    have hS : SS n0 k H (H ++ [some (Blk.mk 0 [.int .i64 X.seq, q, g, f, b, .int .i64 (hd : Nat)]), some (Blk.mk 0 [.int .i64 0, .snil, .snil, .snil, .snil, .int .i64 0])]) [.int .i64 X.seq, q, g, f, b, .int .i64 (hd : Nat)] [(k + 1, [.int .i64 0, .snil, .snil, .snil, .snil, .int .i64 0])] f b X.forth X.back := by
      refine ⟨by rw [← hk]; exact look2.1, ⟨fun e => ?_, fun e => ?_⟩, fun e he => ?_, hR.hf.app _, hR.hb.app _, hR.apart, (Same.app _).weaken hn0 (fun _ _ h => h), by omega⟩
      · have := hR.hf.own e; omega
      · have := hR.hb.own e; omega
      · simp only [List.mem_cons, List.not_mem_nil, or_false] at he
        subst he
        exact ⟨by rw [← hk]; exact look2.2, fun e => by have := hR.hf.own e; simp only at this; omega, fun e => by have := hR.hb.own e; simp only at this; omega, by simp⟩
    have h80 : ((8 : Int) = 0) = False := by simp
    have hrem : Int.tmod (s : Int) 8 = 7 := by
      have e1 : Int.tmod (s : Int) 8 = ((s % 8 : Nat) : Int) := rfl
      rw [e1, e8]
      rfl
    have hquo : IntKind.wrap .i64 (Int.tdiv (s : Int) 8) = ((s / 8 : Nat) : Int) := by
      have e : Int.tdiv (s : Int) 8 = ((s / 8 : Nat) : Int) := rfl
      rw [e, wrap_id (by omega) (by omega)]
    have hqc := hR.hq.cells
    have hgc := hR.hg.cells
    have hfc := hR.hf.cells
    have hbc := hR.hb.cells
    simp only [AV.cells] at hqc hgc hfc hbc
    have h1 := hsm.seq
    have h2 := hsm.queue
    have h3 := hsm.got
    have h4 := hsm.forth
    have h5 := hsm.back
    refine WF.fn rfl (fn_of Try.func38 cir38) (by show 3 ≤ 135; decide) ?_
    unfold ir38
    simp only [padTo, List.replicate, List.nil_append, List.append_nil, List.cons_append]
    refine WC.seq (WC.region ?_)
    repeat (first
      | (refine WO.yes rfl ?_)
      | (refine WO.no rfl ?_; simp only [pt])
      | (refine WO.op (by intro; simp only [go_sem, fillP, over, cut, nilCheckAV]; rfl) ?_; simp only [pt])
      | (refine WO.op (by intro; exact ev_lenS rfl) ?_; simp only [pt])
      | (refine WO.opN (by intro; simp only [go_sem, storeAt, Option.bind_eq_bind, over, setBlk, cut]; rfl) ?_))
    simp only [List.append_assoc, List.cons_append, List.nil_append, List.length_append, List.length_cons, List.length_nil, Nat.zero_add, hk]
    refine WO.nil ?_
    simp only [Then]
    generalize H ++ [some (Blk.mk 0 [.int .i64 X.seq, q, g, f, b, .int .i64 (hd : Nat)]), some (Blk.mk 0 [.int .i64 0, .snil, .snil, .snil, .snil, .int .i64 0])] = M at hS ⊢
    refine WC.seq (WC.region ?_)
    repeat (first
      | (refine WO.yes rfl ?_)
      | (refine WO.no rfl ?_; simp only [pt])
      | (refine WO.op (by intro; simp only [go_sem, fillP, over, cut, nilCheckAV, h80, hrem]; rfl) ?_; simp only [pt])
      | (refine WO.op (by intro; exact ev_lenS rfl) ?_; simp only [pt])
      | (refine WO.opN (by intro; simp only [go_sem, storeAt, Option.bind_eq_bind, over, setBlk, cut, h80, hrem]; rfl) ?_))
    refine WO.nil ?_
    simp only [Then]
    refine WC.seq (WC.seq (WC.region ?_))
    repeat (first
      | (refine WO.yes rfl ?_)
      | (refine WO.no rfl ?_; simp only [pt])
      | (refine WO.op (by intro; simp only [go_sem, fillP, over, cut, nilCheckAV]; rfl) ?_; simp only [pt])
      | (refine WO.op (by intro; exact ev_lenS rfl) ?_; simp only [pt])
      | (refine WO.opN (by intro; simp only [go_sem, storeAt, Option.bind_eq_bind, over, setBlk, cut]; rfl) ?_))
    refine WO.nil ?_
    simp only [Then]
    refine WC.no rfl (WC.skip ?_)
    simp only [Then]
    refine WC.seq (WC.seq (WC.region ?_))
    repeat (first
      | (refine WO.yes rfl ?_)
      | (refine WO.no rfl ?_; simp only [pt])
      | (refine WO.op (by intro; simp only [go_sem, fillP, over, cut, nilCheckAV]; rfl) ?_; simp only [pt])
      | (refine WO.op (by intro; exact ev_lenS rfl) ?_; simp only [pt])
      | (refine WO.opN (by intro; simp only [go_sem, storeAt, Option.bind_eq_bind, over, setBlk, cut]; rfl) ?_))
    refine WO.nil ?_
    simp only [Then]
    refine WC.yes rfl (WC.seq (WC.seq (WC.region ?_)))
    have hC := hS.c
    repeat (first
      | (refine WO.yes rfl ?_)
      | (refine WO.no rfl ?_; simp only [pt])
      | (refine WO.op (by intro; simp only [go_sem, fillP, over, cut, nilCheckAV, hC]; rfl) ?_; simp only [pt])
      | (refine WO.op (by intro; exact ev_lenS rfl) ?_; simp only [pt])
      | (refine WO.opN (by intro; simp only [go_sem, storeAt, Option.bind_eq_bind, over, setBlk, cut, hC]; rfl) ?_))
    refine WO.op (by intro; exact ev_lenS (n := bs.length) (by simp only [go_sem]; exact hbd.len)) ?_
    simp only [pt]
    repeat (first
      | (refine WO.yes rfl ?_)
      | (refine WO.no rfl ?_; simp only [pt])
      | (refine WO.op (by intro; simp only [go_sem, fillP, over, cut, nilCheckAV, hltI, decide_false]; rfl) ?_; simp only [pt])
      | (refine WO.op (by intro; exact ev_lenS rfl) ?_; simp only [pt])
      | (refine WO.opN (by intro; simp only [go_sem, storeAt, Option.bind_eq_bind, over, setBlk, cut, hltI, decide_false]; rfl) ?_))
    refine WO.nil ?_
    simp only [Then]
    refine WC.no (by simp only [go_sem, hltI, decide_false]) (WC.skip ?_)
    simp only [Then]
    refine WC.seq (WC.region ?_)
    have hC := hS.c
    have hz := hS.at (j := k + 1) (c := [.int .i64 0, .snil, .snil, .snil, .snil, .int .i64 0]) (by simp)
    have hlt := look_lt hz
    repeat (first
      | (refine WO.yes rfl ?_)
      | (refine WO.no rfl ?_; simp only [pt])
      | (refine WO.op (by intro; simp only [go_sem, fillP, over, cut, nilCheckAV, hC, hz]; rfl) ?_; simp only [pt])
      | (refine WO.op (by intro; exact ev_lenS rfl) ?_; simp only [pt])
      | (refine WO.opN (by intro; simp only [go_sem, storeAt, Option.bind_eq_bind, over, setBlk, cut, hC, hz]; rfl) ?_))
    simp only [List.take, List.drop, List.nil_append, List.append_nil, List.cons_append, List.length_cons, List.length_nil, Nat.zero_add, Nat.reduceAdd, setBlk]
    refine WO.nil ?_
    simp only [Then]
    refine WC.ret ⟨[.agg [.int .i64 X.seq, q, g, f, b, .int .i64 (hd : Nat)]], ?_, ?_⟩
    · simp only [evRes, gt, look_set hlt, Option.bind_some, loadCs, if_true, cut, Option.map_some]
      rfl
    · rw [hX]
      exact SS.fin (X' := X) (c := [.int .i64 0, .snil, .snil, .snil, .snil, .int .i64 0]) hS (by simp) _ hR.hq hR.hg hR.left hR.hdle

end Go.Proofs.Ytpddngcgajjacaa

