import Derived.Test.YtpddngcgajjacaaL29B
import Derived.Test.YtpddngcgajjacaaL29K
import Derived.JoinedOf
import Derived.Handed
set_option linter.unusedSimpArgs false
set_option linter.unusedVariables false
namespace Go.Proofs.Ytpddngcgajjacaa
open Go.Zz

theorem wf_I64 {n : Int} (h : (Lit.int .i64 n).wf = true) : I64 n := by
  have e1 : IntKind.i64.min = -9223372036854775808 := by decide
  have e2 : IntKind.i64.max = 9223372036854775807 := by decide
  have : IntKind.i64.min ≤ n ∧ n ≤ IntKind.i64.max := by simpa [Lit.wf] using h
  rw [e1, e2] at this
  exact this

theorem all2_cons {α β : Type} {R : α → β → Prop} {k : α} {ks : List α} {l : List β} (h : All2 R (k :: ks) l) : ∃ a r, l = a :: r ∧ R k a ∧ All2 R ks r := by
  cases l with
  | nil => exact h.elim
  | cons a r => exact ⟨a, r, rfl, h.1, h.2⟩
theorem all2_nil {α β : Type} {R : α → β → Prop} {l : List β} (h : All2 R [] l) : l = [] := by
  cases l with
  | nil => rfl
  | cons a r => exact h.elim

def asInt : AV → Int
  | .int _ n => n
  | _ => 0

/-- A slice of ints that came in. -/
theorem ca_ints {x : AV} (h : CA (.slice [.int .i64]) x) : ∃ xs, IntS x xs ∧ xs.length < 9223372036854775808 ∧ ∀ y ∈ xs, I64 y := by
  rcases h with rfl | ⟨full, len, l, rfl, hl, hlen, he⟩
  · exact ⟨[], .inl ⟨rfl, rfl⟩, by simp, by simp⟩
  · have hlen' : l.length = len := by simpa using hlen
    have hf : ∀ i, (hi : i < l.length) → ∃ n, l[i] = .int .i64 n ∧ I64 n := by
      intro i hi
      obtain ⟨f, hf, hA⟩ := he i hi
      have hm : i % 1 = 0 := Nat.mod_one i
      simp [hm] at hf
      subst hf
      obtain ⟨n, hn, hw⟩ := hA
      refine ⟨n, ?_, wf_I64 hw⟩
      have e : gt l i = l[i] := gt_of_lt hi
      rw [← e]; exact hn
    refine ⟨l.map asInt, .inr ⟨full, ?_⟩, by simp; unfold maxLen at hl; omega, ?_⟩
    · have e : (l.map asInt).map (AV.int .i64) = l := by
        apply List.ext_getElem (by simp)
        intro i h1 h2
        obtain ⟨n, hn, _⟩ := hf i h2
        simp [hn, asInt]
      rw [e]
      simp [hlen']
    · intro y hy
      simp only [List.mem_map] at hy
      obtain ⟨z, hz, rfl⟩ := hy
      obtain ⟨i, hi, rfl⟩ := List.getElem_of_mem hz
      obtain ⟨n, hn, hw⟩ := hf i hi
      rw [hn]
      exact hw

theorem pa_sender {x : AV} (h : PA (true, [.flat (.int .i64), .slice [.int .i64]]) x) : ∃ s q qs, x = .agg [.int .i64 s, q] ∧ I64 s ∧ IntS q qs ∧ qs.length < 9223372036854775808 := by
  unfold PA at h
  rw [if_pos rfl] at h
  obtain ⟨l, rfl, h⟩ := h
  obtain ⟨a, l1, rfl, ⟨n, rfl, hw⟩, h1⟩ := all2_cons h
  obtain ⟨b, l2, rfl, h2, h3⟩ := all2_cons h1
  obtain rfl := all2_nil h3
  obtain ⟨xs, g1, g2, _⟩ := ca_ints h2
  exact ⟨n, b, xs, rfl, wf_I64 hw, g1, g2⟩

theorem pa_packet {x : AV} (h : PA (true, [.flat .bool, .flat (.int .i64), .flat (.int .i64)]) x) : ∃ a s d, x = .agg [.bool a, .int .i64 s, .int .i64 d] ∧ I64 s ∧ I64 d := by
  unfold PA at h
  rw [if_pos rfl] at h
  obtain ⟨l, rfl, h⟩ := h
  obtain ⟨a, l1, rfl, ⟨a, rfl⟩, h1⟩ := all2_cons h
  obtain ⟨b, l2, rfl, ⟨n, rfl, hw⟩, h2⟩ := all2_cons h1
  obtain ⟨c, l3, rfl, ⟨m, rfl, hw'⟩, h3⟩ := all2_cons h2
  obtain rfl := all2_nil h3
  exact ⟨a, n, m, rfl, wf_I64 hw, wf_I64 hw'⟩
end Go.Proofs.Ytpddngcgajjacaa

set_option linter.unusedSimpArgs false
set_option linter.unusedVariables false
namespace Go.Proofs.Ytpddngcgajjacaa
open Go.Zz

/-- Hear answers OK. -/
def Hears (s : Int) (qs : List Int) (ack : Bool) (ps bd : Int) : Prop := (0 ≤ s ∧ s ≤ 1000 ∧ (qs.length : Int) ≤ 1000 - s) ∧ ack = true ∧ bd = 0 ∧ 0 ≤ ps ∧ ps ≤ 1000 ∧ ps - s ≤ qs.length

theorem hear_no {s ps bd : Int} {ack : Bool} {q : AV} {qs : List Int} (hq : IntS q qs) (h1 : I64 s) (h2 : I64 ps) (hmax : qs.length < 9223372036854775808) (h : ¬ Hears s qs ack ps bd) :
    ∃ c : Int, (c = 1 ∨ c = 6) ∧ ∀ m, borrowE Gh 17 [.agg [.int .i64 s, q], .agg [.bool ack, .int .i64 ps, .int .i64 bd]] m = some (.tuple [.agg [.int .i64 0, .snil], .int .i64 c], m) := by
  obtain ⟨f1, f2, f3⟩ := spec17 (ack := ack) (bd := bd) hq h1 h2 hmax
  by_cases hb : (0 ≤ s ∧ s ≤ 1000 ∧ (qs.length : Int) ≤ 1000 - s) ∧ ack = true ∧ bd = 0 ∧ 0 ≤ ps ∧ ps ≤ 1000
  · exact ⟨6, .inr rfl, f2 hb (by have : ¬ (ps - s ≤ qs.length) := fun hl => h ⟨hb.1, hb.2.1, hb.2.2.1, hb.2.2.2.1, hb.2.2.2.2, hl⟩; omega)⟩
  · exact ⟨1, .inl rfl, f1 hb⟩

theorem hear_yes {s ps bd : Int} {ack : Bool} {q : AV} {qs : List Int} (hq : IntS q qs) (h1 : I64 s) (h2 : I64 ps) (hmax : qs.length < 9223372036854775808) (h : Hears s qs ack ps bd) :
    ∃ v, IntS v (qs.drop (ps - s).toNat) ∧ ∀ m, borrowE Gh 17 [.agg [.int .i64 s, q], .agg [.bool ack, .int .i64 ps, .int .i64 bd]] m = some (.tuple [.agg [.int .i64 (s + (ps - s).toNat), v], .int .i64 0], m) := by
  obtain ⟨f1, f2, f3⟩ := spec17 (ack := ack) (bd := bd) hq h1 h2 hmax
  unfold Hears at h
  exact f3 ⟨h.1, h.2.1, h.2.2.1, h.2.2.2.1, h.2.2.2.2.1⟩ (by omega)

theorem hear_any {s ps bd : Int} {ack : Bool} {q : AV} {qs : List Int} (hq : IntS q qs) (h1 : I64 s) (h2 : I64 ps) (hmax : qs.length < 9223372036854775808) :
    ∃ (s' : Int) (v : AV) (vs : List Int) (c : Int), IntS v vs ∧ ∀ m, borrowE Gh 17 [.agg [.int .i64 s, q], .agg [.bool ack, .int .i64 ps, .int .i64 bd]] m = some (.tuple [.agg [.int .i64 s', v], .int .i64 c], m) := by
  by_cases h : Hears s qs ack ps bd
  · obtain ⟨v, hv, g⟩ := hear_yes hq h1 h2 hmax h
    exact ⟨_, v, _, _, hv, g⟩
  · obtain ⟨c, _, g⟩ := hear_no hq h1 h2 hmax h
    exact ⟨_, .snil, [], c, .inl ⟨rfl, rfl⟩, g⟩

theorem overtaken_run {s ps pd qs' qd : Int} {pa qa : Bool} {q : AV} {qs : List Int} (hq : IntS q qs) (h1 : I64 s) (h2 : I64 ps) (h3 : I64 qs') (hmax : qs.length < 9223372036854775808) :
    WF G1 (.func 7 [] []) [.agg [.int .i64 s, q], .agg [.bool pa, .int .i64 ps, .int .i64 pd], .agg [.bool qa, .int .i64 qs', .int .i64 qd]] ⟨[], []⟩ fun y m' => y = .bool true := by
  refine WF.fn rfl (fn_of Try.func7 cir7) (by show 3 ≤ 72; decide) ?_
  unfold ir7
  simp only [padTo, List.replicate, List.nil_append, List.append_nil, List.cons_append]
  refine WC.seq (WC.region ?_)
  repeat (first
    | (refine WO.yes rfl ?_)
    | (refine WO.no rfl ?_; simp only [pt])
    | (refine WO.op (by intro; simp only [go_sem, Zz.look, fillP, over, cut]; rfl) ?_; simp only [pt])
    | (refine WO.opN (by intro; simp only [go_sem, Zz.look, storeAt, over, setBlk, cut]; rfl) ?_))
  refine WO.nil ?_
  simp only [Then]
  refine WC.seq (WC.region ?_)
  refine WO.call rfl rfl (WF.spec rfl (spec10 _) ?_)
  simp only [pt]
  repeat (first
    | (refine WO.yes rfl ?_)
    | (refine WO.no rfl ?_; simp only [pt])
    | (refine WO.op (by intro; simp only [go_sem, Zz.look, fillP, over, cut]; rfl) ?_; simp only [pt])
    | (refine WO.opN (by intro; simp only [go_sem, Zz.look, storeAt, over, setBlk, cut]; rfl) ?_))
  refine WO.nil ?_
  simp only [Then]
  refine WC.seq (WC.region ?_)
  repeat (first
    | (refine WO.yes rfl ?_)
    | (refine WO.no rfl ?_; simp only [pt])
    | (refine WO.op (by intro; simp only [go_sem, Zz.look, fillP, over, cut]; rfl) ?_; simp only [pt])
    | (refine WO.opN (by intro; simp only [go_sem, Zz.look, storeAt, over, setBlk, cut]; rfl) ?_))
  by_cases hA : Hears s qs pa ps pd
  · obtain ⟨v1, hv1, g1⟩ := hear_yes hq h1 h2 hmax hA
    refine WO.call rfl rfl (WF.spec rfl (g1 _) ?_)
    simp only [pt]
    repeat (first
      | (refine WO.yes rfl ?_)
      | (refine WO.no rfl ?_; simp only [pt])
      | (refine WO.op (by intro; simp only [go_sem, Zz.look, fillP, over, cut, hv1.cells]; rfl) ?_; simp only [pt])
      | (refine WO.opN (by intro; simp only [go_sem, Zz.look, storeAt, over, setBlk, cut, hv1.cells]; rfl) ?_))
    refine WO.nil ?_
    simp only [Then]
    refine WC.seq (WC.region ?_)
    repeat (first
      | (refine WO.yes rfl ?_)
      | (refine WO.no rfl ?_; simp only [pt])
      | (refine WO.op (by intro; simp only [go_sem, Zz.look, fillP, over, cut]; rfl) ?_; simp only [pt])
      | (refine WO.opN (by intro; simp only [go_sem, Zz.look, storeAt, over, setBlk, cut]; rfl) ?_))
    by_cases hB : Hears s qs qa qs' qd
    · obtain ⟨v2, hv2, g2⟩ := hear_yes hq h1 h3 hmax hB
      have i1 : I64 (s + (ps - s).toNat) := by unfold I64; unfold Hears at hA; omega
      have i2 : I64 (s + (qs' - s).toNat) := by unfold I64; unfold Hears at hB; omega
      have hA' : Hears (s + (qs' - s).toNat) (qs.drop (qs' - s).toNat) pa ps pd := by
        unfold Hears at hA hB ⊢
        rw [List.length_drop]
        refine ⟨?_, hA.2.1, hA.2.2.1, ?_⟩ <;> omega
      have hB' : Hears (s + (ps - s).toNat) (qs.drop (ps - s).toNat) qa qs' qd := by
        unfold Hears at hA hB ⊢
        rw [List.length_drop]
        refine ⟨?_, hB.2.1, hB.2.2.1, ?_⟩ <;> omega
      obtain ⟨v3, hv3, g3⟩ := hear_yes hv1 i1 h3 (by rw [List.length_drop]; omega) hB'
      obtain ⟨v4, hv4, g4⟩ := hear_yes hv2 i2 h2 (by rw [List.length_drop]; omega) hA'
      have es : s + (ps - s).toNat + (qs' - (s + (ps - s).toNat)).toNat = s + (qs' - s).toNat + (ps - (s + (qs' - s).toNat)).toNat := by omega
      have el : ((qs.drop (ps - s).toNat).drop (qs' - (s + (ps - s).toNat)).toNat) = ((qs.drop (qs' - s).toNat).drop (ps - (s + (qs' - s).toNat)).toNat) := by
        rw [List.drop_drop, List.drop_drop]
        congr 1
        omega
      have hle : s ≤ s + (ps - s).toNat + (qs' - (s + (ps - s).toNat)).toNat := by omega
      have g5 := spec13 (s := s + (ps - s).toNat + (qs' - (s + (ps - s).toNat)).toNat) (k := s + (qs' - s).toNat + (ps - (s + (qs' - s).toNat)).toNat) hv3 hv4 (by rw [List.length_drop, List.length_drop]; omega) (by rw [List.length_drop, List.length_drop]; omega)
      rw [decide_eq_true ⟨es, el⟩] at g5
      refine WO.call rfl rfl (WF.spec rfl (g2 _) ?_)
      simp only [pt]
      repeat (first
        | (refine WO.yes rfl ?_)
        | (refine WO.no rfl ?_; simp only [pt])
        | (refine WO.op (by intro; simp only [go_sem, Zz.look, fillP, over, cut, hv2.cells]; rfl) ?_; simp only [pt])
        | (refine WO.opN (by intro; simp only [go_sem, Zz.look, storeAt, over, setBlk, cut, hv2.cells]; rfl) ?_))
      refine WO.nil ?_
      simp only [Then]
      refine WC.seq (WC.seq (WC.region ?_))
      repeat (first
        | (refine WO.yes rfl ?_)
        | (refine WO.no rfl ?_; simp only [pt])
        | (refine WO.op (by intro; simp only [go_sem, Zz.look, fillP, over, cut, bne_self_eq_false]; rfl) ?_; simp only [pt])
        | (refine WO.opN (by intro; simp only [go_sem, Zz.look, storeAt, over, setBlk, cut, bne_self_eq_false]; rfl) ?_))
      refine WO.nil ?_
      simp only [Then]
      refine WC.no (by simp only [go_sem]) (WC.skip ?_)
      simp only [Then]
      refine WC.seq (WC.region ?_)
      repeat (first
        | (refine WO.yes rfl ?_)
        | (refine WO.no rfl ?_; simp only [pt])
        | (refine WO.op (by intro; simp only [go_sem, Zz.look, fillP, over, cut]; rfl) ?_; simp only [pt])
        | (refine WO.opN (by intro; simp only [go_sem, Zz.look, storeAt, over, setBlk, cut]; rfl) ?_))
      refine WO.call rfl rfl (WF.spec rfl (g3 _) ?_)
      simp only [pt]
      repeat (first
        | (refine WO.yes rfl ?_)
        | (refine WO.no rfl ?_; simp only [pt])
        | (refine WO.op (by intro; simp only [go_sem, Zz.look, fillP, over, cut, hv3.cells]; rfl) ?_; simp only [pt])
        | (refine WO.opN (by intro; simp only [go_sem, Zz.look, storeAt, over, setBlk, cut, hv3.cells]; rfl) ?_))
      refine WO.nil ?_
      simp only [Then]
      refine WC.seq (WC.region ?_)
      repeat (first
        | (refine WO.yes rfl ?_)
        | (refine WO.no rfl ?_; simp only [pt])
        | (refine WO.op (by intro; simp only [go_sem, Zz.look, fillP, over, cut]; rfl) ?_; simp only [pt])
        | (refine WO.opN (by intro; simp only [go_sem, Zz.look, storeAt, over, setBlk, cut]; rfl) ?_))
      refine WO.call rfl rfl (WF.spec rfl (g4 _) ?_)
      simp only [pt]
      repeat (first
        | (refine WO.yes rfl ?_)
        | (refine WO.no rfl ?_; simp only [pt])
        | (refine WO.op (by intro; simp only [go_sem, Zz.look, fillP, over, cut, hv4.cells]; rfl) ?_; simp only [pt])
        | (refine WO.opN (by intro; simp only [go_sem, Zz.look, storeAt, over, setBlk, cut, hv4.cells]; rfl) ?_))
      refine WO.nil ?_
      simp only [Then]
      refine WC.seq (WC.region ?_)
      repeat (first
        | (refine WO.yes rfl ?_)
        | (refine WO.no rfl ?_; simp only [pt])
        | (refine WO.op (by intro; simp only [go_sem, Zz.look, fillP, over, cut]; rfl) ?_; simp only [pt])
        | (refine WO.opN (by intro; simp only [go_sem, Zz.look, storeAt, over, setBlk, cut]; rfl) ?_))
      refine WO.call rfl rfl (WF.spec rfl (g5 _) ?_)
      simp only [pt]
      repeat (first
        | (refine WO.yes rfl ?_)
        | (refine WO.no rfl ?_; simp only [pt])
        | (refine WO.op (by intro; simp only [go_sem, Zz.look, fillP, over, cut, hle, decide_true]; rfl) ?_; simp only [pt])
        | (refine WO.opN (by intro; simp only [go_sem, Zz.look, storeAt, over, setBlk, cut, hle, decide_true]; rfl) ?_))
      refine WO.nil ?_
      simp only [Then]
      refine WC.ret ⟨_, rfl, ?_⟩
      simp [oneRes, gt]
    · obtain ⟨c, hc, g2⟩ := hear_no hq h1 h3 hmax hB
      have hc' : (c != 0) = true := by rcases hc with rfl | rfl <;> decide
      refine WO.call rfl rfl (WF.spec rfl (g2 _) ?_)
      simp only [pt]
      repeat (first
        | (refine WO.yes rfl ?_)
        | (refine WO.no rfl ?_; simp only [pt])
        | (refine WO.op (by intro; simp only [go_sem, Zz.look, fillP, over, cut]; rfl) ?_; simp only [pt])
        | (refine WO.opN (by intro; simp only [go_sem, Zz.look, storeAt, over, setBlk, cut]; rfl) ?_))
      refine WO.nil ?_
      simp only [Then]
      refine WC.seq (WC.seq (WC.region ?_))
      repeat (first
        | (refine WO.yes rfl ?_)
        | (refine WO.no rfl ?_; simp only [pt])
        | (refine WO.op (by intro; simp only [go_sem, Zz.look, fillP, over, cut, bne_self_eq_false, hc']; rfl) ?_; simp only [pt])
        | (refine WO.opN (by intro; simp only [go_sem, Zz.look, storeAt, over, setBlk, cut, bne_self_eq_false, hc']; rfl) ?_))
      refine WO.nil ?_
      simp only [Then]
      refine WC.yes (by simp only [go_sem]) (WC.seq (WC.region ?_))
      repeat (first
        | (refine WO.yes rfl ?_)
        | (refine WO.no rfl ?_; simp only [pt])
        | (refine WO.op (by intro; simp only [go_sem, Zz.look, fillP, over, cut]; rfl) ?_; simp only [pt])
        | (refine WO.opN (by intro; simp only [go_sem, Zz.look, storeAt, over, setBlk, cut]; rfl) ?_))
      refine WO.nil ?_
      simp only [Then]
      refine WC.ret ⟨_, rfl, ?_⟩
      simp [oneRes, gt]
  · obtain ⟨c, hc, g1⟩ := hear_no hq h1 h2 hmax hA
    have hc' : (c != 0) = true := by rcases hc with rfl | rfl <;> decide
    refine WO.call rfl rfl (WF.spec rfl (g1 _) ?_)
    simp only [pt]
    repeat (first
      | (refine WO.yes rfl ?_)
      | (refine WO.no rfl ?_; simp only [pt])
      | (refine WO.op (by intro; simp only [go_sem, Zz.look, fillP, over, cut]; rfl) ?_; simp only [pt])
      | (refine WO.opN (by intro; simp only [go_sem, Zz.look, storeAt, over, setBlk, cut]; rfl) ?_))
    refine WO.nil ?_
    simp only [Then]
    refine WC.seq (WC.region ?_)
    repeat (first
      | (refine WO.yes rfl ?_)
      | (refine WO.no rfl ?_; simp only [pt])
      | (refine WO.op (by intro; simp only [go_sem, Zz.look, fillP, over, cut]; rfl) ?_; simp only [pt])
      | (refine WO.opN (by intro; simp only [go_sem, Zz.look, storeAt, over, setBlk, cut]; rfl) ?_))
    obtain ⟨s2, v2, vs2, k2, hv2, g2⟩ := hear_any (ack := qa) (bd := qd) hq h1 h3 hmax
    refine WO.call rfl rfl (WF.spec rfl (g2 _) ?_)
    simp only [pt]
    repeat (first
      | (refine WO.yes rfl ?_)
      | (refine WO.no rfl ?_; simp only [pt])
      | (refine WO.op (by intro; simp only [go_sem, Zz.look, fillP, over, cut, hv2.cells]; rfl) ?_; simp only [pt])
      | (refine WO.opN (by intro; simp only [go_sem, Zz.look, storeAt, over, setBlk, cut, hv2.cells]; rfl) ?_))
    refine WO.nil ?_
    simp only [Then]
    refine WC.seq (WC.seq (WC.region ?_))
    repeat (first
      | (refine WO.yes rfl ?_)
      | (refine WO.no rfl ?_; simp only [pt])
      | (refine WO.op (by intro; simp only [go_sem, Zz.look, fillP, over, cut, bne_self_eq_false, hc']; rfl) ?_; simp only [pt])
      | (refine WO.opN (by intro; simp only [go_sem, Zz.look, storeAt, over, setBlk, cut, bne_self_eq_false, hc']; rfl) ?_))
    refine WO.nil ?_
    simp only [Then]
    refine WC.yes (by simp only [go_sem]) (WC.seq (WC.region ?_))
    repeat (first
      | (refine WO.yes rfl ?_)
      | (refine WO.no rfl ?_; simp only [pt])
      | (refine WO.op (by intro; simp only [go_sem, Zz.look, fillP, over, cut]; rfl) ?_; simp only [pt])
      | (refine WO.opN (by intro; simp only [go_sem, Zz.look, storeAt, over, setBlk, cut]; rfl) ?_))
    refine WO.nil ?_
    simp only [Then]
    refine WC.ret ⟨_, rfl, ?_⟩
    simp [oneRes, gt]
end Go.Proofs.Ytpddngcgajjacaa

set_option linter.unusedVariables false
namespace Go.Proofs.Ytpddngcgajjacaa
open Go.Zz

theorem own : ownKnob Try.prog.godebug = none := by kernel_rfl
theorem laid : laidOutB Try.prog = true := by kernel_rfl

theorem kinds7 : Try.f7.params.toList.mapM (paramK Try.prog) = some [(true, [.flat (.int .i64), .slice [.int .i64]]), (true, [.flat .bool, .flat (.int .i64), .flat (.int .i64)]), (true, [.flat .bool, .flat (.int .i64), .flat (.int .i64)])] := by kernel_rfl

theorem law7 (avs : List AV) (h : All2 PA [(true, [.flat (.int .i64), .slice [.int .i64]]), (true, [.flat .bool, .flat (.int .i64), .flat (.int .i64)]), (true, [.flat .bool, .flat (.int .i64), .flat (.int .i64)])] avs) : ∃ n m', evF G1 n (.func 7 [] []) avs ⟨[], []⟩ = some (.bool true, m') := by
  obtain ⟨a, l1, rfl, ha, h1⟩ := all2_cons h
  obtain ⟨p, l2, rfl, hp, h2⟩ := all2_cons h1
  obtain ⟨q, l3, rfl, hq, h3⟩ := all2_cons h2
  obtain rfl := all2_nil h3
  obtain ⟨s, q, qs, rfl, c1, c2, c3⟩ := pa_sender ha
  obtain ⟨_, ps, _, rfl, d1, _⟩ := pa_packet hp
  obtain ⟨_, ps', _, rfl, e1, _⟩ := pa_packet hq
  obtain ⟨n, v, m', g, rfl⟩ := (overtaken_run (ps := ps) (qs' := ps') c2 c1 d1 e1 c3).ex
  exact ⟨n, m', g⟩

set_option maxHeartbeats 1600000 in
set_option maxRecDepth 100000 in
theorem lifted7 (os : Os) (started : os.Started) (H : Type) (enc : TypeId × Value → H) :
    ReturnsInHanded {} Try.checked os 7 .any (Rows.linkOvertakenSpec.pre6 enc Try.prog Try.f7 Rows.linkOvertakenRow.domain false) (Rows.linkOvertakenSpec.post enc Try.prog Try.f7 false true false false) := by
  refine returnsInHanded_of_change (C := Try.checked) own started (by kernel_rfl) Try.func7
    (ChangeSpec.witness6 (enc := enc) (C := Try.checked) false ⟨#[], #[.agg #[.int .i64 0, .slice none 0 0], .agg #[.bool false, .int .i64 0, .int .i64 0], .agg #[.bool false, .int .i64 0, .int .i64 0]], []⟩ 8 (by kernel_rfl) (by kernel_rfl) (by kernel_rfl) (by kernel_rfl)) ?_
  intro W base args ds gs before hval hW _ _
  exact law_contract G1_ok kinds7 laid (by kernel_rfl) rfl (fun H ds hd => by
    match ds, hd with
    | [d1, d2, d3], _ => rfl) rfl Try.underlying4 hval hW law7

theorem linkOvertaken_holds : Rows.LinkOvertakenSaid :=
  OpenClaim.holds_of_wide 7 Try.f7 rfl rfl rfl rfl rfl rfl rfl ⟨rfl, rfl, rfl, rfl, rfl⟩ rfl rfl rfl rfl rfl (by kernel_rfl) Try.func7 (by kernel_rfl)
    (of_decide_eq_true (by kernel_rfl)) (by unfold Func.isWrapper; first | (rw [if_pos (by decide +kernel)]; kernel_rfl) | (rw [if_neg (by decide +kernel)]; exact ⟨rfl, rfl⟩))
    (fun os started H enc _ => lifted7 os started H enc)

#print axioms linkOvertaken_holds
end Go.Proofs.Ytpddngcgajjacaa

