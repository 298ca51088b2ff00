import Derived.Test.YtpddngcgajjacaaL29c
set_option linter.unusedSimpArgs false
set_option linter.unusedVariables false
namespace Go.Proofs.Ytpddngcgajjacaa
open Go.Zz

theorem IntS.from {x : AV} {xs : List Int} (h : IntS x xs) {n : Nat} (hn : n ≤ xs.length) : ∃ y, IntS y (xs.drop n) ∧ ∀ H, sliceAV H 1 x (some (.int .i64 (n : Int))) none none = some y := by
  rcases h with ⟨rfl, rfl⟩ | ⟨full, rfl⟩
  · have : n = 0 := by simpa using hn
    subst this
    exact ⟨.snil, .inl ⟨rfl, rfl⟩, fun H => by simp [sliceAV, bnds, bndO, bnd]⟩
  · refine ⟨_, .inr ⟨full, rfl⟩, fun H => ?_⟩
    simp only [sliceAV, List.length_map, Nat.mul_one, if_true, bnds, bndO, bnd]
    rw [if_pos ⟨by omega, by omega⟩]
    cases full <;> simp [List.take_of_length_le]

theorem IntS.cells {x : AV} {xs : List Int} (h : IntS x xs) : x.cells = some [x] := by
  rcases h with ⟨rfl, _⟩ | ⟨f, rfl⟩ <;> rfl

theorem limit_slice {T : List AV} {sz : Nat} {x : Opd} {a b c : Option Opd} {H : Hp} {xs : List Int} (h : IntS (x.ev T) xs) : limit T (.slice sz x a b c) H = blanks H := by
  unfold limit
  rcases h with ⟨h, _⟩ | ⟨f, h⟩ <;> simp only [h]

theorem hear_good {Γ : Env} (h26 : Spec26 Γ) (h28 : Spec28 Γ) {s ps : Int} {q : AV} {qs : List Int} (hs : Γ.spec 17 = none) (hf : Γ.fn 17 = some ir17) (hq : IntS q qs) (h1 : I64 s) (h2 : I64 ps) (hmax : qs.length < 9223372036854775808)
    (cV : 0 ≤ s ∧ s ≤ 1000 ∧ (qs.length : Int) ≤ 1000 - s) (c1 : ¬ ps < 0) (c2 : ¬ 1000 < ps) (c3 : ¬ (qs.length : Int) < ps - s) :
    ∃ v, IntS v (qs.drop (ps - s).toNat) ∧ WF Γ (.func 17 [] []) [.agg [.int .i64 s, q], .agg [.bool true, .int .i64 ps, .int .i64 0]] ⟨[], []⟩ fun y m' => y = .tuple [.agg [.int .i64 (s + (ps - s).toNat), v], .int .i64 0] := by
  obtain ⟨S, hS, h26⟩ := h26
  obtain ⟨S2, hS2, h28⟩ := h28
  obtain ⟨y, hy, hsl⟩ := hq.from (n := (ps - s).toNat) (by omega)
  obtain ⟨v, hv, hS3⟩ := h28 y _ hy (by simp; omega)
  have hvc := hv.cells
  simp only [AV.cells] at hvc
  refine ⟨v, hv, ?_⟩
  have hw := wrap_id (n := ps - s) (by omega) (by omega)
  refine WF.fn hs hf (by show 2 ≤ 56; decide) ?_
  unfold ir17
  simp only [padTo, List.replicate, List.nil_append, List.append_nil, List.cons_append]
  refine WC.seq (WC.region ?_)
  repeat (first
    | (refine WO.yes rfl ?_)
    | (refine WO.no rfl ?_; simp only [pt])
    | (refine WO.op (by intro; simp only [go_sem, Zz.look, fillP, over, cut]; rfl) ?_; simp only [pt])
    | (refine WO.opN (by intro; simp only [go_sem, Zz.look, storeAt, over, setBlk, cut]; rfl) ?_))
  refine WO.nil ?_
  simp only [Then]
  refine WC.seq (WC.seq (WC.region ?_))
  refine WO.op (by intro; simp only [go_sem, Zz.look, cut, List.drop_zero]; rfl) ?_
  simp only [pt]
  refine WO.call rfl rfl (WF.spec hS (h26 s q qs _ hq h1 hmax) ?_)
  simp only [pt]
  repeat (first
    | (refine WO.yes rfl ?_)
    | (refine WO.no rfl ?_; simp only [pt])
    | (refine WO.op (by intro; simp only [go_sem, Zz.look, fillP, over, cut, cV, and_self, decide_true, c1, c2, decide_false, bne_self_eq_false]; rfl) ?_; simp only [pt])
    | (refine WO.opN (by intro; simp only [go_sem, Zz.look, storeAt, over, setBlk, cut, cV, and_self, decide_true, c1, c2, decide_false, bne_self_eq_false]; rfl) ?_))
  refine WO.nil ?_
  simp only [Then]
  refine WC.no (by simp only [go_sem]) (WC.skip ?_)
  simp only [Then]
  refine WC.seq (WC.region ?_)
  repeat (first
    | (refine WO.yes rfl ?_)
    | (refine WO.no rfl ?_; simp only [pt])
    | (refine WO.op (by intro; simp only [go_sem, Zz.look, fillP, over, cut, hw]; rfl) ?_; simp only [pt])
    | (refine WO.opN (by intro; simp only [go_sem, Zz.look, storeAt, over, setBlk, cut, hw]; rfl) ?_))
  refine WO.nil ?_
  simp only [Then]
  refine WC.seq (WC.block (WC.seq (WC.region ?_)))
  iterate 3
    refine WO.op (by intro; simp only [go_sem, Zz.look]; rfl) ?_
    simp only [pt]
  refine WO.op (by intro; rw [ev_lenS (n := qs.length) (by simp only [go_sem]; exact hq.len)]) ?_
  simp only [pt]
  repeat (first
    | (refine WO.yes rfl ?_)
    | (refine WO.no rfl ?_; simp only [pt])
    | (refine WO.op (by intro; simp only [go_sem, Zz.look, fillP, over, cut, c3, decide_false]; rfl) ?_; simp only [pt])
    | (refine WO.opN (by intro; simp only [go_sem, Zz.look, storeAt, over, setBlk, cut, c3, decide_false]; rfl) ?_))
  refine WO.nil ?_
  simp only [Then]
  refine WC.no (by simp only [go_sem]) (WC.seq (WC.region ?_))
  by_cases c4 : ps - s < 0
  · have hz : (ps - s).toNat = 0 := by omega
    have hw2 := wrap_id (n := s + 0) (by omega) (by omega)
    rw [hz] at hsl
    have hsl0 : ∀ H, sliceAV H 1 q (some (.int .i64 0)) none none = some y := hsl
    repeat (first
      | (refine WO.yes rfl ?_)
      | (refine WO.no rfl ?_; simp only [pt])
      | (refine WO.op (by intro; simp only [go_sem, Zz.look, fillP, over, cut, c4, decide_true]; rfl) ?_; simp only [pt])
      | (refine WO.opN (by intro; simp only [go_sem, Zz.look, storeAt, over, setBlk, cut, c4, decide_true]; rfl) ?_))
    refine WO.nil ?_
    simp only [Then]
    refine WC.yes (by simp only [go_sem]) (WC.region ?_)
    repeat (first
      | (refine WO.yes rfl ?_)
      | (refine WO.no rfl ?_; simp only [pt])
      | (refine WO.op (by intro; simp only [go_sem, Zz.look, fillP, over, cut]; rfl) ?_; simp only [pt])
      | (refine WO.opN (by intro; simp only [go_sem, Zz.look, storeAt, over, setBlk, cut]; rfl) ?_))
    refine WO.nil ?_
    simp only [Out, Then]
    try simp only [Out, Then]
    refine WC.seq (WC.draw ?_)
    refine WD.free rfl (by intro; simp only [go_sem]; rfl) ?_
    simp only [pt, St.put, List.nil_append, List.cons_append]
    refine WD.bigG rfl (by simp only [limit, strikes, blanks, onlyAt, List.map, go_sem]; rfl) (by intro; simp only [go_sem, Zz.look, storeAt, setBlk, over, cut]; rfl) rfl (by simp only [back]; rfl) (by simp only [go_sem]; rfl) ?_
    simp only [pt, St.put, List.nil_append, List.cons_append]
    refine WD.free rfl (by intro; simp only [go_sem, fillP, over, cut, hw2]; rfl) ?_
    simp only [pt, St.put, List.nil_append, List.cons_append]
    refine WD.free rfl (by intro; simp only [go_sem, fillP, over, cut, hw2]; rfl) ?_
    simp only [pt, St.put, List.nil_append, List.cons_append]
    refine WD.free rfl (by intro; simp only [go_sem, fillP, over, cut, hw2]; rfl) ?_
    simp only [pt, St.put, List.nil_append, List.cons_append]
    refine WD.bigG rfl (by simp only [limit, strikes, blanks, onlyAt, List.map, go_sem]; rfl) (by intro; simp only [go_sem, Zz.look, storeAt, setBlk, over, cut]; rfl) rfl (by simp only [back]; rfl) (by simp only [go_sem]; rfl) ?_
    simp only [pt, St.put, List.nil_append, List.cons_append]
    refine WD.free rfl (by intro; simp only [go_sem, fillP, over, cut, hw2]; rfl) ?_
    simp only [pt, St.put, List.nil_append, List.cons_append]
    refine WD.bigG rfl (limit_slice (xs := qs) hq) (by intro; simp only [go_sem, Option.map_none, hsl0]; rfl) rfl (by simp only [back, blanks, strikes, List.map]; rfl) (by simp only [go_sem, blanks, strikes, List.map]; rfl) ?_
    simp only [pt, St.put, List.nil_append, List.cons_append]
    refine WD.call (by simp only [strikes, strike, strikeV, List.getElem?_cons_zero, List.getElem?_cons_succ, Nat.lt_irrefl, if_false]; rfl) ?_
    simp only [go_sem, List.map]
    refine WF.spec hS2 (hS3 _) ⟨rfl, ?_⟩
    simp only [pt, St.put, back, List.nil_append, List.cons_append]
    refine WD.free rfl (by intro; simp only [go_sem, fillP, over, cut, hvc, Option.bind_eq_bind, hw2]; rfl) ?_
    simp only [pt, St.put, List.nil_append, List.cons_append]
    refine WD.bigG rfl (by simp only [limit, strikes, blanks, onlyAt, List.map, go_sem]; rfl) (by intro; simp only [go_sem, Zz.look, storeAt, setBlk, over, cut]; rfl) rfl rfl rfl ?_
    simp only [pt, St.put, List.nil_append, List.cons_append]
    refine WD.free rfl (by intro; simp only [go_sem, fillP, over, cut, hw2]; rfl) ?_
    simp only [pt, St.put, List.nil_append, List.cons_append]
    refine WD.nil ?_
    simp only [Then]
    refine WC.ret ?_
    refine ⟨_, rfl, ?_⟩
    simp [oneRes, hz, gt]
  · have hw2 := wrap_id (n := s + (ps - s)) (by omega) (by omega)
    have hsl' := hsl
    rw [Int.toNat_of_nonneg (by omega)] at hsl'
    repeat (first
      | (refine WO.yes rfl ?_)
      | (refine WO.no rfl ?_; simp only [pt])
      | (refine WO.op (by intro; simp only [go_sem, Zz.look, fillP, over, cut, c4, decide_false]; rfl) ?_; simp only [pt])
      | (refine WO.opN (by intro; simp only [go_sem, Zz.look, storeAt, over, setBlk, cut, c4, decide_false]; rfl) ?_))
    refine WO.nil ?_
    simp only [Then]
    refine WC.no (by simp only [go_sem]) (WC.skip ?_)
    try simp only [Out, Then]
    refine WC.seq (WC.draw ?_)
    refine WD.free rfl (by intro; simp only [go_sem]; rfl) ?_
    simp only [pt, St.put, List.nil_append, List.cons_append]
    refine WD.bigG rfl (by simp only [limit, strikes, blanks, onlyAt, List.map, go_sem]; rfl) (by intro; simp only [go_sem, Zz.look, storeAt, setBlk, over, cut]; rfl) rfl (by simp only [back]; rfl) (by simp only [go_sem]; rfl) ?_
    simp only [pt, St.put, List.nil_append, List.cons_append]
    refine WD.free rfl (by intro; simp only [go_sem, fillP, over, cut, hw2]; rfl) ?_
    simp only [pt, St.put, List.nil_append, List.cons_append]
    refine WD.free rfl (by intro; simp only [go_sem, fillP, over, cut, hw2]; rfl) ?_
    simp only [pt, St.put, List.nil_append, List.cons_append]
    refine WD.free rfl (by intro; simp only [go_sem, fillP, over, cut, hw2]; rfl) ?_
    simp only [pt, St.put, List.nil_append, List.cons_append]
    refine WD.bigG rfl (by simp only [limit, strikes, blanks, onlyAt, List.map, go_sem]; rfl) (by intro; simp only [go_sem, Zz.look, storeAt, setBlk, over, cut]; rfl) rfl (by simp only [back]; rfl) (by simp only [go_sem]; rfl) ?_
    simp only [pt, St.put, List.nil_append, List.cons_append]
    refine WD.free rfl (by intro; simp only [go_sem, fillP, over, cut, hw2]; rfl) ?_
    simp only [pt, St.put, List.nil_append, List.cons_append]
    refine WD.bigG rfl (limit_slice (xs := qs) hq) (by intro; simp only [go_sem, Option.map_none, hsl']; rfl) rfl (by simp only [back, blanks, strikes, List.map]; rfl) (by simp only [go_sem, blanks, strikes, List.map]; rfl) ?_
    simp only [pt, St.put, List.nil_append, List.cons_append]
    refine WD.call (by simp only [strikes, strike, strikeV, List.getElem?_cons_zero, List.getElem?_cons_succ, Nat.lt_irrefl, if_false]; rfl) ?_
    simp only [go_sem, List.map]
    refine WF.spec hS2 (hS3 _) ⟨rfl, ?_⟩
    simp only [pt, St.put, back, List.nil_append, List.cons_append]
    refine WD.free rfl (by intro; simp only [go_sem, fillP, over, cut, hvc, Option.bind_eq_bind, hw2]; rfl) ?_
    simp only [pt, St.put, List.nil_append, List.cons_append]
    refine WD.bigG rfl (by simp only [limit, strikes, blanks, onlyAt, List.map, go_sem]; rfl) (by intro; simp only [go_sem, Zz.look, storeAt, setBlk, over, cut]; rfl) rfl rfl rfl ?_
    simp only [pt, St.put, List.nil_append, List.cons_append]
    refine WD.free rfl (by intro; simp only [go_sem, fillP, over, cut, hw2]; rfl) ?_
    simp only [pt, St.put, List.nil_append, List.cons_append]
    refine WD.nil ?_
    simp only [Then]
    refine WC.ret ?_
    refine ⟨_, rfl, ?_⟩
    simp [oneRes, gt]
    omega
end Go.Proofs.Ytpddngcgajjacaa
