import Derived.Test.YtgchabldcnmccacGreatDoorLNC

set_option linter.unusedSimpArgs false
set_option linter.unusedVariables false

set_option maxRecDepth 100000
set_option maxHeartbeats 8000000
namespace Go.Proofs.YtgchabldcnmccacGreatDoor.Ln
open Go.Zz
section
variable {Γ : Env} {H : Hp} {L : List (Option ALoop)} {n0 : Nat}
theorem pcells_at {ps : List Pkt} {rest : List AV} {i : Nat} (hi : i < ps.length) : ((pcells ps ++ rest).drop (i * 3)).take 3 = pk ps[i] := by
 rw [List.drop_append_of_le_length (by rw [pcells_len]; omega), pcells_drop, List.take_append_of_le_length (by rw [pcells_len, List.length_drop]; omega), List.drop_eq_getElem_cons hi]
 rfl
theorem look3 {X : Hp} {a b c : Option Blk} {n : Nat} (h : X.length = n) : Zz.look (X ++ [a, b, c]) n 0 = Zz.look [a, b, c] 0 0 ∧ Zz.look (X ++ [a, b, c]) (n + 2) 0 = Zz.look [a, b, c] 2 0 := by
 subst h
 exact ⟨look_right0, look_right⟩
theorem set3 {X : Hp} {a b c d : Option Blk} {n : Nat} (h : X.length = n) : (X ++ [a, b, c]).set n d = X ++ [d, b, c] ∧ (X ++ [a, b, c]).set (n + 2) d = X ++ [a, b, d] := by
 subst h
 constructor
 ·rw [List.set_append_right (h := Nat.le_refl _)]; simp
 ·rw [List.set_append_right (h := by omega)]; simp
theorem at_none (hs : Γ.spec 24 = none) (hf : Γ.fn 24 = some ir24) {r o pl : Nat} {C : List AV} {it : AV} {stays : Bool} (hC : Zz.look H r 0 = some C) (ho : C[o]? = some it) (hq : QS n0 H it []) :
  WF Γ (.func 24 [] []) [.pref r 0 o, .int .i64 pl, .bool stays] ⟨H, L⟩ fun y m' => y = .tuple [.agg [.bool false, .int .i64 0, .int .i64 0], .bool false] ∧ ∃ R, m' = ⟨H ++ R, L⟩ := by
 have hr0 := look_lt hC
 have hC2 : ∀ R, Zz.look (H ++ R) r 0 = some C := fun R => by rw [look_left hr0]; exact hC
 have hlen : slen it = some 0 := by rcases hq with ⟨rfl, _⟩ | ⟨f, g, rest, rfl, _⟩ <;> rfl
 refine WF.fn hs hf (by show 3 ≤ 46; decide) ?_
 unfold ir24; dsimp only [k0, kI, mV, oO, oG]
 simp only [padTo, List.replicate, List.nil_append, List.append_nil]
 refine WC.seq (WC.region ?_)
 repeat (first
  | (refine WO.op (by intro; simp only [go_sem]; rfl) ?_; simp only [pt]))
 refine WO.nil ?_
 simp only [Then]
 refine WC.seq (WC.region ?_)
 repeat (first
  | (refine WO.op (by intro; simp only [go_sem]; rfl) ?_; simp only [pt]))
 refine WO.nil ?_
 simp only [Then]
 refine WC.seq (WC.seq (WC.region ?_))
 simp only [List.append_assoc, List.cons_append, List.nil_append, List.length_append, List.length_cons, List.length_nil, Nat.zero_add]
 repeat (first
  | (refine WO.op (by intro; simp only [go_sem, cut, nilCheckAV, hC2, ho]; rfl) ?_; simp only [pt]))
 refine WO.op (by intro; exact ev_lenS (n := 0) (by simp only [go_sem]; exact hlen)) ?_
 simp only [pt]
 repeat (first
  | (refine WO.op (by intro; simp only [go_sem]; rfl) ?_; simp only [pt]))
 refine WO.nil ?_
 simp only [Then]
 refine WC.yes rfl (WC.seq (WC.region ?_))
 have e1 : Zz.look (H ++ [some (Blk.mk 0 [.bool false, .int .i64 0, .int .i64 0]), some (Blk.mk 0 [.bool false, .int .i64 0, .int .i64 0])]) (H.length + 1) 0 = some [.bool false, .int .i64 0, .int .i64 0] := by rw [look_right]; rfl
 have e2 : Zz.look (H ++ [some (Blk.mk 0 [.bool false, .int .i64 0, .int .i64 0]), some (Blk.mk 0 [.bool false, .int .i64 0, .int .i64 0])]) H.length 0 = some [.bool false, .int .i64 0, .int .i64 0] := by rw [look_right0]; rfl
 refine WO.op (by intro; rw [ev_load]; simp only [go_sem, e1, cut]; rfl) ?_
 simp only [pt]
 refine WO.opN (by intro; rw [ev_store]; simp only [go_sem, storeAt, Option.bind_eq_bind, e2, over]; rfl) ?_
 repeat (first
  | (refine WO.op (by intro; simp only [go_sem]; rfl) ?_; simp only [pt]))
 refine WO.nil ?_
 simp only [Then]
 have e3 : setBlk (H ++ [some (Blk.mk 0 [.bool false, .int .i64 0, .int .i64 0]), some (Blk.mk 0 [.bool false, .int .i64 0, .int .i64 0])]) H.length 0 [.bool false, .int .i64 0, .int .i64 0] = H ++ [some (Blk.mk 0 [.bool false, .int .i64 0, .int .i64 0]), some (Blk.mk 0 [.bool false, .int .i64 0, .int .i64 0])] := by
  unfold setBlk
  rw [List.set_append_right (h := Nat.le_refl _)]
  simp
 refine WC.ret ⟨[.agg [.bool false, .int .i64 0, .int .i64 0], .bool false], ?_, rfl, _, congrArg (fun h => Mem.mk h L) e3⟩
 simp only [evRes, gt, List.take, List.nil_append, List.drop, List.length_cons, List.length_nil, List.cons_append, e3, e2]
 rfl
theorem at_some (hs : Γ.spec 24 = none) (hf : Γ.fn 24 = some ir24) (hs2 : Γ.spec 48 = none) (hf2 : Γ.fn 48 = some ir48) {r o pl f g : Nat} {C : List AV} {ps : List Pkt} {rest : List AV} {stays : Bool} (hC : Zz.look H r 0 = some C) (ho : C[o]? = some (.sref f g 0 3 ps.length none)) (hl : Zz.look H f g = some (pcells ps ++ rest)) (hfr : f ≠ r)
  (hmax : ps.length ≤ 1000000) (hi : pl % ps.length < ps.length) :
  WF Γ (.func 24 [] []) [.pref r 0 o, .int .i64 pl, .bool stays] ⟨H, L⟩ fun y m' => y = .tuple [.agg (pk ps[pl % ps.length]), .bool true] ∧
   if stays then ∃ R, m' = ⟨H ++ R, L⟩ else ∃ rest' R, m' = ⟨(H.set f (some ⟨g, pcells (ps.eraseIdx (pl % ps.length)) ++ rest'⟩)).set r (some ⟨0, C.set o (.sref f g 0 3 (ps.length - 1) none)⟩) ++ R, L⟩ := by
 have hr0 := look_lt hC
 have hf0 := look_lt hl
 have hoC : o < C.length := (List.getElem?_eq_some_iff.1 ho).1
 have hC2 : ∀ R, Zz.look (H ++ R) r 0 = some C := fun R => by rw [look_left hr0]; exact hC
 have hl2 : ∀ R, Zz.look (H ++ R) f g = some (pcells ps ++ rest) := fun R => by rw [look_left hf0]; exact hl
 have hpos : 0 < ps.length := by
  rcases Nat.eq_zero_or_pos ps.length with h | h
  ·rw [h] at hi; exact absurd hi (by omega)
  ·exact h
 have hn0' : ¬ ((ps.length : Int) = 0) := by omega
 have hne : ((ps.length : Int) == 0) = false := by simpa using hn0'
 have hmod : Int.tmod (pl : Int) (ps.length : Int) = ((pl % ps.length : Nat) : Int) := rfl
 have hcell := pcells_at (rest := rest) hi
 have hwi : IntKind.wrap .i64 (((pl % ps.length : Nat) : Int) + 1) = ((pl % ps.length + 1 : Nat) : Int) := by rw [wrap_id (by omega) (by omega)]; rfl
 have hlenl : (pl % ps.length) * 3 + 3 ≤ (pcells ps ++ rest).length := by rw [List.length_append, pcells_len]; omega
 generalize hp : ps[pl % ps.length] = p at hcell ⊢
 obtain ⟨pa, psq, pb⟩ := p
 simp only [pk] at hcell ⊢
 generalize hi' : pl % ps.length = i at hi hmod hcell hwi hlenl ⊢
 have hidx : indexAddrAV 3 (.sref f g 0 3 ps.length none) (.int .i64 (i : Int)) = some (.pref f g (i * 3)) := by
  simp only [indexAddrAV, if_true, idx]
  rw [if_pos ⟨by omega, by omega⟩]
  simp
 have hld : ∀ R, loadAV (H ++ R) true 3 (.pref f g (i * 3)) = some (.agg [.bool pa, .int .i64 psq, .int .i64 pb]) := fun R => by
  simp only [loadAV, hl2, Option.bind_some, loadCs, if_true, cut]
  rw [if_pos hlenl, hcell]
  rfl
 have l3 := fun (X : Hp) (a b c : Option Blk) (h : X.length = H.length) => look3 (a := a) (b := b) (c := c) h
 have s3 := fun (X : Hp) (a b c d : Option Blk) (h : X.length = H.length) => set3 (a := a) (b := b) (c := c) (d := d) h
 have q1 : Zz.look (H ++ [some (Blk.mk 0 [.bool false, .int .i64 0, .int .i64 0]), some (Blk.mk 0 [.bool false, .int .i64 0, .int .i64 0]), some (Blk.mk 0 [.bool false, .int .i64 0, .int .i64 0])]) (H.length + 2) 0 = some [.bool false, .int .i64 0, .int .i64 0] := (l3 _ _ _ _ rfl).2
 have q2 : (H ++ [some (Blk.mk 0 [.bool false, .int .i64 0, .int .i64 0]), some (Blk.mk 0 [.bool false, .int .i64 0, .int .i64 0]), some (Blk.mk 0 [.bool false, .int .i64 0, .int .i64 0])]).set (H.length + 2) (some (Blk.mk 0 [.bool pa, .int .i64 psq, .int .i64 pb])) = H ++ [some (Blk.mk 0 [.bool false, .int .i64 0, .int .i64 0]), some (Blk.mk 0 [.bool false, .int .i64 0, .int .i64 0]), some (Blk.mk 0 [.bool pa, .int .i64 psq, .int .i64 pb])] := (s3 _ _ _ _ _ rfl).2
 have fin : ∀ X : Hp, X.length = H.length → Zz.look (X ++ [some (Blk.mk 0 [.bool false, .int .i64 0, .int .i64 0]), some (Blk.mk 0 [.bool false, .int .i64 0, .int .i64 0]), some (Blk.mk 0 [.bool pa, .int .i64 psq, .int .i64 pb])]) (H.length + 2) 0 = some [.bool pa, .int .i64 psq, .int .i64 pb] ∧ Zz.look (X ++ [some (Blk.mk 0 [.bool false, .int .i64 0, .int .i64 0]), some (Blk.mk 0 [.bool false, .int .i64 0, .int .i64 0]), some (Blk.mk 0 [.bool pa, .int .i64 psq, .int .i64 pb])]) H.length 0 = some [.bool false, .int .i64 0, .int .i64 0] ∧ (X ++ [some (Blk.mk 0 [.bool false, .int .i64 0, .int .i64 0]), some (Blk.mk 0 [.bool false, .int .i64 0, .int .i64 0]), some (Blk.mk 0 [.bool pa, .int .i64 psq, .int .i64 pb])]).set H.length (some (Blk.mk 0 [.bool pa, .int .i64 psq, .int .i64 pb])) = X ++ [some (Blk.mk 0 [.bool pa, .int .i64 psq, .int .i64 pb]), some (Blk.mk 0 [.bool false, .int .i64 0, .int .i64 0]), some (Blk.mk 0 [.bool pa, .int .i64 psq, .int .i64 pb])] ∧ Zz.look (X ++ [some (Blk.mk 0 [.bool pa, .int .i64 psq, .int .i64 pb]), some (Blk.mk 0 [.bool false, .int .i64 0, .int .i64 0]), some (Blk.mk 0 [.bool pa, .int .i64 psq, .int .i64 pb])]) H.length 0 = some [.bool pa, .int .i64 psq, .int .i64 pb] :=
  fun X h => ⟨(l3 _ _ _ _ h).2, (l3 _ _ _ _ h).1, (s3 _ _ _ _ _ h).1, (l3 _ _ _ _ h).1⟩
 refine WF.fn hs hf (by show 3 ≤ 46; decide) ?_
 unfold ir24; dsimp only [k0, kI, mV, oO, oG]
 simp only [padTo, List.replicate, List.nil_append, List.append_nil]
 refine WC.seq (WC.region ?_)
 repeat (first
  | (refine WO.op (by intro; simp only [go_sem]; rfl) ?_; simp only [pt]))
 refine WO.nil ?_
 simp only [Then]
 refine WC.seq (WC.region ?_)
 repeat (first
  | (refine WO.op (by intro; simp only [go_sem]; rfl) ?_; simp only [pt]))
 refine WO.nil ?_
 simp only [Then]
 refine WC.seq (WC.seq (WC.region ?_))
 simp only [List.append_assoc, List.cons_append, List.nil_append, List.length_append, List.length_cons, List.length_nil, Nat.zero_add]
 repeat (first
  | (refine WO.op (by intro; simp only [go_sem, cut, nilCheckAV, hC2, ho]; rfl) ?_; simp only [pt])
  | (refine WO.op (by intro; exact ev_lenS rfl) ?_; simp only [pt]))
 skip
 refine WO.nil ?_
 simp only [Then]
 refine WC.no (by simp only [go_sem, hne]) (WC.skip ?_)
 simp only [Then]
 refine WC.seq (WC.region ?_)
 repeat (first
  | (refine WO.op (by intro; simp only [go_sem, cut, nilCheckAV, hC2, ho, hn0', hmod]; rfl) ?_; simp only [pt])
  | (refine WO.op (by intro; exact ev_lenS rfl) ?_; simp only [pt]))
 refine WO.nil ?_
 simp only [Then]
 refine WC.seq (WC.region ?_)
 repeat (first
  | (refine WO.op (by intro; simp only [go_sem, cut, nilCheckAV, hC2, ho, hidx]; rfl) ?_; simp only [pt]))
 refine WO.op (by intro; rw [ev_load]; exact (congrArg (Option.map _) (hld _)).trans rfl) ?_
 simp only [pt]
 repeat (first
  | (refine WO.op (by intro; simp only [go_sem]; rfl) ?_; simp only [pt]))
 simp only [List.append_assoc, List.cons_append, List.nil_append, List.length_append, List.length_cons, List.length_nil, Nat.zero_add, Nat.reduceAdd]
 refine WO.opN (by intro; rw [ev_store]; simp only [go_sem, storeAt, Option.bind_eq_bind, q1, over, setBlk]; rfl) ?_
 refine WO.nil ?_
 simp only [Then]
 simp only [List.take, List.cons_append, List.nil_append, List.drop]
 rw [q2]
 refine WC.seq (WC.seq (WC.region ?_))
 repeat (first
  | (refine WO.op (by intro; simp only [go_sem]; rfl) ?_; simp only [pt]))
 refine WO.nil ?_
 simp only [Then]
 cases stays with
 | true =>
  refine WC.no rfl (WC.skip ?_)
  simp only [Then]
  obtain ⟨f1, f2, f3, f4⟩ := fin H rfl
  refine WC.seq (WC.region ?_)
  refine WO.op (by intro; rw [ev_load]; simp only [go_sem, f1, cut]; rfl) ?_
  simp only [pt]
  refine WO.opN (by intro; rw [ev_store]; simp only [go_sem, storeAt, Option.bind_eq_bind, f2, over, setBlk]; rfl) ?_
  repeat (first
   | (refine WO.op (by intro; simp only [go_sem]; rfl) ?_; simp only [pt]))
  refine WO.nil ?_
  simp only [Then]
  simp only [List.take, List.cons_append, List.nil_append, List.length_cons, List.length_nil, Nat.zero_add, Nat.reduceAdd, List.drop]
  rw [f3]
  refine WC.ret ⟨[.agg [.bool pa, .int .i64 psq, .int .i64 pb], .bool true], ?_, rfl, _, rfl⟩
  simp only [evRes, gt, f4]
  rfl
 | false =>
  refine WC.yes rfl (WC.region ?_)
  repeat (first
   | (refine WO.op (by intro; simp only [go_sem, cut, nilCheckAV, hC2, ho, hwi]; rfl) ?_; simp only [pt]))
  refine WO.call rfl rfl ((del_run (L := L) hs2 hf2 (hl2 _) hi).mono ?_)
  rintro y m' ⟨rfl, rest', rfl⟩
  simp only [pt]
  rw [set_left hf0]
  have hC3 : ∀ b R, Zz.look (H.set f b ++ R) r 0 = some C := fun b R => by
   rw [look_left (by simpa using hr0), ← hC]
   exact look_of_get (List.getElem?_set_ne hfr)
  have hov := over_one (x := AV.sref f g 0 3 (ps.length - 1) none) hoC
  have hset : ∀ b c R, (H.set f b ++ R).set r c = (H.set f b).set r c ++ R := fun b c R => set_left (by simpa using hr0)
  repeat (first
   | (refine WO.op (by intro; simp only [go_sem, nilCheckAV]; rfl) ?_; simp only [pt]))
  refine WO.opN (by intro; rw [ev_store]; simp only [go_sem, storeAt, hC3, hov, Option.bind_eq_bind, setBlk, hset]; rfl) ?_
  refine WO.nil ?_
  simp only [Then]
  obtain ⟨f1, f2, f3, f4⟩ := fin ((H.set f (some ⟨g, pcells (ps.eraseIdx i) ++ rest'⟩)).set r (some ⟨0, C.set o (.sref f g 0 3 (ps.length - 1) none)⟩)) (by simp)
  refine WC.seq (WC.region ?_)
  refine WO.op (by intro; rw [ev_load]; simp only [go_sem, f1, cut]; rfl) ?_
  simp only [pt]
  refine WO.opN (by intro; rw [ev_store]; simp only [go_sem, storeAt, Option.bind_eq_bind, f2, over, setBlk]; rfl) ?_
  repeat (first
   | (refine WO.op (by intro; simp only [go_sem]; rfl) ?_; simp only [pt]))
  refine WO.nil ?_
  simp only [Then]
  simp only [List.take, List.cons_append, List.nil_append, List.length_cons, List.length_nil, Nat.zero_add, Nat.reduceAdd, List.drop]
  rw [f3]
  refine WC.ret ⟨[.agg [.bool pa, .int .i64 psq, .int .i64 pb], .bool true], ?_, rfl, _, _, rfl⟩
  simp only [evRes, gt, f4]
  rfl
end
end Go.Proofs.YtgchabldcnmccacGreatDoor.Ln


set_option maxRecDepth 100000
set_option maxHeartbeats 8000000
namespace Go.Proofs.YtgchabldcnmccacGreatDoor.Ln
open Go.Zz
def takeAt (ps : List Pkt) (pl : Nat) (stays : Bool) : Option Pkt × List Pkt :=
 match ps[pl % ps.length]? with
 | none => (none, ps)
 | some p => (some p, if stays then ps else ps.eraseIdx (pl % ps.length))
def resAt : Option Pkt → AV
 | none => .tuple [.agg [.bool false, .int .i64 0, .int .i64 0], .bool false]
 | some p => .tuple [.agg (pk p), .bool true]
section
variable {Γ : Env} {H : Hp} {L : List (Option ALoop)} {n0 : Nat}
theorem QS.app {it : AV} {ps : List Pkt} (h : QS n0 H it ps) (R : Hp) : QS n0 (H ++ R) it ps := by
 rcases h with h | ⟨f, g, rest, h1, h2, h3⟩
 ·exact .inl h
 ·exact .inr ⟨f, g, rest, h1, h2, by rw [look_left (look_lt h3)]; exact h3⟩
theorem QS.own {it : AV} {ps : List Pkt} (h : QS n0 H it ps) {id : Nat} (ho : owns it id) : n0 ≤ id ∧ id < H.length := by
 rcases h with ⟨rfl, _⟩ | ⟨f, g, rest, rfl, h2, h3⟩
 ·exact (owns_snil ho).elim
 ·rw [owns_sref ho]; exact ⟨h2, look_lt h3⟩
theorem QS.same {H' : Hp} {it : AV} {ps : List Pkt} {S : Nat → Prop} (h : QS n0 H it ps) (hs : Same H H' H.length S) (hS : ∀ id, owns it id → ¬ S id) : QS n0 H' it ps := by
 rcases h with h | ⟨f, g, rest, h1, h2, h3⟩
 ·exact .inl h
 ·exact .inr ⟨f, g, rest, h1, h2, by rw [hs.look (look_lt h3) (hS f (h1 ▸ owns_mk))]; exact h3⟩
theorem set_self {C : List AV} {o : Nat} {it : AV} (ho : C[o]? = some it) : C.set o it = C := by
 obtain ⟨h, e⟩ := List.getElem?_eq_some_iff.1 ho
 rw [← e]; exact List.set_getElem_self h
theorem QStep.app {r o : Nat} {C : List AV} {ps : List Pkt} {it : AV} (hC : Zz.look H r 0 = some C) (ho : C[o]? = some it) (hq : QS n0 H it ps) (R : Hp) : QStep n0 H (H ++ R) r o C it it ps where
 at_ := by rw [look_left (look_lt hC), set_self ho]; exact hC
 qs := hq.app R
 own := fun id h => .inl h
 same := Same.app R
theorem at_run (hs : Γ.spec 24 = none) (hf : Γ.fn 24 = some ir24) (hs2 : Γ.spec 48 = none) (hf2 : Γ.fn 48 = some ir48) {r o pl : Nat} {C : List AV} {ps : List Pkt} {it : AV} {stays : Bool} (hC : Zz.look H r 0 = some C) (ho : C[o]? = some it) (hq : QS n0 H it ps) (hr : r < n0) (hn0 : n0 ≤ H.length)
  (hmax : ps.length ≤ 1000000) :
  WF Γ (.func 24 [] []) [.pref r 0 o, .int .i64 pl, .bool stays] ⟨H, L⟩ fun y m' => m'.loops = L ∧ y = resAt (takeAt ps pl stays).1 ∧ ∃ it', QStep n0 H m'.heap r o C it it' (takeAt ps pl stays).2 := by
 by_cases h0 : ps = []
 ·subst h0
  refine (at_none hs hf hC ho hq).mono ?_
  rintro y m' ⟨rfl, R, rfl⟩
  exact ⟨rfl, rfl, it, QStep.app hC ho hq R⟩
 ·have hpos : 0 < ps.length := by
   cases ps with
   | nil => exact absurd rfl h0
   | cons a l => simp
  have hi : pl % ps.length < ps.length := Nat.mod_lt _ hpos
  have ht : takeAt ps pl stays = (some ps[pl % ps.length], if stays then ps else ps.eraseIdx (pl % ps.length)) := by
   unfold takeAt
   rw [List.getElem?_eq_getElem hi]
  rcases hq with ⟨_, h⟩ | ⟨f, g, rest, rfl, hfn, hl⟩
  ·exact absurd h h0
  ·have hfr : f ≠ r := by omega
   have hq : QS n0 H (.sref f g 0 3 ps.length none) ps := .inr ⟨f, g, rest, rfl, hfn, hl⟩
   obtain ⟨br, hbr⟩ := look_some hC
   obtain ⟨bf, hbf⟩ := look_some hl
   have hr0 := look_lt hC
   have hf0 := look_lt hl
   rw [ht]
   refine (at_some (stays := stays) hs hf hs2 hf2 hC ho hl hfr hmax hi).mono ?_
   rintro y m' ⟨rfl, h⟩
   cases stays with
   | true =>
    obtain ⟨R, rfl⟩ := h
    exact ⟨rfl, rfl, _, QStep.app hC ho hq R⟩
   | false =>
    obtain ⟨rest', R, rfl⟩ := h
    refine ⟨rfl, rfl, .sref f g 0 3 (ps.length - 1) none, ?_, .inr ⟨f, g, rest', ?_, hfn, ?_⟩, fun id h => .inl (by rw [owns_sref h]; exact owns_mk), ?_⟩
    ·rw [look_left (by simpa using hr0)]
     exact look_set (by simpa using hr0)
    ·simp only [Bool.false_eq_true, if_false, List.length_eraseIdx_of_lt hi]
    ·simp only [Bool.false_eq_true, if_false]
     rw [look_left (by simpa using hf0), show Zz.look (List.set (H.set f (some ⟨g, pcells (ps.eraseIdx (pl % ps.length)) ++ rest'⟩)) r (some ⟨0, C.set o (.sref f g 0 3 (ps.length - 1) none)⟩)) f g = Zz.look (H.set f (some ⟨g, pcells (ps.eraseIdx (pl % ps.length)) ++ rest'⟩)) f g from look_of_get (List.getElem?_set_ne (Ne.symm hfr)), look_set hf0]
    ·have s1 : Same H (H.set f (some ⟨g, pcells (ps.eraseIdx (pl % ps.length)) ++ rest'⟩)) H.length (fun id => id = r ∨ owns (.sref f g 0 3 ps.length none) id) := Same.setL (.inr owns_mk) hbf
     have s2 := s1.trans (Same.setL (k := r) (b := some ⟨0, C.set o (.sref f g 0 3 (ps.length - 1) none)⟩) (.inl rfl) (by rw [List.getElem?_set_ne hfr]; exact hbr))
     exact s2.trans ((Same.app R).weaken (by simp) (fun _ _ h => h))
structure RunSt where
 seq : Int
 queue : List Int
 got : List Int
 forth : List Pkt
 back : List Pkt
 left : List Int
def BdS (n0 r : Nat) (H : Hp) (bd : AV) (l : List Int) : Prop := IntS bd l ∨ ∃ k g o c, bd = .sref k g o 1 l.length none ∧ k < n0 ∧ k ≠ r ∧ Zz.look H k g = some c ∧ c.drop o = l.map (AV.int .i64)
theorem BdS.len {n0 r : Nat} {H : Hp} {bd : AV} {l : List Int} (h : BdS n0 r H bd l) : slen bd = some l.length := by
 rcases h with h | ⟨k, g, o, c, rfl, _⟩
 ·exact h.len
 ·rfl
theorem BdS.cells {n0 r : Nat} {H : Hp} {bd : AV} {l : List Int} (h : BdS n0 r H bd l) : bd.cells = some [bd] := by
 rcases h with h | ⟨k, g, o, c, rfl, _⟩
 ·exact h.cells
 ·rfl
theorem BdS.keep {n0 r : Nat} {H H' : Hp} {bd : AV} {l : List Int} (h : BdS n0 r H bd l) (hk : ∀ k, k < n0 → k ≠ r → k < H.length → H'[k]? = H[k]?) : BdS n0 r H' bd l := by
 rcases h with h | ⟨k, g, o, c, rfl, h1, h2, h3, h4⟩
 ·exact .inl h
 ·exact .inr ⟨k, g, o, c, rfl, h1, h2, by rw [look_of_get (hk k h1 h2 (look_lt h3))]; exact h3, h4⟩
theorem BdS.start {H : Hp} {bd : AV} {l : List Int} (h : BdS H.length H.length H bd l) (R : Hp) : BdS (H.length + 13) (H.length + 2) (H ++ R) bd l := by
 rcases h with h | ⟨k, g, o, c, rfl, h1, h2, h3, h4⟩
 ·exact .inl h
 ·exact .inr ⟨k, g, o, c, rfl, by omega, by omega, by rw [look_left h1]; exact h3, h4⟩
theorem BdS.first {n0 r : Nat} {H : Hp} {bd : AV} {b : Int} {l : List Int} (h : BdS n0 r H bd (b :: l)) : ∃ a, indexAddrAV 1 bd (.int .i64 ((0 : Nat) : Int)) = some a ∧ loadAV H false 1 a = some (.int .i64 b) := by
 rcases h with h | ⟨k, g, o, c, rfl, h1, h2, h3, h4⟩
 ·refine ⟨_, h.at (i := 0) (by simp), ?_⟩
  simp [loadAV, loadCs]
 ·refine ⟨.pref k g (o + 0 * 1), by simp [indexAddrAV, idx], ?_⟩
  have e : c[o]? = some (.int .i64 b) := by
   have := congrArg (fun z : List AV => z[0]?) h4
   simpa using this
  simp [loadAV, h3, loadCs, e]
theorem BdS.rest {n0 r : Nat} {H : Hp} {bd : AV} {b : Int} {l : List Int} (h : BdS n0 r H bd (b :: l)) : ∃ bd', (∀ H', sliceAV H' 1 bd (some (.int .i64 ((1 : Nat) : Int))) none none = some bd') ∧ BdS n0 r H bd' l ∧ bd'.cells = some [bd'] := by
 rcases h with h | ⟨k, g, o, c, rfl, h1, h2, h3, h4⟩
 ·obtain ⟨bd', hb, hf⟩ := h.from (n := 1) (by simp)
  exact ⟨bd', hf, .inl (by simpa using hb), hb.cells⟩
 ·cases l with
  | nil =>
   refine ⟨.sval false 0 [], fun H' => ?_, .inl (.inr ⟨false, rfl⟩), rfl⟩
   simp [sliceAV, bnds, bndO, bnd]
  | cons b2 l =>
   have hd : c.drop (o + 1) = (b2 :: l).map (AV.int .i64) := by
    rw [← List.drop_drop, h4]
    rfl
   refine ⟨.sref k g (o + 1) 1 (l.length + 1) none, fun H' => ?_, .inr ⟨k, g, o + 1, c, rfl, h1, h2, h3, hd⟩, rfl⟩
   have e1 : (1 : Int) ≤ (l.length : Int) + 1 + 1 := by omega
   simp [sliceAV, bnds, bndO, bnd, e1]
structure RS (n0 r : Nat) (H : Hp) (X : RunSt) (q g fi bi bd : AV) : Prop where
 at_ : Zz.look H r 0 = some [.int .i64 X.seq, q, g, fi, bi, bd]
 hq : IntS q X.queue
 hg : IntS g X.got
 hfi : QS n0 H fi X.forth
 hbi : QS n0 H bi X.back
 hbd : BdS n0 r H bd X.left
 apart : ∀ id, owns fi id → owns bi id → False
theorem QStep.rs3 {H' : Hp} {r : Nat} {X : RunSt} {q g fi bi bd it' : AV} {ps : List Pkt} (h : RS n0 r H X q g fi bi bd) (k : QStep n0 H H' r 3 [.int .i64 X.seq, q, g, fi, bi, bd] fi it' ps) (hr : r < n0) (hn0 : n0 ≤ H.length) : RS n0 r H' { X with forth := ps } q g it' bi bd ∧ Same H H' n0 (fun id => id = r) := by
 refine ⟨⟨k.at_, h.hq, h.hg, k.qs, h.hbi.same k.same fun id ho hs => ?_, h.hbd.keep fun id hi hne _ => k.same.old id (by omega) (by rintro (e | e) <;> first | exact hne e | (have := h.hfi.own e; omega)), fun id h1 h2 => ?_⟩, ?_⟩
 ·rcases hs with e | e
  ·have := h.hbi.own ho; omega
  ·exact h.apart id e ho
 ·rcases k.own id h1 with e | e
  ·exact h.apart id e h2
  ·have := h.hbi.own h2; omega
 ·refine ⟨k.same.len, fun id hi hs => k.same.old id (by omega) ?_, k.same.dead⟩
  rintro (e | e)
  ·exact hs e
  ·have := h.hfi.own e; omega
theorem QStep.rs4 {H' : Hp} {r : Nat} {X : RunSt} {q g fi bi bd it' : AV} {ps : List Pkt} (h : RS n0 r H X q g fi bi bd) (k : QStep n0 H H' r 4 [.int .i64 X.seq, q, g, fi, bi, bd] bi it' ps) (hr : r < n0) (hn0 : n0 ≤ H.length) : RS n0 r H' { X with back := ps } q g fi it' bd ∧ Same H H' n0 (fun id => id = r) := by
 refine ⟨⟨k.at_, h.hq, h.hg, h.hfi.same k.same fun id ho hs => ?_, k.qs, h.hbd.keep fun id hi hne _ => k.same.old id (by omega) (by rintro (e | e) <;> first | exact hne e | (have := h.hbi.own e; omega)), fun id h1 h2 => ?_⟩, ?_⟩
 ·rcases hs with e | e
  ·have := h.hfi.own ho; omega
  ·exact h.apart id ho e
 ·rcases k.own id h2 with e | e
  ·exact h.apart id h1 e
  ·have := h.hfi.own h1; omega
 ·refine ⟨k.same.len, fun id hi hs => k.same.old id (by omega) ?_, k.same.dead⟩
  rintro (e | e)
  ·exact hs e
  ·have := h.hbi.own e; omega
theorem RS.app {r : Nat} {X : RunSt} {q g fi bi bd : AV} (h : RS n0 r H X q g fi bi bd) (R : Hp) : RS n0 r (H ++ R) X q g fi bi bd :=
 ⟨by rw [look_left (look_lt h.at_)]; exact h.at_, h.hq, h.hg, h.hfi.app R, h.hbi.app R, h.hbd.keep fun id _ _ hl => List.getElem?_append_left hl, h.apart⟩
theorem RS.turn {r : Nat} {X X' : RunSt} {q g fi bi bd q' g' bd' : AV} (h : RS n0 r H X q g fi bi bd) (hr : r < n0) (hn0 : n0 ≤ H.length) (hq : IntS q' X'.queue) (hg : IntS g' X'.got) (hbd : BdS n0 r H bd' X'.left) (e1 : X'.forth = X.forth) (e2 : X'.back = X.back) :
  RS n0 r (H.set r (some ⟨0, [.int .i64 X'.seq, q', g', fi, bi, bd']⟩)) X' q' g' fi bi bd' ∧ Same H (H.set r (some ⟨0, [.int .i64 X'.seq, q', g', fi, bi, bd']⟩)) n0 (fun id => id = r) := by
 obtain ⟨b, hb⟩ := look_some h.at_
 have s : Same H (H.set r (some ⟨0, [.int .i64 X'.seq, q', g', fi, bi, bd']⟩)) H.length (fun id => id = r) := Same.setL rfl hb
 refine ⟨⟨look_set (look_lt h.at_), hq, hg, ?_, ?_, hbd.keep fun id _ hne _ => List.getElem?_set_ne (Ne.symm hne), h.apart⟩, s.weaken hn0 fun _ _ h => h⟩
 ·rw [e1]
  exact h.hfi.same s fun id ho e => by have := h.hfi.own ho; omega
 ·rw [e2]
  exact h.hbi.same s fun id ho e => by have := h.hbi.own ho; omega
end
end Go.Proofs.YtgchabldcnmccacGreatDoor.Ln


set_option maxRecDepth 100000
set_option maxHeartbeats 8000000
namespace Go.Proofs.YtgchabldcnmccacGreatDoor.Ln
open Go.Zz
theorem send_bad {Γ : Env} (h26 : Spec26 Γ) {s b : Int} {q : AV} {qs : List Int} (hs : Γ.spec 51 = none) (hf : Γ.fn 51 = some ir51) (hq : IntS q qs) (h1 : I64 s) (hmax : qs.length < 9223372036854775808) (hb : ¬ (0 ≤ s ∧ s ≤ 1000 ∧ (qs.length : Int) ≤ 1000 - s)) :
  WF Γ (.func 51 [] []) [.agg [.int .i64 s, q], .int .i64 b] ⟨[], []⟩ fun y m' => resV m'.heap y = some (.tuple [.agg [.int .i64 0, .snil], .int .i64 1]) := by
 obtain ⟨S, hS, h26⟩ := h26
 have h26' : ∀ m, S [.agg [.int .i64 s, q]] m = some (.bool false, m) := fun m => by rw [h26 s q qs m hq h1 hmax, decide_eq_false hb]
 refine WF.fn hs hf (by show 2 ≤ 35; decide) ?_
 unfold ir51; dsimp only [k0, kI, mV, oO, oG]
 simp only [padTo, List.replicate, List.nil_append, List.append_nil]
 refine WC.seq (WC.region ?_)
 repeat (first
  | (refine WO.op (by intro; simp only [go_sem]; rfl) ?_; simp only [pt]))
 refine WO.nil ?_
 simp only [Then]
 refine WC.seq (WC.block (WC.seq (WC.region ?_)))
 refine WO.op (by intro; simp only [go_sem, Zz.look, cut, List.drop_zero]; rfl) ?_
 simp only [pt]
 refine WO.call rfl rfl (WF.spec hS (h26' _) ?_)
 simp only [pt]
 repeat (first
  | (refine WO.op (by intro; simp only [go_sem]; rfl) ?_; simp only [pt]))
 refine WO.nil ?_
 simp only [Then]
 refine WC.yes rfl (WC.seq (WC.region ?_))
 repeat (first
  | (refine WO.op (by intro; simp only [go_sem, fillP]; rfl) ?_; simp only [pt])
  | (refine WO.opN (by intro; simp only [go_sem, Zz.look, storeAt, over, setBlk]; rfl) ?_))
 refine WO.nil ?_
 simp only [Then]
 refine WC.ret ?_
 exact ⟨_, rfl, rfl⟩
theorem send_full {Γ : Env} (h26 : Spec26 Γ) {s b : Int} {q : AV} {qs : List Int} (hs : Γ.spec 51 = none) (hf : Γ.fn 51 = some ir51) (hq : IntS q qs) (h1 : I64 s) (hmax : qs.length < 9223372036854775808) (hb : 0 ≤ s ∧ s ≤ 1000 ∧ (qs.length : Int) ≤ 1000 - s) (hfull : s + qs.length = 1000) :
  WF Γ (.func 51 [] []) [.agg [.int .i64 s, q], .int .i64 b] ⟨[], []⟩ fun y m' => resV m'.heap y = some (.tuple [.agg [.int .i64 0, .snil], .int .i64 2]) := by
 obtain ⟨S, hS, h26⟩ := h26
 have h26' : ∀ m, S [.agg [.int .i64 s, q]] m = some (.bool true, m) := fun m => by rw [h26 s q qs m hq h1 hmax, decide_eq_true hb]
 have hw : IntKind.wrap .i64 (s + qs.length) = 1000 := by rw [wrap_id (by omega) (by omega)]; exact hfull
 refine WF.fn hs hf (by show 2 ≤ 35; decide) ?_
 unfold ir51; dsimp only [k0, kI, mV, oO, oG]
 simp only [padTo, List.replicate, List.nil_append, List.append_nil]
 refine WC.seq (WC.region ?_)
 repeat (first
  | (refine WO.op (by intro; simp only [go_sem]; rfl) ?_; simp only [pt]))
 refine WO.nil ?_
 simp only [Then]
 refine WC.seq (WC.block (WC.seq (WC.region ?_)))
 refine WO.op (by intro; simp only [go_sem, Zz.look, cut, List.drop_zero]; rfl) ?_
 simp only [pt]
 refine WO.call rfl rfl (WF.spec hS (h26' _) ?_)
 simp only [pt]
 repeat (first
  | (refine WO.op (by intro; simp only [go_sem]; rfl) ?_; simp only [pt]))
 refine WO.nil ?_
 simp only [Then]
 refine WC.no rfl (WC.seq (WC.region ?_))
 repeat (first
  | (refine WO.op (by intro; simp only [go_sem, Zz.look, cut]; rfl) ?_; simp only [pt]))
 refine WO.op (by intro; exact ev_lenS (n := qs.length) (by simp only [go_sem]; exact hq.len)) ?_
 simp only [pt]
 repeat (first
  | (refine WO.op (by intro; simp only [go_sem, hw, beq_self_eq_true]; rfl) ?_; simp only [pt]))
 refine WO.nil ?_
 simp only [Then]
 refine WC.yes rfl (WC.seq (WC.region ?_))
 repeat (first
  | (refine WO.op (by intro; simp only [go_sem, fillP]; rfl) ?_; simp only [pt])
  | (refine WO.opN (by intro; simp only [go_sem, Zz.look, storeAt, over, setBlk]; rfl) ?_))
 refine WO.nil ?_
 simp only [Then]
 refine WC.ret ?_
 exact ⟨_, rfl, rfl⟩
theorem IntS.clip {x : AV} {xs : List Int} (h : IntS x xs) : ∃ y, ((y = .snil ∧ xs = []) ∨ y = .sval true xs.length (xs.map (.int .i64))) ∧ ∀ H, sliceAV H 1 x none (some (.int .i64 (xs.length : Int))) (some (.int .i64 (xs.length : Int))) = some y := by
 rcases h with ⟨rfl, rfl⟩ | ⟨full, rfl⟩
 ·exact ⟨.snil, .inl ⟨rfl, rfl⟩, fun H => rfl⟩
 ·refine ⟨_, .inr rfl, fun H => ?_⟩
  simp only [sliceAV, List.length_map, Nat.mul_one, if_true, bnds, bndO, bnd]
  have hc : (if full = true then some xs.length else none).getD xs.length = xs.length := by cases full <;> rfl
  rw [hc, if_pos ⟨by omega, by omega⟩]
  simp [List.take_of_length_le]
theorem send_good {Γ : Env} (h26 : Spec26 Γ) {s b : Int} {q : AV} {qs : List Int} (hs : Γ.spec 51 = none) (hf : Γ.fn 51 = some ir51) (hq : IntS q qs) (h1 : I64 s) (hmax : qs.length < 9223372036854775808) (hb : 0 ≤ s ∧ s ≤ 1000 ∧ (qs.length : Int) ≤ 1000 - s) (hfull : ¬ s + qs.length = 1000) :
  ∃ v, IntS v (qs ++ [b]) ∧ WF Γ (.func 51 [] []) [.agg [.int .i64 s, q], .int .i64 b] ⟨[], []⟩ fun y m' => resV m'.heap y = some (.tuple [.agg [.int .i64 s, v], .int .i64 0]) := by
 obtain ⟨S, hS, h26⟩ := h26
 have h26' : ∀ m, S [.agg [.int .i64 s, q]] m = some (.bool true, m) := fun m => by rw [h26 s q qs m hq h1 hmax, decide_eq_true hb]
 have hw : IntKind.wrap .i64 (s + qs.length) = s + qs.length := wrap_id (by omega) (by omega)
 have hne : (s + (qs.length : Int) == 1000) = false := by simpa using hfull
 refine ⟨.sval false (qs.length + 1) (qs.map (.int .i64) ++ [.int .i64 b]), .inr ⟨false, by simp⟩, ?_⟩
 obtain ⟨y, hy, hsl⟩ := hq.clip
 have happ : ∀ a c, appendAV 1 8 ⟨[a, c, some ⟨0, [.int .i64 b]⟩], []⟩ y (.sref 2 0 0 1 1 (some 1)) = some (.sref 3 0 0 1 (qs.length + 1) none, ⟨[a, c, some ⟨0, [.int .i64 b]⟩, some ⟨0, qs.map (.int .i64) ++ [.int .i64 b]⟩], []⟩) := by
  intro a c
  rcases hy with ⟨rfl, rfl⟩ | rfl
  ·rfl
  ·simp only [appendAV, scells, slen, Zz.look, cut, List.getElem?_cons_succ, List.getElem?_cons_zero, Option.bind_eq_bind, Option.bind_some, if_true, List.length_map, Nat.mul_one, Nat.zero_add, List.length_cons, List.length_nil, Nat.le_refl, List.drop_zero]
   rw [if_neg (by omega), if_pos ⟨trivial, trivial, by omega, by omega⟩]
   simp [newBlk]
 have fl := flat_ints qs
 refine WF.fn hs hf (by show 2 ≤ 35; decide) ?_
 unfold ir51; dsimp only [k0, kI, mV, oO, oG]
 simp only [padTo, List.replicate, List.nil_append, List.append_nil]
 refine WC.seq (WC.region ?_)
 repeat (first
  | (refine WO.op (by intro; simp only [go_sem]; rfl) ?_; simp only [pt]))
 refine WO.nil ?_
 simp only [Then]
 refine WC.seq (WC.block (WC.seq (WC.region ?_)))
 refine WO.op (by intro; simp only [go_sem, Zz.look, cut, List.drop_zero]; rfl) ?_
 simp only [pt]
 refine WO.call rfl rfl (WF.spec hS (h26' _) ?_)
 simp only [pt]
 repeat (first
  | (refine WO.op (by intro; simp only [go_sem]; rfl) ?_; simp only [pt]))
 refine WO.nil ?_
 simp only [Then]
 refine WC.no rfl (WC.seq (WC.region ?_))
 repeat (first
  | (refine WO.op (by intro; simp only [go_sem, Zz.look, cut]; rfl) ?_; simp only [pt]))
 refine WO.op (by intro; exact ev_lenS (n := qs.length) (by simp only [go_sem]; exact hq.len)) ?_
 simp only [pt]
 repeat (first
  | (refine WO.op (by intro; simp only [go_sem, hw, hne]; rfl) ?_; simp only [pt]))
 refine WO.nil ?_
 simp only [Then]
 refine WC.no (by simp only [go_sem]) (WC.skip ?_)
 simp only [Then, Out]
 refine WC.seq (WC.region ?_)
 repeat (first
  | (refine WO.op (by intro; simp only [go_sem, Zz.look, cut]; rfl) ?_; simp only [pt]))
 refine WO.op (by intro; exact ev_lenS (n := qs.length) (by simp only [go_sem]; exact hq.len)) ?_
 simp only [pt]
 repeat (first
  | (refine WO.op (by intro; simp only [go_sem]; rfl) ?_; simp only [pt]))
 refine WO.nil ?_
 simp only [Then]
 refine WC.seq (WC.draw ?_)
 refine WD.free rfl (by intro; simp only [go_sem]; rfl) ?_
 simp only [pt, List.nil_append]
 refine WD.bigG rfl (by simp only [limit, strikes, blanks, onlyAt, List.map, go_sem]; rfl) (by intro; simp only [go_sem, Zz.look, cut]; rfl) rfl (by simp only [back]; rfl) (by simp only [go_sem]; rfl) ?_
 simp only [pt, St.put]
 refine WD.free rfl (by intro; simp only [go_sem]; rfl) ?_
 simp only [pt, List.nil_append, List.cons_append]
 refine WD.bigG rfl (by simp only [limit, strikes, blanks, onlyAt, List.map, go_sem]; rfl) (by intro; simp only [go_sem, Zz.look, cut]; rfl) rfl (by simp only [back]; rfl) (by simp only [go_sem]; rfl) ?_
 simp only [pt, St.put]
 refine WD.free rfl (by intro; simp only [go_sem]; rfl) ?_
 simp only [pt, List.nil_append, List.cons_append]
 refine WD.free rfl (by intro; simp only [go_sem]; rfl) ?_
 simp only [pt, List.nil_append, List.cons_append]
 refine WD.bigG rfl (limit_slice (xs := qs) hq) (by intro; rw [ev_slice]; simp only [go_sem]; exact (congrArg (Option.map _) (hsl _)).trans rfl) rfl (by simp only [back, blanks, strikes, List.map]; rfl) (by simp only [go_sem, blanks, strikes, List.map]; rfl) ?_
 simp only [pt, St.put]
 refine WD.free rfl (by intro; simp only [go_sem]; rfl) ?_
 simp only [pt, List.nil_append, List.cons_append]
 refine WD.bigG (V := [none, none]) (H2 := [some ⟨0, [.int .i64 s, q]⟩, some ⟨0, [.int .i64 0, .snil]⟩, some ⟨0, [.int .i64 b]⟩]) rfl rfl (by intro; simp only [go_sem, fillP, over]; rfl) rfl rfl rfl ?_
 simp only [pt, St.put, List.nil_append, List.cons_append]
 refine WD.bigG (V := [none, some ⟨0, [.int .i64 0, .snil]⟩, some ⟨0, [.int .i64 b]⟩]) (H2 := [some ⟨0, [.int .i64 s, q]⟩, some ⟨0, [.int .i64 0, .snil]⟩, some ⟨0, [.int .i64 b]⟩, some ⟨0, qs.map (.int .i64) ++ [.int .i64 b]⟩]) rfl rfl (by intro; rw [ev_append]; exact happ _ _) rfl rfl rfl ?_
 simp only [pt, St.put, List.nil_append, List.cons_append]
 refine WD.free rfl (by intro; simp only [go_sem, fillP, over]; rfl) ?_
 simp only [pt, List.nil_append, List.cons_append]
 refine WD.bigG (V := [none, some ⟨0, [.int .i64 0, .snil]⟩, none, none]) (H2 := [some ⟨0, [.int .i64 s, q]⟩, some ⟨0, [.int .i64 s, .sref 3 0 0 1 (qs.length + 1) none]⟩, some ⟨0, [.int .i64 b]⟩, some ⟨0, qs.map (.int .i64) ++ [.int .i64 b]⟩]) rfl rfl (by intro; simp only [go_sem, Zz.look, storeAt, setBlk, over]; rfl) rfl rfl rfl ?_
 simp only [St.put, List.nil_append, List.cons_append]
 refine WD.free rfl (by intro; simp only [go_sem]; rfl) ?_
 simp only [pt, List.nil_append, List.cons_append]
 refine WD.nil ?_
 simp only [Then]
 refine WC.ret ⟨_, rfl, ?_⟩
 simp [oneRes, gt, resV, resA, resC, resT, resL, Zz.look, cut, flatAV, St.mem, List.take_of_length_le]
end Go.Proofs.YtgchabldcnmccacGreatDoor.Ln


set_option maxRecDepth 100000
set_option maxHeartbeats 8000000
namespace Go.Proofs.YtgchabldcnmccacGreatDoor.Ln
variable {Sx : Nat → Option (List Go.Zz.AV → Go.Zz.Mem → Option (Go.Zz.AV × Go.Zz.Mem))}
open Go.Zz
noncomputable def G3 (Sx : Nat → Option (List AV → Mem → Option (AV × Mem))) : Env := { fn := G0.fn, spec := fun g => match g with
 | 51 => some (borrowE Gh 51)
 | 44 => some (borrowE Gh 44)
 | 50 => some (borrowE Gh 50)
 | 47 => some (borrowE G0 47)
 | 8 => none
 | 19 => none
 | 20 => none
 | 21 => none
 | 22 => none
 | 23 => none
 | 24 => none
 | 25 => none
 | 26 => none
 | 27 => none
 | 43 => none
 | 45 => none
 | 46 => none
 | 48 => none
 | 49 => none
 | g => Sx g }
theorem G3_ok (h : ∀ g S, Sx g = some S → SpecOk Tryz.prog g S) : EnvOk Tryz.prog (G3 Sx) := by
 refine ⟨G0_ok.fn, fun g S hS => ?_⟩
 unfold G3 at hS
 simp only at hS
 split at hS
 case h_1 => cases hS; exact borrowE_ok Gh_ok (callable Tryz.func51 (by kernel_rfl))
 case h_2 => cases hS; exact borrowE_ok Gh_ok (callable Tryz.func44 (by kernel_rfl))
 case h_3 => cases hS; exact borrowE_ok Gh_ok (callable Tryz.func50 (by kernel_rfl))
 case h_4 => cases hS; exact borrowE_ok G0_ok (callable Tryz.func47 (by kernel_rfl))
 case h_20 => exact h _ _ hS
 all_goals cases hS
def vS (s : Int) (qs : List Int) : Prop := 0 ≤ s ∧ s ≤ 1000 ∧ (qs.length : Int) ≤ 1000 - s
instance (s : Int) (qs : List Int) : Decidable (vS s qs) := by unfold vS; infer_instance
instance (s : Int) (qs : List Int) (ack : Bool) (ps bd : Int) : Decidable (Hears s qs ack ps bd) := by unfold Hears; infer_instance
instance (gs : List Int) (ack : Bool) (ps : Int) : Decidable (Takes gs ack ps) := by unfold Takes; infer_instance
def sendM (s : Int) (qs : List Int) (b : Int) : Int × List Int := if vS s qs ∧ ¬ s + qs.length = 1000 then (s, qs ++ [b]) else (0, [])
def sendE (s : Int) (qs : List Int) : Int := if vS s qs then (if s + qs.length = 1000 then 2 else 0) else 1
def outM (s : Int) (qs : List Int) : List Pkt := if vS s qs then outs s (qs.take (min 4 qs.length)) else []
def outE (s : Int) (qs : List Int) : Int := if vS s qs then 0 else 1
def hearM (s : Int) (qs : List Int) (p : Pkt) : Int × List Int := if Hears s qs p.1 p.2.1 p.2.2 then (s + (p.2.1 - s).toNat, qs.drop (p.2.1 - s).toNat) else (0, [])
def hearE (s : Int) (qs : List Int) (p : Pkt) : Int := if vS s qs ∧ p.1 = true ∧ p.2.2 = 0 ∧ 0 ≤ p.2.1 ∧ p.2.1 ≤ 1000 then (if p.2.1 - s ≤ qs.length then 0 else 6) else 1
def takeM (gs : List Int) (p : Pkt) : List Int × Pkt := if Takes gs p.1 p.2.1 then (takes gs p.2.1 p.2.2, (true, ((takes gs p.2.1 p.2.2).length : Int), 0)) else ([], (false, 0, 0))
def takeE (gs : List Int) (p : Pkt) : Int := if Takes gs p.1 p.2.1 then 0 else 1
theorem pureS {s : Int} {q : AV} {qs : List Int} (hq : IntS q qs) : Zz.pureA (.agg [.int .i64 s, q]) = true := by
 have e1 : Zz.pureC (.int .i64 s) = true := rfl
 simp [Zz.pureA, hq.pureC, e1]
theorem send_eq {s b : Int} {q : AV} {qs : List Int} (hq : IntS q qs) (h1 : I64 s) (hmax : qs.length < 9223372036854775808) :
  ∃ v, IntS v (sendM s qs b).2 ∧ ∀ m, borrowE Gh 51 [.agg [.int .i64 s, q], .int .i64 b] m = some (.tuple [.agg [.int .i64 (sendM s qs b).1, v], .int .i64 (sendE s qs)], m) := by
 have hp : [AV.agg [.int .i64 s, q], .int .i64 b].all pureA = true := by
  have e : Zz.pureA (.int .i64 b) = true := rfl
  simp [pureS hq, e]
 by_cases hv : vS s qs
 ·by_cases hf : s + qs.length = 1000
  ·refine ⟨.snil, .inl ⟨rfl, by simp [sendM, hf]⟩, fun m => ?_⟩
   rw [show sendM s qs b = (0, []) by simp [sendM, hf], show sendE s qs = 2 by simp [sendE, hv, hf]]
   exact borrowE_of hp (send_full spec26 rfl (fn_of Tryz.func51 cir51) hq h1 hmax hv hf)
  ·obtain ⟨v, hv', h⟩ := send_good (b := b) spec26 rfl (fn_of Tryz.func51 cir51) hq h1 hmax hv hf
   have e : sendM s qs b = (s, qs ++ [b]) := by simp [sendM, hv, hf]
   rw [e, show sendE s qs = 0 by simp [sendE, hv, hf]]
   exact ⟨v, hv', fun m => borrowE_of hp h⟩
 ·refine ⟨.snil, .inl ⟨rfl, by simp [sendM, hv]⟩, fun m => ?_⟩
  rw [show sendM s qs b = (0, []) by simp [sendM, hv], show sendE s qs = 1 by simp [sendE, hv]]
  exact borrowE_of hp (send_bad spec26 rfl (fn_of Tryz.func51 cir51) hq h1 hmax hv)
theorem out_eq {s : Int} {q : AV} {qs : List Int} (hq : IntS q qs) (h1 : I64 s) (hmax : qs.length < 9223372036854775808) :
  ∃ v, PackS v (outM s qs) ∧ ∀ m, borrowE Gh 44 [.agg [.int .i64 s, q]] m = some (.tuple [v, .int .i64 (outE s qs)], m) := by
 have hp : [AV.agg [.int .i64 s, q]].all pureA = true := by simp [pureS hq]
 by_cases hv : vS s qs
 ·obtain ⟨v, hv', h⟩ := out_good spec26 rfl (fn_of Tryz.func44 cir44) hq h1 hmax hv
  rw [show outM s qs = outs s (qs.take (min 4 qs.length)) by simp [outM, hv], show outE s qs = 0 by simp [outE, hv]]
  exact ⟨v, hv', fun m => borrowE_of hp h⟩
 ·refine ⟨.snil, .inl ⟨rfl, by simp [outM, hv]⟩, fun m => ?_⟩
  rw [show outE s qs = 1 by simp [outE, hv]]
  exact borrowE_of hp (out_bad spec26 rfl (fn_of Tryz.func44 cir44) hq h1 hmax hv)
theorem hear_eq {s : Int} {p : Pkt} {q : AV} {qs : List Int} (hq : IntS q qs) (h1 : I64 s) (h2 : I64 p.2.1) (hmax : qs.length < 9223372036854775808) :
  ∃ v, IntS v (hearM s qs p).2 ∧ ∀ m, borrowE Gh 50 [.agg [.int .i64 s, q], .agg (pk p)] m = some (.tuple [.agg [.int .i64 (hearM s qs p).1, v], .int .i64 (hearE s qs p)], m) := by
 obtain ⟨ack, ps, bd⟩ := p
 simp only [pk]
 have h2 : I64 ps := h2
 obtain ⟨f1, f2, f3⟩ := spec17 (ack := ack) (bd := bd) hq h1 h2 hmax
 by_cases hb : (0 ≤ s ∧ s ≤ 1000 ∧ (qs.length : Int) ≤ 1000 - s) ∧ ack = true ∧ bd = 0 ∧ 0 ≤ ps ∧ ps ≤ 1000
 ·by_cases hl : ps - s ≤ qs.length
  ·have hh : Hears s qs ack ps bd := ⟨hb.1, hb.2.1, hb.2.2.1, hb.2.2.2.1, hb.2.2.2.2, hl⟩
   have e1 : hearM s qs (ack, ps, bd) = (s + (ps - s).toNat, qs.drop (ps - s).toNat) := by simp [hearM, hh]
   have e2 : hearE s qs (ack, ps, bd) = 0 := (if_pos (show _ ∧ _ from ⟨hb.1, hb.2⟩)).trans (if_pos hl)
   rw [e1, e2]
   exact f3 hb (by omega)
  ·have hh : ¬ Hears s qs ack ps bd := fun h => hl h.2.2.2.2.2
   have e1 : hearM s qs (ack, ps, bd) = (0, []) := by simp [hearM, hh]
   have e2 : hearE s qs (ack, ps, bd) = 6 := (if_pos (show _ ∧ _ from ⟨hb.1, hb.2⟩)).trans (if_neg hl)
   rw [e1, e2]
   exact ⟨.snil, .inl ⟨rfl, rfl⟩, f2 hb (by omega)⟩
 ·have hh : ¬ Hears s qs ack ps bd := fun h => hb ⟨h.1, h.2.1, h.2.2.1, h.2.2.2.1, h.2.2.2.2.1⟩
  have e1 : hearM s qs (ack, ps, bd) = (0, []) := by simp [hearM, hh]
  have e2 : hearE s qs (ack, ps, bd) = 1 := if_neg hb
  rw [e1, e2]
  exact ⟨.snil, .inl ⟨rfl, rfl⟩, f1 hb⟩
theorem take_eq {p : Pkt} {g : AV} {gs : List Int} (hg : IntS g gs) (hmax : gs.length < 9223372036854775808) :
  ∃ v, IntS v (takeM gs p).1 ∧ ∀ m, borrowE G0 47 [.agg [g], .agg (pk p)] m = some (.tuple [.agg [v], .agg (pk (takeM gs p).2), .int .i64 (takeE gs p)], m) := by
 obtain ⟨ack, ps, bd⟩ := p
 by_cases hT : Takes gs ack ps
 ·obtain ⟨v, hv, h⟩ := take_yes (bd := bd) hg hT
  have e1 : takeM gs (ack, ps, bd) = (takes gs ps bd, (true, ((takes gs ps bd).length : Int), 0)) := by simp [takeM, hT]
  have e2 : takeE gs (ack, ps, bd) = 0 := by simp [takeE, hT]
  rw [e1, e2]
  exact ⟨v, hv, h⟩
 ·have e1 : takeM gs (ack, ps, bd) = ([], (false, 0, 0)) := by simp [takeM, hT]
  have e2 : takeE gs (ack, ps, bd) = 1 := by simp [takeE, hT]
  rw [e1, e2]
  exact ⟨.snil, .inl ⟨rfl, rfl⟩, take_no hg hmax hT⟩
theorem PackS.rd {v : AV} {ps : List Pkt} (h : PackS v ps) (H : Hp) : slen v = some ps.length ∧ scells H 3 v = some (pcells ps) := by
 rcases h with ⟨rfl, rfl⟩ | ⟨f, rfl⟩
 ·exact ⟨rfl, rfl⟩
 ·refine ⟨rfl, ?_⟩
  simp only [scells]
  exact if_pos (pcells_len ps)
def Stepped (n0 r : Nat) (H : Hp) (L : List (Option ALoop)) (X' : RunSt) (m' : Mem) : Prop :=
 m'.loops = L ∧ Same H m'.heap n0 (fun id => id = r) ∧ ∃ q g fi bi bd, RS n0 r m'.heap X' q g fi bi bd
structure Sm (X : RunSt) : Prop where
 seq : I64 X.seq
 queue : X.queue.length ≤ 1000
 got : X.got.length ≤ 1000
 left : X.left.length ≤ 1000
 forth : X.forth.length ≤ 100000
 back : X.back.length ≤ 100000
 acks : ∀ p ∈ X.back, I64 p.2.1
theorem outs_len : ∀ (s : Int) (l : List Int), (outs s l).length = l.length
 | _, [] => rfl
 | s, b :: r => by simp [outs, outs_len (s + 1) r]
theorem outM_len (s : Int) (qs : List Int) : (outM s qs).length ≤ 4 := by
 unfold outM
 split
 ·rw [outs_len, List.length_take]; omega
 ·simp
section
variable {H : Hp} {L : List (Option ALoop)} {n0 r : Nat} {X : RunSt} {q g fi bi bd : AV}
theorem sendStep_run (h : RS n0 r H X q g fi bi bd) (hs : Sm X) (hr : r < n0) (hn0 : n0 ≤ H.length) (pl : Int) :
  WF (G3 Sx) (.func 21 [.pref r 0 0] []) [.int .i64 pl] ⟨H, L⟩ fun y m' => Stepped n0 r H L { X with forth := X.forth ++ outM X.seq X.queue } m' := by
 have hC := h.at_
 have h1 := hs.seq
 have h2 := hs.queue
 have h3 := hs.forth
 have h4 := outM_len X.seq X.queue
 obtain ⟨v, hv, ho⟩ := out_eq h.hq h1 (by omega)
 obtain ⟨r1, r2⟩ := hv.rd H
 refine WF.fn rfl (fn_of Tryz.func21 cir21) (by show 2 ≤ 19; decide) ?_
 unfold ir21; dsimp only [k0, kI, mV, oO, oG]
 simp only [padTo, List.replicate, List.nil_append, List.append_nil, List.cons_append]
 refine WC.seq (WC.region ?_)
 repeat (first
  | (refine WO.op (by intro; simp only [go_sem, cut, nilCheckAV, hC]; rfl) ?_; simp only [pt]))
 refine WO.call rfl rfl (WF.spec rfl (ho _) ?_)
 simp only [pt]
 repeat (first
  | (refine WO.op (by intro; simp only [go_sem]; rfl) ?_; simp only [pt]))
 refine WO.nil ?_
 simp only [Then]
 refine WC.region ?_
 repeat (first
  | (refine WO.op (by intro; simp only [go_sem, nilCheckAV]; rfl) ?_; simp only [pt]))
 refine WO.call rfl rfl ((put_run (Γ := (G3 Sx)) (L := L) rfl (fn_of Tryz.func45 cir45) hC rfl h.hfi hr hn0 r1 r2 (by omega)).mono ?_)
 rintro y m' ⟨rfl, it', hk⟩
 simp only [pt]
 refine WO.nil ⟨_, rfl, rfl, ?_⟩
 obtain ⟨k1, k2⟩ := hk.rs3 h hr hn0
 exact ⟨k2, _, _, _, _, _, k1⟩
end
end Go.Proofs.YtgchabldcnmccacGreatDoor.Ln


set_option maxRecDepth 100000
set_option maxHeartbeats 8000000
namespace Go.Proofs.YtgchabldcnmccacGreatDoor.Ln
variable {Sx : Nat → Option (List Go.Zz.AV → Go.Zz.Mem → Option (Go.Zz.AV × Go.Zz.Mem))}
open Go.Zz
section
variable {H : Hp} {L : List (Option ALoop)} {n0 r : Nat} {X : RunSt} {q g fi bi bd : AV}
def handM (X : RunSt) : RunSt := match X.left with
 | [] => X
 | b :: l => { X with seq := (sendM X.seq X.queue b).1, queue := (sendM X.seq X.queue b).2, left := l }
theorem hand_run (h : RS n0 r H X q g fi bi bd) (hs : Sm X) (hr : r < n0) (hn0 : n0 ≤ H.length) (pl : Int) :
  WF (G3 Sx) (.func 27 [.pref r 0 0] []) [.int .i64 pl] ⟨H, L⟩ fun y m' => Stepped n0 r H L (handM X) m' := by
 have hC := h.at_
 have h1 := hs.seq
 have h2 := hs.queue
 have hll := hs.left
 have hr0 := look_lt hC
 have hlen := h.hbd.len
 cases hl : X.left with
 | nil =>
  have hz : ((X.left.length : Int) == 0) = true := by simp [hl]
  refine WF.fn rfl (fn_of Tryz.func27 cir27) (by show 2 ≤ 35; decide) ?_
  unfold ir27; dsimp only [k0, kI, mV, oO, oG]
  simp only [padTo, List.replicate, List.nil_append, List.append_nil, List.cons_append]
  refine WC.seq (WC.seq (WC.region ?_))
  repeat (first
   | (refine WO.op (by intro; simp only [go_sem, cut, nilCheckAV, hC]; rfl) ?_; simp only [pt]))
  refine WO.op (by intro; exact ev_lenS (n := X.left.length) (by simp only [go_sem]; exact hlen)) ?_
  simp only [pt]
  repeat (first
   | (refine WO.op (by intro; simp only [go_sem, hz]; rfl) ?_; simp only [pt]))
  refine WO.nil ?_
  simp only [Then]
  refine WC.yes (by simp only [go_sem]) (WC.ret ?_)
  refine ⟨_, rfl, rfl, Same.refl _ _ _, q, g, fi, bi, bd, ?_⟩
  rw [show handM X = X by simp [handM, hl]]
  exact h
 | cons b l =>
  have hz : ((X.left.length : Int) == 0) = false := by simp [hl]; omega
  have hX : handM X = { X with seq := (sendM X.seq X.queue b).1, queue := (sendM X.seq X.queue b).2, left := l } := by simp [handM, hl]
  obtain ⟨v, hv, hsend⟩ := send_eq (b := b) h.hq h1 (by omega)
  have hvc := hv.cells
  have hbdl := h.hbd
  rw [hl] at hbdl
  obtain ⟨a0, hix, hbl⟩ := hbdl.first
  obtain ⟨bd', hfrom, hbd', hbc⟩ := hbdl.rest
  simp only [AV.cells] at hbc
  obtain ⟨br, hbr⟩ := look_some hC
  have hC2 : ∀ b, Zz.look (H.set r (some ⟨0, b⟩)) r 0 = some b := fun b => look_set hr0
  refine WF.fn rfl (fn_of Tryz.func27 cir27) (by show 2 ≤ 35; decide) ?_
  unfold ir27; dsimp only [k0, kI, mV, oO, oG]
  simp only [padTo, List.replicate, List.nil_append, List.append_nil, List.cons_append]
  refine WC.seq (WC.seq (WC.region ?_))
  repeat (first
   | (refine WO.op (by intro; simp only [go_sem, cut, nilCheckAV, hC]; rfl) ?_; simp only [pt]))
  refine WO.op (by intro; exact ev_lenS (n := X.left.length) (by simp only [go_sem]; exact hlen)) ?_
  simp only [pt]
  repeat (first
   | (refine WO.op (by intro; simp only [go_sem, hz]; rfl) ?_; simp only [pt]))
  refine WO.nil ?_
  simp only [Then]
  refine WC.no (by simp only [go_sem]) (WC.skip ?_)
  simp only [Then]
  refine WC.seq (WC.draw (WD.calmN 11 rfl ?_))
  simp only [List.take, List.drop, List.map]
  repeat (first
   | (refine WO.op (by intro; simp only [go_sem, cut, nilCheckAV, hC]; rfl) ?_; simp only [pt]))
  refine WO.op (by intro; rw [ev_indexAddr]; exact (congrArg (Option.map _) hix).trans rfl) ?_
  simp only [pt]
  refine WO.op (by intro; rw [ev_load]; exact (congrArg (Option.map _) hbl).trans rfl) ?_
  simp only [pt]
  refine WO.nil ?_
  intro seen
  refine WD.callP (WF.spec (S := borrowE Gh 51) rfl (hsend _) ⟨dead_self _, ?_⟩)
  intro seen
  refine WD.calmN 6 rfl ?_
  simp only [List.take, List.drop, List.map, St.put, pt]
  repeat (first
   | (refine WO.op (by intro; simp only [go_sem, nilCheckAV]; rfl) ?_; simp only [pt])
   | (refine WO.opN (by intro; simp only [go_sem, storeAt, Option.bind_eq_bind, over, setBlk, hC]; rfl) ?_))
  refine WO.nil ?_
  intro seen
  refine WD.nil ?_
  simp only [Then, List.take, List.drop, List.nil_append, List.cons_append]
  refine WC.region ?_
  repeat (first
   | (refine WO.op (by intro; simp only [go_sem, cut, nilCheckAV, hC2]; rfl) ?_; simp only [pt]))
  refine WO.op (by intro; rw [ev_slice]; exact (congrArg (Option.map _) (hfrom _)).trans rfl) ?_
  simp only [pt]
  repeat (first
   | (refine WO.op (by intro; simp only [go_sem, nilCheckAV]; rfl) ?_; simp only [pt])
   | (refine WO.opN (by intro; simp only [go_sem, storeAt, Option.bind_eq_bind, over, setBlk, hC2, hbc, List.set_set]; rfl) ?_))
  refine WO.nil ⟨_, rfl, rfl, ?_⟩
  have e : l = X.left.drop 1 := by rw [hl]; rfl
  rw [hX]
  obtain ⟨k1, k2⟩ := h.turn (X' := { X with seq := (sendM X.seq X.queue b).1, queue := (sendM X.seq X.queue b).2, left := l }) hr hn0 hv h.hg hbd' rfl rfl
  exact ⟨k2, _, _, _, _, _, k1⟩
theorem forthAt_run (h : RS n0 r H X q g fi bi bd) (hs : Sm X) (hr : r < n0) (hn0 : n0 ≤ H.length) {c : Nat} (hc : Zz.look H c 0 = some [.pref r 0 0]) (pl : Nat) :
  WF (G3 Sx) (.func 23 [] [.pref c 0 0]) [.int .i64 pl] ⟨H, L⟩ fun y m' => Stepped n0 r H L { X with forth := (takeAt X.forth pl false).2 } m' := by
 have hC := h.at_
 have h3 := hs.forth
 refine WF.fn rfl (fn_of Tryz.func23 cir23) (by show 2 ≤ 8; decide) ?_
 unfold ir23; dsimp only [k0, kI, mV, oO, oG]
 simp only [padTo, List.replicate, List.nil_append, List.cons_append]
 refine WC.region ?_
 repeat (first
  | (refine WO.op (by intro; simp only [go_sem, cut, nilCheckAV, hc]; rfl) ?_; simp only [pt]))
 refine WO.call rfl rfl ((at_run (Γ := (G3 Sx)) (L := L) (stays := false) (pl := pl) rfl (fn_of Tryz.func24 cir24) rfl (fn_of Tryz.func48 cir48) hC rfl h.hfi hr hn0 (by omega)).mono ?_)
 rintro y m' ⟨rfl, rfl, it', hk⟩
 simp only [pt]
 refine WO.nil ⟨_, rfl, rfl, ?_⟩
 obtain ⟨k1, k2⟩ := hk.rs3 h hr hn0
 exact ⟨k2, _, _, _, _, _, k1⟩
theorem backAt_run (h : RS n0 r H X q g fi bi bd) (hs : Sm X) (hr : r < n0) (hn0 : n0 ≤ H.length) {c : Nat} (hc : Zz.look H c 0 = some [.pref r 0 0]) (pl : Nat) :
  WF (G3 Sx) (.func 26 [] [.pref c 0 0]) [.int .i64 pl] ⟨H, L⟩ fun y m' => Stepped n0 r H L { X with back := (takeAt X.back pl false).2 } m' := by
 have hC := h.at_
 have h3 := hs.back
 refine WF.fn rfl (fn_of Tryz.func26 cir26) (by show 2 ≤ 8; decide) ?_
 unfold ir26; dsimp only [k0, kI, mV, oO, oG]
 simp only [padTo, List.replicate, List.nil_append, List.cons_append]
 refine WC.region ?_
 repeat (first
  | (refine WO.op (by intro; simp only [go_sem, cut, nilCheckAV, hc]; rfl) ?_; simp only [pt]))
 refine WO.call rfl rfl ((at_run (Γ := (G3 Sx)) (L := L) (stays := false) (pl := pl) rfl (fn_of Tryz.func24 cir24) rfl (fn_of Tryz.func48 cir48) hC rfl h.hbi hr hn0 (by omega)).mono ?_)
 rintro y m' ⟨rfl, rfl, it', hk⟩
 simp only [pt]
 refine WO.nil ⟨_, rfl, rfl, ?_⟩
 obtain ⟨k1, k2⟩ := hk.rs4 h hr hn0
 exact ⟨k2, _, _, _, _, _, k1⟩
end
end Go.Proofs.YtgchabldcnmccacGreatDoor.Ln

